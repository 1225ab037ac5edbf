/- SHA-256 in plain words: the whole of it. -/
import Derived.Test.YtlaodmpdngdhjaaSa
namespace Go.Proofs.Ytlaodmpdngdhjaa
set_option linter.unusedVariables false
set_option linter.unusedSimpArgs false

def mo (L : List UInt8) : Nat → Int := fun j => ((L.getD j 0).toNat : Int)
theorem W1_congr {m m' : Nat → Int} (h : ∀ j, j < 64 → m j = m' j) : ∀ k, k ≤ 16 → W1 m k = W1 m' k
  | 0, _ => rfl
  | k + 1, hk => by rw [W1, W1, W1_congr h k (by omega), h (4 * k) (by omega), h (4 * k + 1) (by omega), h (4 * k + 2) (by omega), h (4 * k + 3) (by omega)]
theorem W2_congr {m m' : Nat → Int} (h : ∀ j, j < 64 → m j = m' j) : ∀ k, W2 m k = W2 m' k
  | 0 => W1_congr h 16 (Nat.le_refl _)
  | k + 1 => by rw [W2, W2, W2_congr h k]
theorem cmp_congr (v : V8) {m m' : Nat → Int} (h : ∀ j, j < 64 → m j = m' j) : cmp v m = cmp v m' := by unfold cmp; rw [W2_congr h]
def blocksG (f : V8 → List UInt8 → V8) : Nat → V8 → List UInt8 → V8
  | 0, h, _ => h
  | k + 1, h, L => blocksG f k (f h L) (L.drop 64)
theorem blocksG_succ (f : V8 → List UInt8 → V8) (h : V8) (k : Nat) (L : List UInt8) : blocksG f (k + 1) h L = blocksG f k (f h L) (L.drop 64) := rfl
def blocks (h : V8) (k : Nat) (L : List UInt8) : V8 := blocksG (fun h L => cmp h (mo L)) k h L
theorem blocks_zero (h : V8) (L : List UInt8) : blocks h 0 L = h := by unfold blocks; exact rfl
theorem blocks_succ (h : V8) (k : Nat) (L : List UInt8) : blocks h (k + 1) L = blocks (cmp h (mo L)) k (L.drop 64) := by
  unfold blocks
  rw [blocksG_succ]
theorem blocks_add (i k : Nat) : ∀ (h : V8) (L : List UInt8), blocks h (i + k) L = blocks (blocks h i L) k (L.drop (64 * i)) := by
  induction i with
  | zero => intro h L; rw [Nat.zero_add, blocks_zero, Nat.mul_zero, List.drop_zero]
  | succ i ih =>
    intro h L
    rw [show i + 1 + k = (i + k) + 1 by omega, blocks_succ, blocks_succ, ih, List.drop_drop]
    rw [show 64 + 64 * i = 64 * (i + 1) by omega]
theorem blocks_snoc (h : V8) (i : Nat) (L : List UInt8) : blocks h (i + 1) L = cmp (blocks h i L) (mo (L.drop (64 * i))) := by
  rw [blocks_add, blocks_succ, blocks_zero]
theorem blocks_append (i : Nat) : ∀ (h : V8) (A C : List UInt8), 64 * i ≤ A.length → blocks h i (A ++ C) = blocks h i A := by
  induction i with
  | zero => intro h A C _; rw [blocks_zero, blocks_zero]
  | succ i ih =>
    intro h A C hl
    have e : cmp h (mo (A ++ C)) = cmp h (mo A) := cmp_congr h fun j hj => by
      unfold mo
      rw [List.getD_eq_getElem?_getD, List.getD_eq_getElem?_getD, List.getElem?_append_left (by omega)]
    rw [blocks_succ, blocks_succ, e, List.drop_append_of_le_length (by omega), ih _ _ _ (by rw [List.length_drop]; omega)]
theorem blocks_ok {h : V8} (hh : h.Ok) (i : Nat) (L : List UInt8) : (blocks h i L).Ok := by
  cases i with
  | zero => rw [blocks_zero]; exact hh
  | succ i => rw [blocks_snoc]; exact cmp_ok _ _
/-- What a stream holds after some bytes: the chaining value, and the bytes of the block that is not complete. -/
def stv (B : List UInt8) : V8 := blocks ini (B.length / 64) B
def rst (B : List UInt8) : List UInt8 := B.drop (64 * (B.length / 64))
theorem rst_len (B : List UInt8) : (rst B).length = B.length % 64 := by unfold rst; rw [List.length_drop]; omega
/-- More bytes. -/
theorem more_blocks (B C : List UInt8) (i : Nat) (hi : 64 * i ≤ (rst B ++ C).length) : blocks (stv B) i (rst B ++ C) = blocks ini (B.length / 64 + i) (B ++ C) := by
  rw [blocks_add, blocks_append (B.length / 64) ini B C (by omega), List.drop_append_of_le_length (by omega)]
  rfl
theorem more_stv (B C : List UInt8) : blocks (stv B) ((rst B ++ C).length / 64) (rst B ++ C) = stv (B ++ C) := by
  rw [more_blocks B C _ (by omega)]
  unfold stv
  congr 1
  rw [List.length_append, List.length_append, rst_len]
  omega
theorem more_rst (B C : List UInt8) : (rst B ++ C).drop (64 * ((rst B ++ C).length / 64)) = rst (B ++ C) := by
  have hl : (rst B ++ C).length = B.length % 64 + C.length := by rw [List.length_append, rst_len]
  have e : B ++ C = B.take (64 * (B.length / 64)) ++ (rst B ++ C) := by
    rw [← List.append_assoc]
    unfold rst
    rw [List.take_append_drop]
  have h2 : (B.take (64 * (B.length / 64))).length = 64 * (B.length / 64) := by rw [List.length_take]; omega
  have h3 : 64 * ((B ++ C).length / 64) = (B.take (64 * (B.length / 64))).length + 64 * ((rst B ++ C).length / 64) := by
    rw [h2, hl, List.length_append]
    have := Nat.div_add_mod B.length 64
    omega
  show _ = (B ++ C).drop (64 * ((B ++ C).length / 64))
  rw [h3]
  conv => rhs; rw [e]
  rw [List.drop_length_add_append]
def zs (n : Nat) : Nat := (119 - n % 64) % 64
def nb (n i : Nat) : Nat := 8 * n / 2 ^ (8 * i)
def tl8 (n : Nat) : List UInt8 := [UInt8.ofNat (nb n 7), UInt8.ofNat (nb n 6), UInt8.ofNat (nb n 5), UInt8.ofNat (nb n 4), UInt8.ofNat (nb n 3), UInt8.ofNat (nb n 2), UInt8.ofNat (nb n 1), UInt8.ofNat (nb n 0)]
def pdg (n : Nat) : List UInt8 := 128 :: (List.replicate (zs n) 0 ++ tl8 n)
theorem pdg_len (n : Nat) : (pdg n).length = zs n + 9 := by simp [pdg, tl8]
def outW (x : Int) : List UInt8 := [UInt8.ofNat (x / 16777216).toNat, UInt8.ofNat (x / 65536).toNat, UInt8.ofNat (x / 256).toNat, UInt8.ofNat x.toNat]
def outV (v : V8) : List UInt8 := outW v.a ++ outW v.b ++ outW v.c ++ outW v.d ++ outW v.e ++ outW v.f ++ outW v.g ++ outW v.h
def shaL (L : List UInt8) : List UInt8 := outV (blocks ini ((L.length + zs L.length + 9) / 64) (L ++ pdg L.length))
def sha (L : List UInt8) : ByteArray := ⟨(shaL L).toArray⟩
theorem shaL_len (L : List UInt8) : (shaL L).length = 32 := rfl
theorem sha_size (L : List UInt8) : (sha L).size = 32 := by
  show (shaL L).toArray.size = 32
  rw [List.size_toArray, shaL_len]
theorem zs_total (n : Nat) : (n + zs n + 9) % 64 = 0 ∧ zs n < 64 := by unfold zs; omega
/-- The end of a stream. -/
theorem end_stream (B : List UInt8) : blocks (stv B) ((rst B ++ pdg B.length).length / 64) (rst B ++ pdg B.length) = blocks ini ((B.length + zs B.length + 9) / 64) (B ++ pdg B.length) := by
  rw [more_blocks B _ _ (by omega)]
  congr 1
  rw [List.length_append, rst_len, pdg_len]
  omega
/-- The cells of bytes. -/
def bys (L : List UInt8) : List Value := L.map fun b => .int .u8 (b.toNat : Int)
theorem bys_len (L : List UInt8) : (bys L).length = L.length := by simp [bys]
theorem bys_append (L M : List UInt8) : bys (L ++ M) = bys L ++ bys M := by simp [bys]
theorem bys_get {L : List UInt8} {i : Nat} (h : i < L.length) : (bys L)[i]? = some (.int .u8 (mo L i)) := by
  simp [bys, mo, List.getD_eq_getElem?_getD, h]
theorem bys_one (L : List UInt8) : ∀ u ∈ bys L, u.oneCell' = true := by
  intro u hu
  obtain ⟨b, _, rfl⟩ := List.mem_map.1 hu
  rfl
theorem mo_bd (L : List UInt8) (i : Nat) : 0 ≤ mo L i ∧ mo L i ≤ 255 := by
  unfold mo
  have := (L.getD i 0).toNat_lt
  omega
theorem outV_take (r : V8) (k : Nat) (h : k < 8) : (outV r).take (4 * (k + 1)) = (outV r).take (4 * k) ++ outW (r.lst.getD k 0) := by
  match k, h with
  | 0, _ => rfl
  | 1, _ => rfl
  | 2, _ => rfl
  | 3, _ => rfl
  | 4, _ => rfl
  | 5, _ => rfl
  | 6, _ => rfl
  | 7, _ => rfl
theorem bys_outW (x : Int) (h : B32 x) : bys (outW x) = [.int .u8 (x / 16777216), .int .u8 (x / 65536 % 256), .int .u8 (x / 256 % 256), .int .u8 (x % 256)] := by
  obtain ⟨h0, h1⟩ := h
  simp only [bys, outW, List.map_cons, List.map_nil, UInt8.toNat_ofNat']
  have e1 : (((x / 16777216).toNat % 2 ^ 8 : Nat) : Int) = x / 16777216 := by omega
  have e2 : (((x / 65536).toNat % 2 ^ 8 : Nat) : Int) = x / 65536 % 256 := by omega
  have e3 : (((x / 256).toNat % 2 ^ 8 : Nat) : Int) = x / 256 % 256 := by omega
  have e4 : ((x.toNat % 2 ^ 8 : Nat) : Int) = x % 256 := by omega
  rw [e1, e2, e3, e4]
theorem tl8_get (n k : Nat) (h : k < 8) : (tl8 n)[k]? = some (UInt8.ofNat (nb n (7 - k))) := by
  match k, h with
  | 0, _ => rfl
  | 1, _ => rfl
  | 2, _ => rfl
  | 3, _ => rfl
  | 4, _ => rfl
  | 5, _ => rfl
  | 6, _ => rfl
  | 7, _ => rfl
theorem tl8_step (n k P : Nat) (A R : List UInt8) (x : Int) (h : k < 8) (hP : 2 ^ (8 * (7 - k)) = P) (hx : x = ((8 * n / P % 256 : Nat) : Int)) :
    bys (A ++ 128 :: (R ++ (tl8 n).take (k + 1))) = bys (A ++ 128 :: (R ++ (tl8 n).take k)) ++ [.int .u8 x] := by
  rw [List.take_add_one, tl8_get n k h]
  have e : A ++ 128 :: (R ++ ((tl8 n).take k ++ (some (UInt8.ofNat (nb n (7 - k)))).toList)) = (A ++ 128 :: (R ++ (tl8 n).take k)) ++ [UInt8.ofNat (nb n (7 - k))] := by simp
  rw [e, bys_append]
  congr 1
  simp only [bys, List.map_cons, List.map_nil]
  congr 2
  rw [hx, UInt8.toNat_ofNat', nb, hP]
end Go.Proofs.Ytlaodmpdngdhjaa
