/- SHA-256 in plain words: the words of a block, the rounds. -/
import Derived.WalkKit
import Derived.Laws.Closers25b
import Derived.Lib.Hide
namespace Go.Proofs.Ytlaodmpdngdhjaa
set_option linter.unusedVariables false
set_option linter.unusedSimpArgs false

/-- A word's bounds. -/
def B32 (x : Int) : Prop := 0 ≤ x ∧ x ≤ 4294967295
def rot (n : Nat) (x : Int) : Int := bits .or .u32 (x / 2 ^ n) (x * 2 ^ (32 - n) % 4294967296)
def ad (x y : Int) : Int := (x + y) % 4294967296
def xr (x y : Int) : Int := bits .xor .u32 x y
def an (x y : Int) : Int := bits .and .u32 x y
def nt (x : Int) : Int := bits .xor .u32 IntKind.u32.max x
theorem b_rot (n : Nat) (x : Int) : B32 (rot n x) := ⟨bits_lo_u32 _ _ _, bits_hi_u32 _ _ _⟩
theorem b_ad (x y : Int) : B32 (ad x y) := by unfold B32 ad; omega
theorem b_xr (x y : Int) : B32 (xr x y) := ⟨bits_lo_u32 _ _ _, bits_hi_u32 _ _ _⟩
theorem b_an (x y : Int) : B32 (an x y) := ⟨bits_lo_u32 _ _ _, bits_hi_u32 _ _ _⟩
theorem b_nt (x : Int) : B32 (nt x) := ⟨bits_lo_u32 _ _ _, bits_hi_u32 _ _ _⟩
theorem ad_comm (x y : Int) : ad x y = ad y x := by unfold ad; rw [Int.add_comm]
theorem ad_assoc (x y z : Int) : ad (ad x y) z = ad x (ad y z) := by unfold ad; omega
def sg0 (x : Int) : Int := xr (xr (rot 7 x) (rot 18 x)) (x / 8)
def sg1 (x : Int) : Int := xr (xr (rot 17 x) (rot 19 x)) (x / 1024)
def su0 (x : Int) : Int := xr (xr (rot 2 x) (rot 13 x)) (rot 22 x)
def su1 (x : Int) : Int := xr (xr (rot 6 x) (rot 11 x)) (rot 25 x)
def chf (e f g : Int) : Int := xr (an e f) (an (nt e) g)
def maj (a b c : Int) : Int := xr (xr (an a b) (an a c)) (an b c)
def be (p q r s : Int) : Int := bits .or .u32 (bits .or .u32 (bits .or .u32 (p * 16777216) (q * 65536)) (r * 256)) s
theorem b_be (p q r s : Int) : B32 (be p q r s) := ⟨bits_lo_u32 _ _ _, bits_hi_u32 _ _ _⟩
theorem rot7 (x : Int) : rot 7 x = bits .or .u32 (x / 128) (x * 33554432 % 4294967296) := by simp [rot]
theorem rot18 (x : Int) : rot 18 x = bits .or .u32 (x / 262144) (x * 16384 % 4294967296) := by simp [rot]
theorem rot17 (x : Int) : rot 17 x = bits .or .u32 (x / 131072) (x * 32768 % 4294967296) := by simp [rot]
theorem rot19 (x : Int) : rot 19 x = bits .or .u32 (x / 524288) (x * 8192 % 4294967296) := by simp [rot]
theorem rot2 (x : Int) : rot 2 x = bits .or .u32 (x / 4) (x * 1073741824 % 4294967296) := by simp [rot]
theorem rot13 (x : Int) : rot 13 x = bits .or .u32 (x / 8192) (x * 524288 % 4294967296) := by simp [rot]
theorem rot22 (x : Int) : rot 22 x = bits .or .u32 (x / 4194304) (x * 1024 % 4294967296) := by simp [rot]
theorem rot6 (x : Int) : rot 6 x = bits .or .u32 (x / 64) (x * 67108864 % 4294967296) := by simp [rot]
theorem rot11 (x : Int) : rot 11 x = bits .or .u32 (x / 2048) (x * 2097152 % 4294967296) := by simp [rot]
theorem rot25 (x : Int) : rot 25 x = bits .or .u32 (x / 33554432) (x * 128 % 4294967296) := by simp [rot]
theorem sg0_lit (x : Int) : sg0 x = bits .xor .u32 (bits .xor .u32 (bits .or .u32 (x / 128) (x * 33554432 % 4294967296)) (bits .or .u32 (x / 262144) (x * 16384 % 4294967296))) (x / 8) := by unfold sg0 xr; rw [rot7, rot18]
theorem sg1_lit (x : Int) : sg1 x = bits .xor .u32 (bits .xor .u32 (bits .or .u32 (x / 131072) (x * 32768 % 4294967296)) (bits .or .u32 (x / 524288) (x * 8192 % 4294967296))) (x / 1024) := by unfold sg1 xr; rw [rot17, rot19]
theorem su0_lit (x : Int) : su0 x = bits .xor .u32 (bits .xor .u32 (bits .or .u32 (x / 4) (x * 1073741824 % 4294967296)) (bits .or .u32 (x / 8192) (x * 524288 % 4294967296))) (bits .or .u32 (x / 4194304) (x * 1024 % 4294967296)) := by unfold su0 xr; rw [rot2, rot13, rot22]
theorem su1_lit (x : Int) : su1 x = bits .xor .u32 (bits .xor .u32 (bits .or .u32 (x / 64) (x * 67108864 % 4294967296)) (bits .or .u32 (x / 2048) (x * 2097152 % 4294967296))) (bits .or .u32 (x / 33554432) (x * 128 % 4294967296)) := by unfold su1 xr; rw [rot6, rot11, rot25]
/-- The words, as they are filled in. -/
def W1 (m : Nat → Int) : Nat → List Int
  | 0 => List.replicate 64 0
  | k + 1 => (W1 m k).set k (be (m (4 * k)) (m (4 * k + 1)) (m (4 * k + 2)) (m (4 * k + 3)))
def wn (a b c d : Int) : Int := ad (ad (ad a (sg0 b)) c) (sg1 d)
def W2 (m : Nat → Int) : Nat → List Int
  | 0 => W1 m 16
  | j + 1 => (W2 m j).set (j + 16) (wn ((W2 m j).getD j 0) ((W2 m j).getD (j + 1) 0) ((W2 m j).getD (j + 9) 0) ((W2 m j).getD (j + 14) 0))
theorem W1_len (m : Nat → Int) (k : Nat) : (W1 m k).length = 64 := by
  induction k with
  | zero => rfl
  | succ k ih => rw [W1, List.length_set, ih]
theorem W2_len (m : Nat → Int) (k : Nat) : (W2 m k).length = 64 := by
  induction k with
  | zero => exact W1_len m 16
  | succ k ih => rw [W2, List.length_set, ih]
def All32 (L : List Int) : Prop := ∀ i, B32 (L.getD i 0)
theorem all_set {L : List Int} (h : All32 L) (k : Nat) (x : Int) (hx : B32 x) : All32 (L.set k x) := by
  intro i
  rw [List.getD_eq_getElem?_getD, List.getElem?_set]
  split
  · split
    · exact hx
    · exact ⟨by decide, by decide⟩
  · have := h i
    rwa [List.getD_eq_getElem?_getD] at this
theorem W1_all (m : Nat → Int) (k : Nat) : All32 (W1 m k) := by
  induction k with
  | zero =>
    intro i
    rw [W1, List.getD_eq_getElem?_getD, List.getElem?_replicate]
    split <;> exact ⟨by decide, by decide⟩
  | succ k ih => exact all_set ih _ _ (b_be _ _ _ _)
theorem W2_all (m : Nat → Int) (k : Nat) : All32 (W2 m k) := by
  induction k with
  | zero => exact W1_all m 16
  | succ k ih => exact all_set ih _ _ (b_ad _ _)
/-- Eight words. -/
structure V8 where
  a : Int
  b : Int
  c : Int
  d : Int
  e : Int
  f : Int
  g : Int
  h : Int
structure V8.Ok (v : V8) : Prop where
  a : B32 v.a
  b : B32 v.b
  c : B32 v.c
  d : B32 v.d
  e : B32 v.e
  f : B32 v.f
  g : B32 v.g
  h : B32 v.h
def KK : List Int := [
  0x428a2f98, 0x71374491, 0xb5c0fbcf, 0xe9b5dba5, 0x3956c25b, 0x59f111f1, 0x923f82a4, 0xab1c5ed5,
  0xd807aa98, 0x12835b01, 0x243185be, 0x550c7dc3, 0x72be5d74, 0x80deb1fe, 0x9bdc06a7, 0xc19bf174,
  0xe49b69c1, 0xefbe4786, 0x0fc19dc6, 0x240ca1cc, 0x2de92c6f, 0x4a7484aa, 0x5cb0a9dc, 0x76f988da,
  0x983e5152, 0xa831c66d, 0xb00327c8, 0xbf597fc7, 0xc6e00bf3, 0xd5a79147, 0x06ca6351, 0x14292967,
  0x27b70a85, 0x2e1b2138, 0x4d2c6dfc, 0x53380d13, 0x650a7354, 0x766a0abb, 0x81c2c92e, 0x92722c85,
  0xa2bfe8a1, 0xa81a664b, 0xc24b8b70, 0xc76c51a3, 0xd192e819, 0xd6990624, 0xf40e3585, 0x106aa070,
  0x19a4c116, 0x1e376c08, 0x2748774c, 0x34b0bcb5, 0x391c0cb3, 0x4ed8aa4a, 0x5b9cca4f, 0x682e6ff3,
  0x748f82ee, 0x78a5636f, 0x84c87814, 0x8cc70208, 0x90befffa, 0xa4506ceb, 0xbef9a3f7, 0xc67178f2]
theorem KK_len : KK.length = 64 := by decide
theorem KK_all : All32 KK := by
  have h : ∀ x ∈ KK, 0 ≤ x ∧ x ≤ 4294967295 := by decide
  intro i
  rw [List.getD_eq_getElem?_getD]
  cases hq : KK[i]? with
  | none => exact ⟨by decide, by decide⟩
  | some x => exact h x (List.mem_of_getElem? hq)
def tt (v : V8) (k w : Int) : Int := ad (ad (ad (ad v.h (su1 v.e)) (chf v.e v.f v.g)) k) w
def rnd (v : V8) (k w : Int) : V8 := ⟨ad (ad (tt v k w) (su0 v.a)) (maj v.a v.b v.c), v.a, v.b, v.c, ad v.d (tt v k w), v.e, v.f, v.g⟩
def rnds (h : V8) (W : List Int) : Nat → V8
  | 0 => h
  | k + 1 => rnd (rnds h W k) (KK.getD k 0) (W.getD k 0)
theorem rnds_ok {h : V8} (hh : h.Ok) (W : List Int) (k : Nat) : (rnds h W k).Ok := by
  induction k with
  | zero => exact hh
  | succ k ih => exact ⟨b_ad _ _, ih.a, ih.b, ih.c, b_ad _ _, ih.e, ih.f, ih.g⟩
def sumv (v h : V8) : V8 := ⟨ad v.a h.a, ad v.b h.b, ad v.c h.c, ad v.d h.d, ad v.e h.e, ad v.f h.f, ad v.g h.g, ad v.h h.h⟩
/-- One block. -/
def cmp (h : V8) (m : Nat → Int) : V8 := sumv (rnds h (W2 m 48) 64) h
theorem cmp_ok (h : V8) (m : Nat → Int) : (cmp h m).Ok := ⟨b_ad _ _, b_ad _ _, b_ad _ _, b_ad _ _, b_ad _ _, b_ad _ _, b_ad _ _, b_ad _ _⟩
def ini : V8 := ⟨0x6a09e667, 0xbb67ae85, 0x3c6ef372, 0xa54ff53a, 0x510e527f, 0x9b05688c, 0x1f83d9ab, 0x5be0cd19⟩
theorem ini_ok : ini.Ok := ⟨⟨by decide, by decide⟩, ⟨by decide, by decide⟩, ⟨by decide, by decide⟩, ⟨by decide, by decide⟩, ⟨by decide, by decide⟩, ⟨by decide, by decide⟩, ⟨by decide, by decide⟩, ⟨by decide, by decide⟩⟩

/-- The cells of words. -/
abbrev u3 (x : Int) : Value := .int .u32 x
def ints (L : List Int) : Array Value := (L.map u3).toArray
theorem ints_size (L : List Int) : (ints L).size = L.length := by simp [ints]
theorem ints_get {L : List Int} {i : Nat} (h : i < L.length) : (ints L)[i]? = some (u3 (L.getD i 0)) := by
  simp [ints, List.getD_eq_getElem?_getD, h]
theorem ints_set (L : List Int) (i : Nat) (x : Int) : (ints L).setIfInBounds i (u3 x) = ints (L.set i x) := by
  apply Array.toList_inj.1
  simp [ints, List.map_set]
theorem ints_one (L : List Int) : (ints L).all (·.oneCell') = true := by
  rw [Array.all_eq_true]
  intro i hi
  simp [ints]
  rfl
def V8.cells (v : V8) : Array Value := #[u3 v.a, u3 v.b, u3 v.c, u3 v.d, u3 v.e, u3 v.f, u3 v.g, u3 v.h]
def V8.lst (v : V8) : List Int := [v.a, v.b, v.c, v.d, v.e, v.f, v.g, v.h]
theorem V8.cells_lst (v : V8) : v.cells = ints v.lst := rfl
/-- The last sums. -/
def SL (v h : List Int) : Nat → List Int
  | 0 => v
  | k + 1 => (SL v h k).set k (ad ((SL v h k).getD k 0) (h.getD k 0))
theorem SL_len (v h : List Int) (k : Nat) : (SL v h k).length = v.length := by
  induction k with
  | zero => rfl
  | succ k ih => rw [SL, List.length_set, ih]
theorem SL_all {v h : List Int} (hv : All32 v) (k : Nat) : All32 (SL v h k) := by
  induction k with
  | zero => exact hv
  | succ k ih => exact all_set ih _ _ (b_ad _ _)
theorem SL_sum (v h : V8) : SL v.lst h.lst 8 = (sumv v h).lst := rfl
theorem V8.Ok.all {v : V8} (h : v.Ok) : All32 v.lst := by
  intro i
  match i with
  | 0 => exact h.a
  | 1 => exact h.b
  | 2 => exact h.c
  | 3 => exact h.d
  | 4 => exact h.e
  | 5 => exact h.f
  | 6 => exact h.g
  | 7 => exact h.h
  | n + 8 => show B32 0; exact ⟨by decide, by decide⟩
end Go.Proofs.Ytlaodmpdngdhjaa
