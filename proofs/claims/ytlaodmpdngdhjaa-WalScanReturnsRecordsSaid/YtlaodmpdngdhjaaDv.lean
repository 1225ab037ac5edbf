/- short: few calls with short data. -/
import Derived.Test.YtlaodmpdngdhjaaDu
namespace Go.Proofs.Ytlaodmpdngdhjaa
set_option linter.unusedVariables false
set_option linter.unusedSimpArgs false
open Go.RowKit Go.Maps Go.WideMaps

def Cl.few (c : Cl) : Bool := decide (c.data.size ≤ 200) && decide (c.name.size ≤ 100)
def shortB (l : List Cl) : Bool := l.all Cl.few && decide (l.length ≤ 40)
theorem short_no {l : List Cl} {k : Nat} {c : Cl} (hk : l[k]? = some c) (h : c.few = false) : shortB l = false := by
  unfold shortB
  have : l.all Cl.few = false := by
    rw [List.all_eq_false]
    obtain ⟨hlt, rfl⟩ := List.getElem?_eq_some_iff.1 hk
    exact ⟨_, List.getElem_mem hlt, by rw [h]; decide⟩
  rw [this]
  rfl
/-- A call's cells. -/
theorem CallRow.get {w : World} {a : Option Addr} {l : List Cl} (h : CallRow w a l) {k : Nat} {c : Cl} (hk : l[k]? = some c) :
    ∃ b o, a = some ⟨b, o, none⟩ ∧ b < w.heap.size ∧ w.cell? ⟨b, o + k * 8, none⟩ = some (.int .i64 c.kind) ∧ w.cell? ⟨b, o + k * 8 + 1, none⟩ = some (.int .i64 c.from_) ∧ w.cell? ⟨b, o + k * 8 + 2, none⟩ = some (.int .i64 c.to_) ∧ w.cell? ⟨b, o + k * 8 + 3, none⟩ = some (.int .i64 c.n) ∧
      w.cell? ⟨b, o + k * 8 + 4, none⟩ = some (.int .i64 c.m) ∧ w.cell? ⟨b, o + k * 8 + 5, none⟩ = some (.string c.name) ∧ w.cell? ⟨b, o + k * 8 + 6, none⟩ = some (.string c.data) ∧ w.cell? ⟨b, o + k * 8 + 7, none⟩ = some (.bool c.raw) := by
  rcases h with rfl | ⟨b, o, rfl, hb, hc⟩
  · simp at hk
  · have := hc k c hk
    exact ⟨b, o, rfl, hb, this 0 _ rfl, this 1 _ rfl, this 2 _ rfl, this 3 _ rfl, this 4 _ rfl, this 5 _ rfl, this 6 _ rfl, this 7 _ rfl⟩
theorem CallRow.below {w w' : World} {a : Option Addr} {l : List Cl} (h : CallRow w a l) (hb : Below w.heap.size w w') : CallRow w' a l := by
  rcases h with rfl | ⟨b, o, rfl, hlt, hc⟩
  · exact .inl rfl
  · exact .inr ⟨b, o, rfl, Nat.lt_of_lt_of_le hlt hb.size, fun j c hj i v hv => by rw [hb.cell (p := ⟨b, o + j * 8 + i, none⟩) hlt]; exact hc j c hj i v hv⟩
set_option maxRecDepth 100000 in
set_option maxHeartbeats 2000000 in
theorem short_any (l : List Cl) (a : Option Addr) (cap : Nat) (w : World) (h : CallRow w a l) (hl : l.length ≤ 140737488355328) (hok : ∀ c ∈ l, c.ok) :
    Calls Try.prog 34 #[.slice a l.length cap] w fun e w' => e = .returned (.bool (shortB l)) ∧ w' = w := by
  have HR := Lib.hid h
  have HK := Lib.hid hok
  obtain ⟨n, hn⟩ : ∃ n, l.length = n := ⟨_, rfl⟩
  have HN := Lib.hid hn
  rw [hn] at hl ⊢
  clear h hok hn
  go_enter Try.func34, Try.ntmps34
  go_wp2_with fail
  go_loop [3] (fun i => ∃ k : Nat, k ≤ n ∧ i = .int .i64 k ∧ Hid (∀ j c, j < k → l[j]? = some c → c.few = true)) (fun i => n - (intOf i).toNat)
  case atStart => exact ⟨0, Nat.zero_le _, rfl, Lib.hid (by intro j c h; omega)⟩
  case round =>
    obtain ⟨k, hk, rfl, HA⟩ := hrel
    by_cases hlt : k < n
    · obtain ⟨c, hc⟩ : ∃ c, l[k]? = some c := ⟨l[k]'(by rw [HN.out]; exact hlt), by simp [HN.out, hlt]⟩
      have hco := HK.out c (List.mem_of_getElem? hc)
      obtain ⟨b, o, rfl, hb, _, _, _, _, _, c5, c6, _⟩ := HR.out.get hc
      have hs5 := hco.name
      have hs6 := hco.data
      have HC := Lib.hid hc
      clear hc hco
      unfold maxLen at hs5 hs6
      by_cases h6 : c.data.size ≤ 200
      · have e6 : decide (200 < (c.data.size : Int)) = false := decide_eq_false (by omega)
        by_cases h5 : c.name.size ≤ 100
        · have e5 : decide (100 < (c.name.size : Int)) = false := decide_eq_false (by omega)
          go_wp2_with fail
          go_round
          case rel => exact ⟨k + 1, by omega, by go_num, Lib.hid (by
            intro j d hj hd
            by_cases e : j = k
            · subst e
              rw [HC.out] at hd
              cases hd
              unfold Cl.few
              simp [h5, h6]
            · exact HA.out j d (by omega) hd)⟩
          case measure => simp [intOf]; omega
        · have e5 : decide (100 < (c.name.size : Int)) = true := decide_eq_true (by omega)
          have HF := Lib.hid (short_no HC.out (by unfold Cl.few; simp [h5]))
          go_wp2_with fail
          go_ret
          exact ⟨by rw [HF.out]; rfl, rfl⟩
      · have e6 : decide (200 < (c.data.size : Int)) = true := decide_eq_true (by omega)
        have HF := Lib.hid (short_no HC.out (by unfold Cl.few; simp [h6]))
        go_wp2_with fail
        go_ret
        exact ⟨by rw [HF.out]; rfl, rfl⟩
    · obtain rfl : k = n := by omega
      have HF : Hid (shortB l = decide ((k : Int) ≤ 40)) := Lib.hid (by
        unfold shortB
        have : l.all Cl.few = true := by
          rw [List.all_eq_true]
          intro c hc
          obtain ⟨i, hi, rfl⟩ := List.getElem_of_mem hc
          exact HA.out i _ (by rw [← HN.out]; exact hi) (by simp)
        rw [this, HN.out, Bool.true_and]
        congr 1
        simp only [eq_iff_iff]
        omega)
      go_wp2_with fail
      go_ret
      exact ⟨by rw [HF.out]; rfl, rfl⟩
end Go.Proofs.Ytlaodmpdngdhjaa
