/- PrimeUnit. -/
import Derived.Test.YtcjhbjfkcmncpabN7b
import Derived.Test.YtcjhbjfkcmncpabC0
namespace Go.Proofs.Ytcjhbjfkcmncpab.V
open Go Go.Proofs.Ytcjhbjfkcmncpab.E Go.Proofs.Ytcjhbjfkcmncpab.LI Go.Proofs.Ytcjhbjfkcmncpab.Num
set_option linter.unusedVariables false
set_option linter.unusedSimpArgs false

theorem awake_ok : quadformlaw22_awake = some true := c_quadformlaw22_awake.le 100 true (by kernel_rfl)
theorem scene_ok {t : Int} (h0 : 0 ≤ t) (h1 : t < 256) : ∃ p, quadformscene_Prime t = some p := by
  have e : Int.tmod (IntKind.wrap .i64 t) 20 = t % 20 := by
    rw [wi64 (by omega) (by omega), Int.tmod_eq_emod_of_nonneg h0]
  unfold quadformscene_Prime
  simp only [List.length_cons, List.length_nil, cite, decide_eq_true_eq, inB_t]
  rw [if_neg (by decide), if_pos (by
    show 0 ≤ Int.tmod (IntKind.wrap .i64 t) 20 ∧ Int.tmod (IntKind.wrap .i64 t) 20 < 20
    rw [e]; omega)]
  exact ⟨_, rfl⟩
theorem PrimeUnit {s b : Bool} {l : List Int} {t p : Int} (h : Lim l) (h0 : 0 ≤ t) (h1 : t < 256) : quadformlaw22_PrimeUnit (s, l, ()) t p b = some true := by
  unfold quadformlaw22_PrimeUnit
  simp only [quadformlaw22_long, Option.bind_some, awake_ok, cite, decide_eq_true_eq]
  by_cases hl : ((List.length l : Nat) : Int) > 20
  · rw [if_pos hl]
  · rw [if_neg hl]
    obtain ⟨q, hq⟩ := scene_ok h0 h1
    simp only [quadformlaw22_PrimeUnit.j1, hq, Option.bind_some, cite]
    have key : ∀ r : Int, quadformlaw22_PrimeUnit.j2 r s l = some true := fun r => by
      obtain ⟨y, h2, h3⟩ := unit_same s h (by omega) r
      simp only [quadformlaw22_PrimeUnit.j2]
      rw [h2, h3, Option.bind_some, Option.bind_some, awake_ok]
      simp
    rw [key, key]
    split <;> rfl
end Go.Proofs.Ytcjhbjfkcmncpab.V
