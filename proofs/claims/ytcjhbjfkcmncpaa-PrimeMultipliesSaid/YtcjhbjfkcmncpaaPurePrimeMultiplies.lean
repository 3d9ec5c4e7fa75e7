/- The Kronecker symbol is multiplicative in both arguments, for the numbers of the statement, and the examples of the chapter hold. Conditions: none. -/
import Derived.Test.YtcjhbjfkcmncpaaPR
import Derived.Test.YtcjhbjfkcmncpaaQx0
import Derived.Test.YtcjhbjfkcmncpaaQx24
namespace Go.Proofs.Ytcjhbjfkcmncpaa.Pure
open Go.RowKit Go.Proofs.Ytcjhbjfkcmncpaa.Q Go.Proofs.Ytcjhbjfkcmncpaa.Num Go.Proofs.YtcjhbjfkcmncpaaW.PrintWords Go.Proofs.YtcjhbjfkcmncpaaW.PrintLast

theorem kr_pos {a : Int} {n : Nat} (hn : 1 ≤ n) {v : Int} (h : kr a n v) : JR (sy a) n v := by
  rcases h with ⟨h0, _⟩ | ⟨_, L, hL, rfl⟩
  · omega
  · rw [if_neg (by omega), Int.one_mul]
    have : ((n : Int)).natAbs = n := Int.natAbs_natCast n
    rw [this] at hL
    exact hL.jr

theorem kr_top {a b : Int} {n : Nat} (hn : 1 ≤ n) {v w u : Int} (h : kr a n v) (h' : kr b n w) (h'' : kr (a * b) n u) : u = v * w := by
  refine (kr_pos hn h'').fn (((kr_pos hn h).mulFn (kr_pos hn h')).congr fun p hp _ => ?_)
  rw [sy_mul hp]

theorem kr_bottom {a : Int} {m n : Nat} (hm : 1 ≤ m) (hn : 1 ≤ n) {v w u : Int} (h : kr a m v) (h' : kr a n w) (h'' : kr a (m * n : Nat) u) : u = v * w :=
  (kr_pos (Nat.mul_pos hm hn) h'').fn ((kr_pos hm h).times (kr_pos hn h'))

theorem PrimeMultiplies : quadformlaw22_PrimeMultiplies.Pure := by
  intro a b c d ha hb hc hd
  have ha' : -32768 ≤ a ∧ a ≤ 32767 := by simpa [Lit.wf, IntKind.min, IntKind.max, IntKind.signed, IntKind.bits] using ha
  have hb' : -32768 ≤ b ∧ b ≤ 32767 := by simpa [Lit.wf, IntKind.min, IntKind.max, IntKind.signed, IntKind.bits] using hb
  have hc' : 0 ≤ c ∧ c ≤ 65535 := by simpa [Lit.wf, IntKind.min, IntKind.max, IntKind.signed, IntKind.bits] using hc
  have hd' : 0 ≤ d ∧ d ≤ 65535 := by simpa [Lit.wf, IntKind.min, IntKind.max, IntKind.signed, IntKind.bits] using hd
  obtain ⟨m, rfl⟩ : ∃ m : Nat, c = m := ⟨c.toNat, by omega⟩
  obtain ⟨n, rfl⟩ : ∃ n : Nat, d = n := ⟨d.toNat, by omega⟩
  have hab : -1073741824 ≤ a * b ∧ a * b ≤ 1073741824 := by
    have h1 : (a * b).natAbs ≤ 32768 * 32768 := by
      rw [Int.natAbs_mul]
      exact Nat.mul_le_mul (by omega) (by omega)
    omega
  have wa : wrap64 a = a := w64 (by omega) (by omega)
  have wb : wrap64 b = b := w64 (by omega) (by omega)
  have wab : wrap64 (a * b) = a * b := w64 (by omega) (by omega)
  have wn : wrap64 (wrap64 (n : Int) + 1) = ((n + 1 : Nat) : Int) := by rw [w64 (x := (n : Int)) (by omega) (by omega), w64 (by omega) (by omega)]; rfl
  have wm4 : wrap64 (Int.tmod (wrap64 (m : Int)) 4000 + 1) = ((m % 4000 + 1 : Nat) : Int) := by
    rw [w64 (x := (m : Int)) (by omega) (by omega), show Int.tmod (m : Int) 4000 = ((m % 4000 : Nat) : Int) from tmod_nat m 4000, w64 (by omega) (by omega)]; rfl
  have wn4 : wrap64 (Int.tmod (wrap64 (n : Int)) 4000 + 1) = ((n % 4000 + 1 : Nat) : Int) := by
    rw [w64 (x := (n : Int)) (by omega) (by omega), show Int.tmod (n : Int) 4000 = ((n % 4000 : Nat) : Int) from tmod_nat n 4000, w64 (by omega) (by omega)]; rfl
  obtain ⟨A, hA⟩ : ∃ A, A = m % 4000 + 1 := ⟨_, rfl⟩
  obtain ⟨B, hB⟩ : ∃ B, B = n % 4000 + 1 := ⟨_, rfl⟩
  rw [← hA] at wm4
  rw [← hB] at wn4
  have hA1 : 1 ≤ A ∧ A ≤ 4000 := by omega
  have hB1 : 1 ≤ B ∧ B ≤ 4000 := by omega
  have hmn : A * B ≤ 16000000 := Nat.le_trans (Nat.mul_le_mul hA1.2 hB1.2) (by decide)
  have hAB : -2147483647 ≤ ((A * B : Nat) : Int) ∧ ((A * B : Nat) : Int) ≤ 2147483647 := by
    generalize A * B = z at hmn ⊢
    omega
  have wu : wrap64 ((A : Int) * (B : Int)) = ((A * B : Nat) : Int) := by
    rw [← Int.natCast_mul]
    generalize A * B = z at hmn ⊢
    exact w64 (by omega) (by omega)
  obtain ⟨x, kx, _, ex⟩ := kron_ok (a := a * b) (n := ((n + 1 : Nat) : Int)) (by omega) (by omega)
  obtain ⟨y, ky, ry, ey⟩ := kron_ok (a := a) (n := ((n + 1 : Nat) : Int)) (by omega) (by omega)
  obtain ⟨z, kz, rz, ez⟩ := kron_ok (a := b) (n := ((n + 1 : Nat) : Int)) (by omega) (by omega)
  have hx := kr_top (by omega) ky kz kx
  obtain ⟨x2, kx2, _, ex2⟩ := kron_ok (a := a) (n := ((A * B : Nat) : Int)) (by omega) hAB
  obtain ⟨y2, ky2, ry2, ey2⟩ := kron_ok (a := a) (n := (A : Int)) (by omega) (by omega)
  obtain ⟨z2, kz2, rz2, ez2⟩ := kron_ok (a := a) (n := (B : Int)) (by omega) (by omega)
  have hx2 := kr_bottom hA1.1 hB1.1 ky2 kz2 kx2
  have wyz : wrap64 (y * z) = y * z := w64 (by rcases tri_mul ry rz with h | h | h <;> omega) (by rcases tri_mul ry rz with h | h | h <;> omega)
  have wyz2 : wrap64 (y2 * z2) = y2 * z2 := w64 (by rcases tri_mul ry2 rz2 with h | h | h <;> omega) (by rcases tri_mul ry2 rz2 with h | h | h <;> omega)
  refine Ev.rounds (g := fun k => quadformlaw22_PrimeMultiplies.f k a b m n) ?_
  refine Ev.congr (fun k => by unfold quadformlaw22_PrimeMultiplies.f; rw [wa, wb, wab, wn]) ?_
  refine Ev.bind ex (Ev.bind ey (Ev.bind ez ?_))
  simp only [if_true]
  rw [wyz, hx, bne_self_eq_false]
  refine Ev.step (fun k => by simp only [quadformlaw22_PrimeMultiplies.j0]; rw [if_neg (by simp), wa, wm4, wn4, wu]) ?_
  refine Ev.bind ex2 (Ev.bind ey2 (Ev.bind ez2 ?_))
  simp only [if_true]
  rw [wyz2, hx2]
  simp only [if_true]
  exact Ev.bind awake_ok (Ev.now true)

end Go.Proofs.Ytcjhbjfkcmncpaa.Pure
