/- Contracts of absolute and Reduce at small numbers. -/
import Derived.Test.YtofkakdiddfcaaaSamA
namespace Go.Proofs.Ytofkakdiddfcaaa.Sam
open Go.RowKit Go.Proofs.YtofkakdiddfcaaaW.PrintWords Go.Proofs.YtofkakdiddfcaaaW.PrintLast Go.Proofs.YtofkakdiddfcaaaW.PrintMore Go.Proofs.Ytofkakdiddfcaaa.PSamplingErrors

/-! ### the absolute value, the fraction in lowest terms -/
theorem absolute_calls (n : Int) (w : World) (h0 : -4000000000000000000 ≤ n) (h1 : n ≤ 4000000000000000000) :
    Calls Try.prog 33 #[.int .i64 n] w fun e w' => e = .returned (.int .i64 (mag n)) ∧ w = w' := by
  unfold mag
  by_cases h : n < -n
  · rw [if_pos (by omega)]
    go_enter Try.func33, Try.ntmps33
    go_wp2
    go_ret
    exact ⟨ret_int (by simp), rfl⟩
  · rw [show (if n ≤ -n then -n else n) = n from by split <;> omega]
    go_enter Try.func33, Try.ntmps33
    go_wp2
    go_ret
    exact ⟨ret_int (by simp), rfl⟩

def redN (a b : Nat) : Nat := a / Nat.gcd a b
def redD (a b : Nat) : Nat := b / Nat.gcd a b
theorem l0_gcd (x0 x1 : Nat) (h0 : x0 ≤ 4096) (h1 : x1 ≤ 4096) : ∀ (n a b : Nat), b ≤ n → 0 < Nat.gcd a b → ∀ k, n < k →
    score_Reduce.l0 k (x0 : Int) (x1 : Int) (a : Int) (b : Int) = some (((x0 / Nat.gcd a b : Nat) : Int), ((x1 / Nat.gcd a b : Nat) : Int), 0) := by
  intro n
  induction n with
  | zero =>
    intro a b hb hg k hk
    obtain rfl : b = 0 := by omega
    obtain ⟨k, rfl⟩ : ∃ m, k = m + 1 := ⟨k - 1, by omega⟩
    simp only [score_Reduce.l0]
    rw [Nat.gcd_zero_right] at hg ⊢
    rw [if_pos (by rfl), if_neg (by omega), Int.tdiv_eq_ediv_of_nonneg (by omega), Int.tdiv_eq_ediv_of_nonneg (by omega), ← Int.natCast_ediv, ← Int.natCast_ediv]
    have e0 : x0 / a ≤ x0 := Nat.div_le_self _ _
    have e1 : x1 / a ≤ x1 := Nat.div_le_self _ _
    generalize x0 / a = p at e0
    generalize x1 / a = q at e1
    rw [show wrap64 (p : Int) = p from by unfold wrap64; omega, show wrap64 (q : Int) = q from by unfold wrap64; omega]
  | succ n ih =>
    intro a b hb hg k hk
    obtain ⟨k, rfl⟩ : ∃ m, k = m + 1 := ⟨k - 1, by omega⟩
    rcases Nat.eq_zero_or_pos b with rfl | hpos
    · exact ih a 0 (by omega) hg (k + 1) (by omega)
    · simp only [score_Reduce.l0]
      rw [if_neg (by omega), Int.tmod_eq_emod_of_nonneg (by omega), ← Int.natCast_emod]
      have hm : a % b < b := Nat.mod_lt _ hpos
      rw [Nat.gcd_comm, Nat.gcd_rec] at hg ⊢
      rw [Nat.gcd_comm] at hg ⊢
      exact ih b (a % b) (by omega) hg k (by omega)
theorem within_lit (a : Int) (h0 : -4096 ≤ a) (h1 : a ≤ 4096) : score_within.f a (-1152921504606846976) 1152921504606846976 = some true := by
  unfold score_within.f
  rw [if_pos (by omega), decide_eq_true (by omega)]
theorem reduce_some (a b : Nat) (ha : a ≤ 4096) (hb : b ≤ 4096) (h0 : 0 < b) : score_Reduce.f 5000 (a : Int) (b : Int) = some (((redN a b : Nat) : Int), ((redD a b : Nat) : Int), 0) := by
  unfold score_Reduce.f
  rw [if_neg (by omega), within_lit _ (by omega) (by omega), within_lit _ (by omega) (by omega)]
  simp only [Option.bind_some, if_true, score_Reduce.j0, score_Reduce.j1, Bool.not_true]
  rw [if_neg (by simp), if_neg (by omega)]
  have e : mx (a : Int) (wrap64 (-(a : Int))) = (a : Int) := by unfold mx wrap64; omega
  rw [e]
  exact l0_gcd a b ha hb 4096 a b hb (Nat.gcd_pos_of_pos_right _ h0) _ (by omega)
theorem reduce_calls (a b : Nat) (ha : a ≤ 4096) (hb : b ≤ 4096) (h0 : 0 < b) (w : World) :
    Calls Try.prog 34 #[.int .i64 (a : Int), .int .i64 (b : Int)] w fun e w' => e = .returned (.tuple #[.agg #[.int .i64 (redN a b : Nat), .int .i64 (redD a b : Nat)], .int .i64 0]) ∧ Below w.heap.size w w' :=
  score_Reduce.calls 5000 _ _ _ _ _ w (reduce_some a b ha hb h0)
end Go.Proofs.Ytofkakdiddfcaaa.Sam
