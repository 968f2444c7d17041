/- What bits.OnesCount computes below 4096. -/
import Derived.Test.YtofkakdiddfcaaaSamP
import Derived.Test.YtofkakdiddfcaaaSamMath
namespace Go.Proofs.Ytofkakdiddfcaaa.Sam
open Go.Proofs.Ytofkakdiddfcaaa.PSamplingErrors
def okOnes (n : Nat) : Bool := decide (bits_OnesCount64.f (n : Int) = some (ones 12 n : Nat))
def allBelow : Nat → (Nat → Bool) → Bool
  | 0, _ => true
  | n + 1, p => p n && allBelow n p
theorem allBelow_spec (p : Nat → Bool) : ∀ n, allBelow n p = true → ∀ c, c < n → p c = true
  | 0, _, c, h => absurd h (Nat.not_lt_zero _)
  | n + 1, h, c, hc => by
    simp only [allBelow, Bool.and_eq_true] at h
    rcases Nat.lt_or_ge c n with h' | h'
    · exact allBelow_spec p n h.2 c h'
    · obtain rfl : c = n := by omega
      exact h.1
theorem ones_table : allBelow 4096 okOnes = true := by decide +kernel
theorem ones_some (c : Nat) (h : c < 4096) : bits_OnesCount.f (c : Int) = some ((ones 12 c : Nat) : Int) := by
  have := of_decide_eq_true (allBelow_spec _ _ ones_table c h)
  unfold bits_OnesCount.f
  rw [this]; rfl
theorem ones_more (m : Nat) : ∀ n c, m ≤ n → c < 2 ^ m → ones n c = ones m c := by
  induction m with
  | zero =>
    intro n c _ hc
    obtain rfl : c = 0 := by simpa using hc
    induction n with
    | zero => rfl
    | succ n ih => simp only [ones, Nat.zero_div] at ih ⊢; rw [ih (Nat.zero_le _)]
  | succ m ih =>
    intro n c hn hc
    obtain ⟨n, rfl⟩ : ∃ k, n = k + 1 := ⟨n - 1, by omega⟩
    simp only [ones]
    rw [ih n (c / 2) (by omega) (by rw [Nat.pow_succ] at hc; omega)]
end Go.Proofs.Ytofkakdiddfcaaa.Sam
