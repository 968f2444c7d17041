import Derived.Test.YtofkakdiddfcaaaSamP
import Derived.Test.YtofkakdiddfcaaaSamMath
/- What the drawing of samples and of orders computes, in plain Lean. -/
namespace Go.Proofs.Ytofkakdiddfcaaa.Sam
open Go.RowKit Go.Proofs.YtofkakdiddfcaaaW.PrintWords Go.Proofs.YtofkakdiddfcaaaW.PrintLast Go.Proofs.YtofkakdiddfcaaaW.PrintMore Go.Proofs.Ytofkakdiddfcaaa.PSamplingErrors
set_option linter.unusedSimpArgs false

/-- bytes that are drawn from, and the place -/
structure Src (xs : List Int) (p : Int) : Prop where
  len : xs.length ≤ 100
  byte : ∀ x ∈ xs, 0 ≤ x ∧ x ≤ 255
  lo : 0 ≤ p
  hi : p ≤ 100

theorem w64_id (n : Int) (h0 : -9223372036854775808 ≤ n) (h1 : n ≤ 9223372036854775807) : wrap64 n = n := by unfold wrap64; omega
theorem rd_mem (xs : List Int) (p : Int) (h : p < (xs.length : Int)) (h0 : 0 ≤ p) : rd xs p ∈ xs := by
  unfold rd
  have hlt : p.toNat < xs.length := by omega
  rw [List.getD_eq_getElem?_getD, List.getElem?_eq_getElem hlt]
  exact List.getElem_mem hlt
theorem next_some (xs : List Int) (p n : Int) (hs : Src xs p) (h1 : 1 ≤ n) (h2 : n ≤ 1000) : ∃ r q, synopticfield_Codes_Next.f xs p n = some (r, q) ∧ 0 ≤ r ∧ r < n ∧ Src xs q := by
  obtain ⟨hl, hb, h3, h4⟩ := hs
  unfold synopticfield_Codes_Next.f synopticfield_Codes_Left.f
  by_cases hp : p < (xs.length : Int)
  · have e1 : wrap64 (p + 1) = p + 1 := w64_id _ (by omega) (by omega)
    have e2 : wrap64 (p + 1 - 1) = p := by rw [w64_id _ (by omega) (by omega)]; omega
    have e4 : wrap64 p = p := w64_id _ (by omega) (by omega)
    have hm : rd xs p ∈ xs := rd_mem xs p hp h3
    obtain ⟨b0, b1⟩ := hb _ hm
    have e3 : wrap64 (rd xs p) = rd xs p := w64_id _ (by omega) (by omega)
    refine ⟨Int.tmod (rd xs p) n, p + 1, ?_, Int.tmod_nonneg _ b0, Int.tmod_lt_of_pos _ (by omega), ⟨hl, hb, by omega, by omega⟩⟩
    simp [hp, e1, e2, e3, e4, show ¬ n < 1 from by omega, h3, show ¬ n = 0 from by omega]
  · refine ⟨0, p, ?_, by omega, by omega, ⟨hl, hb, h3, h4⟩⟩
    simp [hp]
theorem new_some (xs : List Int) (n : Int) (hb : ∀ x ∈ xs, 0 ≤ x ∧ x ≤ 255) (h0 : 0 ≤ n) (h1 : n ≤ 100) : ∃ ys, synopticfield_New.f xs n = some (ys, 0) ∧ Src ys 0 := by
  unfold synopticfield_New.f
  by_cases h : (xs.length : Int) > n
  · refine ⟨xs.take n.toNat, ?_, ⟨?_, ?_, by omega, by omega⟩⟩
    · simp [h, h0]; omega
    · rw [List.length_take]; omega
    · intro x hx; exact hb x (List.mem_of_mem_take hx)
  · refine ⟨xs, ?_, ⟨by omega, hb, by omega, by omega⟩⟩
    simp [h]
def Fine (l : List Int) : Prop := ∀ x ∈ l, -1000000 ≤ x ∧ x ≤ 1000000
theorem sample_loop (xs : List Int) (m : Nat) : ∀ (acc : List Int) (p : Int), Src xs p → m ≤ 10 → acc.length + m ≤ 10 → Fine acc →
    ∃ l q, synopticlaw39_sample.l0 (m + 1) acc (m : Int) xs p = some (l, q) ∧ l.length = acc.length + m ∧ Fine l ∧ Src xs q := by
  induction m with
  | zero =>
    intro acc p hs _ _ hf
    exact ⟨acc, p, by simp [synopticlaw39_sample.l0], by omega, hf, hs⟩
  | succ m ih =>
    intro acc p hs hm hl hf
    rw [synopticlaw39_sample.l0]
    obtain ⟨r1, q1, e1, a1, b1, s1⟩ := next_some xs p 7 hs (by omega) (by omega)
    obtain ⟨r2, q2, e2, a2, b2, s2⟩ := next_some xs q1 200 s1 (by omega) (by omega)
    obtain ⟨r3, q3, e3, a3, b3, s3⟩ := next_some xs q2 5 s2 (by omega) (by omega)
    have w1 : wrap64 (r1 - 3) = r1 - 3 := w64_id _ (by omega) (by omega)
    have w2 : wrap64 (r2 - 100) = r2 - 100 := w64_id _ (by omega) (by omega)
    have w3 : wrap64 (((m + 1 : Nat) : Int) - 1) = (m : Int) := by rw [w64_id _ (by omega) (by omega)]; omega
    have hx : -1000000 ≤ rd [r1 - 3, r2 - 100, 1000000, -1000000, 0] r3 ∧ rd [r1 - 3, r2 - 100, 1000000, -1000000, 0] r3 ≤ 1000000 := by
      rcases (by omega : r3 = 0 ∨ r3 = 1 ∨ r3 = 2 ∨ r3 = 3 ∨ r3 = 4) with rfl | rfl | rfl | rfl | rfl <;> simp [rd] <;> omega
    obtain ⟨l, q, e, el, hfl, hq⟩ := ih (acc ++ [rd [r1 - 3, r2 - 100, 1000000, -1000000, 0] r3]) q3 s3 (by omega) (by simp; omega) (by
      intro y hy
      rcases List.mem_append.1 hy with hy | hy
      · exact hf y hy
      · rw [List.mem_singleton.1 hy]; exact hx)
    refine ⟨l, q, ?_, by rw [el]; simp; omega, hfl, hq⟩
    have hpos : ((m + 1 : Nat) : Int) > 0 := by omega
    simp only [hpos, if_true, e1, e2, e3, Option.bind_some, w1, w2, w3, a3, List.length_cons, List.length_nil]
    have h5 : r3 < ((0 + 1 + 1 + 1 + 1 + 1 : Nat) : Int) := by omega
    have h6 : acc.length < 17592186044416 := by omega
    simp only [h5, h6, if_true, e]
theorem sample_fuel (xs : List Int) (p n : Int) : ∀ k j l q, j ≤ k → synopticlaw39_sample.f j xs p n = some (l, q) → synopticlaw39_sample.f k xs p n = some (l, q) := by
  intro k j l q hjk h
  induction k with
  | zero => obtain rfl : j = 0 := by omega
            exact h
  | succ k ih =>
    rcases Nat.lt_or_ge k j with hh | hh
    · obtain rfl : j = k + 1 := by omega
      exact h
    · exact synopticlaw39_sample.mono xs p n k _ (ih hh)
theorem sample_some (xs : List Int) (p n : Int) (hs : Src xs p) (h0 : 0 ≤ n) (h1 : n ≤ 9) : ∃ l q, synopticlaw39_sample.f 20 xs p n = some (l, q) ∧ l.length ≤ n.toNat ∧ Fine l ∧ Src xs q := by
  obtain ⟨r, q, e, a, b, s⟩ := next_some xs p (n + 1) hs (by omega) (by omega)
  obtain ⟨l, q', e', el, hf, hq⟩ := sample_loop xs r.toNat [] q s (by omega) (by simp; omega) (by intro x hx; simp at hx)
  refine ⟨l, q', ?_, by rw [el]; simp; omega, hf, hq⟩
  apply sample_fuel xs p n 20 (r.toNat + 1) l q' (by omega)
  unfold synopticlaw39_sample.f
  rw [w64_id (n + 1) (by omega) (by omega), e]
  have : ((r.toNat : Nat) : Int) = r := by omega
  rw [this] at e'
  simp [e']
theorem small_append (a b : List Int) (ha : Fine a) (hb : Fine b) (h : a.length + b.length ≤ 12) : Small (a ++ b) :=
  ⟨by simpa using h, fun x hx => (List.mem_append.1 hx).elim (ha x) (hb x)⟩
theorem small_of (a : List Int) (ha : Fine a) (h : a.length ≤ 12) : Small a := ⟨h, ha⟩
theorem fine_perm {a b : List Int} (h : a.Perm b) (hb : Fine b) : Fine a := fun x hx => hb x (h.mem_iff.1 hx)
theorem fine_neg {a : List Int} (ha : Fine a) : Fine (a.map fun x => -x) := by
  intro x hx
  obtain ⟨y, hy, rfl⟩ := List.mem_map.1 hx
  have := ha y hy
  omega
/-- the two swapped -/
def swp (l : List Int) (i j : Nat) : List Int := (l.set i (l.getD j 0)).set j (l.getD i 0)
theorem swp_len (l : List Int) (i j : Nat) : (swp l i j).length = l.length := by simp [swp]
theorem swp_perm (l : List Int) (i j : Nat) (hi : i < l.length) (hj : j < l.length) : (swp l i j).Perm l := by
  unfold swp
  rw [List.getD_eq_getElem?_getD, List.getD_eq_getElem?_getD, List.getElem?_eq_getElem hi, List.getElem?_eq_getElem hj]
  exact List.set_set_perm hi hj
end Go.Proofs.Ytofkakdiddfcaaa.Sam
