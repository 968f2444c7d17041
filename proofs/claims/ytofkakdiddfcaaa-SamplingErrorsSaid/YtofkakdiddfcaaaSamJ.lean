import Derived.Test.YtofkakdiddfcaaaSamH
import Derived.Test.YtofkakdiddfcaaaSamI
/- The example of the chapter: the sanity check of the law. -/
namespace Go.Proofs.Ytofkakdiddfcaaa.Sam
open Go.RowKit Go.Shelf Go.Proofs.YtofkakdiddfcaaaW.PrintWords Go.Proofs.YtofkakdiddfcaaaW.PrintLast Go.Proofs.YtofkakdiddfcaaaW.PrintMore Go.Proofs.Ytofkakdiddfcaaa.PSamplingErrors
attribute [local go_sem] Oper.semAt_some

theorem C_ones {W : World} {g : Nat} (h : W.heap[g]? = some (.cells #[.int .i64 1, .int .i64 1, .int .i64 1] 26 (0, 0)) ∨ W.heap[g]? = some (.cells #[.int .i64 1, .int .i64 1, .int .i64 1] 3 (0, 0))) : Kd.C (Kd.int .i64) W (some ⟨g, 0, none⟩) 3 [1, 1, 1] := by
  refine Kd.C_of_reads (d := 0) ⟨rfl, by omega, fun _ => ⟨_, rfl, ?_⟩⟩
  intro j hj
  rcases (by omega : j = 0 ∨ j = 1 ∨ j = 2) with rfl | rfl | rfl <;> rcases h with h | h
  · exact blk_cell h 0
  · exact blk_cell h 0
  · exact blk_cell h 1
  · exact blk_cell h 1
  · exact blk_cell h 2
  · exact blk_cell h 2
theorem signs_ones : redN (signsN [1, 1, 1]) (2 ^ ([1, 1, 1] : List Int).length) = 1 ∧ redD (signsN [1, 1, 1]) (2 ^ ([1, 1, 1] : List Int).length) = 4 := by decide +kernel

theorem awake_calls (w : World) : Calls Try.prog 5 #[] w fun e w' => e = .returned (.bool true) ∧ Below w.heap.size w w' := by
  go_enter Try.func5, Try.ntmps5
  go_wp2_with fail
  refine (signs_calls (some ⟨w.heap.size, 0, none⟩) 3 [1, 1, 1] _ (C_ones (by first | exact .inl (heap_alloc_new _ _) | exact .inr (heap_alloc_new _ _))) ⟨by decide, by decide⟩).mono ?_
  rw [signs_ones.1, signs_ones.2]
  rintro e w' ⟨rfl, hb⟩
  have HB := Aside0.mk hb
  clear hb
  go_wp2
  go_ret
  exact ⟨rfl, below_alloc ((below_alloc (Below.refl _ _) _).trans (HB.out.mono (by simp))) _⟩
end Go.Proofs.Ytofkakdiddfcaaa.Sam
