/- Contract of the iterator over all choices of at most twelve elements. -/
import Derived.RangeFuncNested
import Derived.RangeFuncBound
import Derived.RangeFuncCalls
import Derived.RangeFuncLeaves
import Derived.RangeFuncBox
import Derived.Shelf.Abstract
import Derived.OwnWalkIn
import Derived.TacticsInMore
import Derived.LoopNIn
import Derived.LoopIn
import Derived.Outline
import Derived.Test.YtofkakdiddfcaaaSamB
namespace Go.Proofs.Ytofkakdiddfcaaa.Sam
open Go.RowKit Go.Shelf Go.Proofs.YtofkakdiddfcaaaW.PrintWords Go.Proofs.YtofkakdiddfcaaaW.PrintLast Go.Proofs.YtofkakdiddfcaaaW.PrintMore Go.Proofs.Ytofkakdiddfcaaa.PSamplingErrors
attribute [local go_sem] Oper.semAt_some

theorem pow_bd (m : Nat) (hm : m ≤ 12) : 1 ≤ 2 ^ m ∧ 2 ^ m ≤ 4096 := ⟨Nat.pow_pos (by omega), Nat.pow_le_pow_right (n := 2) (by omega) hm⟩
theorem wrap_pow_u (m : Nat) (hm : m ≤ 12) : IntKind.u64.wrap ((2 : Int) ^ m) = ((2 ^ m : Nat) : Int) := by
  have h := pow_bd m hm
  have e : (2 : Int) ^ m = ((2 ^ m : Nat) : Int) := by rw [Int.natCast_pow]; rfl
  rw [e]
  generalize 2 ^ m = N at h
  unfold IntKind.wrap
  simp [IntKind.bits, IntKind.signed]
  omega
/-- a choice of at most twelve elements -/
abbrev Ch := { c : Nat // c < 4096 }
set_option maxRecDepth 100000 in
set_option maxHeartbeats 2000000 in
/-- the iterator over all choices of n elements -/
theorem choices1_in (F : Fence) (n : Nat) (h7 : F.fn 72) (hro : F.round = none) (hn : 1 ≤ n) (l Bs n₀ m : Nat) (hm : m ≤ 12) (J Jx : List Ch → World → Prop)
    (hY : ∀ pre x W, J pre W → pre.length < 2 ^ m → YieldAt F (n - 1) Try.prog l #[.int .u64 (x.1 : Nat)] W fun e W' =>
      (e = .returned (.bool true) ∧ J (pre ++ [x]) W' ∧ Below n₀ W W') ∨ (e = .returned (.bool false) ∧ Jx (pre ++ [x]) W'))
    (W : World) (hBs : W.cell? ⟨Bs, 0, none⟩ = some (.int .i64 (m : Int))) (h0 : J [] W) :
    CallsIn F n Try.prog 72 #[.func (.yield l) #[] #[], .pointer (some ⟨Bs, 0, none⟩)] W fun e W' => (∃ v, e = .returned v) ∧
      ((∃ ys, ys.map (·.1) = List.range (2 ^ m) ∧ J ys W') ∨ (∃ pre, True ∧ Jx pre W')) := by
  refine callsIn_of_wp Try.func72 rfl h7 ?_ hro
  simp only [Try.ntmps72, List.size_toArray, List.length_cons, List.length_nil, Nat.reduceAdd, Nat.reduceSub, Array.replicate_succ, Array.replicate_zero, List.push_toArray, List.append_toArray, List.nil_append, List.cons_append]
  gi_wp2
  rw [wrap_pow_u m hm]
  have hN := (pow_bd m hm).2
  generalize hN0 : 2 ^ m = N at hY hN ⊢
  have HN0 := Aside0.mk hN0
  clear hN0
  gi_loopw [3, 6] (fun _ i wr => ∃ (k : Nat) (pre : List Ch), k ≤ N ∧ i = .int .u64 k ∧ pre.map (·.1) = List.range k ∧ J pre wr) (fun _ i _ => N - (intOf i).toNat)
  case atStart => exact ⟨0, [], Nat.zero_le _, rfl, rfl, h0⟩
  case round =>
    obtain ⟨k, pre, hk, rfl, hpre, hJs⟩ := hrel
    have HP := Aside0.mk hpre
    have hlen : pre.length = k := by have := congrArg List.length hpre; simpa using this
    have HLN := Aside0.mk hlen
    clear hpre hlen
    by_cases hlt : k < N
    · obtain ⟨fn, tmps, assign, body, hy, hR⟩ := hY _ ⟨k, by omega⟩ wr hJs (by rw [HLN.out]; exact hlt)
      have hlt' : (k : Int) < (N : Int) := by omega
      gi_wp2
      refine hR.mono ?_
      rintro e W3 (⟨rfl, hJ3, _⟩ | ⟨rfl, hJx3⟩)
      · gi_wp2
        go_roundw
        case rel => exact ⟨k + 1, _, by omega, by go_num, by rw [List.map_append, HP.out, List.range_succ]; rfl, hJ3⟩
        case measure => simp [intOf]; omega
      · gi_wp2
        refine bodyPost_ret (results_none rfl _ _ _) rfl ?_
        exact ⟨⟨_, rfl⟩, .inr ⟨_, trivial, hJx3⟩⟩
    · obtain rfl : k = N := by omega
      gi_wp2
      go_end0
      exact ⟨⟨_, rfl⟩, .inl ⟨_, by rw [HN0.out]; exact HP.out, hJs⟩⟩

set_option maxHeartbeats 1000000 in
theorem choices_in (F : Fence) (n : Nat) (h5 : F.fn 32) (hro : F.round = none) (m : Nat) (w : World) :
    CallsIn F n Try.prog 32 #[.int .i64 (m : Int)] w fun e w' => e = .returned (.func (.func 72) #[] #[.pointer (some ⟨w.heap.size, 0, none⟩)]) ∧ w' = w.alloc (.cells #[.int .i64 (m : Int)] 3) := by
  refine callsIn_of_wp Try.func32 rfl h5 ?_ hro
  simp only [Try.ntmps32, List.size_toArray, List.length_cons, List.length_nil, Nat.reduceAdd, Nat.reduceSub, Array.replicate_succ, Array.replicate_zero, List.push_toArray, List.append_toArray, List.nil_append, List.cons_append]
  gi_wp2
  go_ret
  exact ⟨rfl, rfl⟩

theorem choices_stops (F : Fence) (n : Nat) (h7 : F.fn 72) (hro : F.round = none) (hn : 1 ≤ n) (Bs n₀ m : Nat) (hm : m ≤ 12) (w : World) (hBs : Bs < w.heap.size) (hc : w.cell? ⟨Bs, 0, none⟩ = some (.int .i64 (m : Int))) :
    SeqStopsK F n Try.prog 72 #[.pointer (some ⟨Bs, 0, none⟩)] (fun x : Ch => #[Value.int .u64 (x.1 : Int)]) (Below n₀) (fun ys => ys.map (·.1) = List.range (2 ^ m)) (fun _ => True) (2 ^ m) w := fun l J Jx W hW _ _ hY h0 =>
  choices1_in F n h7 hro hn l Bs n₀ m hm J Jx hY W ((hW.cell (p := ⟨Bs, 0, none⟩) hBs).trans hc) h0
end Go.Proofs.Ytofkakdiddfcaaa.Sam
