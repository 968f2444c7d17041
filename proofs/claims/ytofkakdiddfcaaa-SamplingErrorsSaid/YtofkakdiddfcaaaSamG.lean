/- Contract of the closure that Exchange makes. -/
import Derived.Laws.EntriesVeiled
import Derived.Test.YtofkakdiddfcaaaSamE
import Derived.Test.YtofkakdiddfcaaaSamF
namespace Go.Proofs.Ytofkakdiddfcaaa.Sam
open Go.RowKit Go.Shelf Go.Proofs.YtofkakdiddfcaaaW.PrintWords Go.Proofs.YtofkakdiddfcaaaW.PrintLast Go.Proofs.YtofkakdiddfcaaaW.PrintMore Go.Proofs.Ytofkakdiddfcaaa.PSamplingErrors
attribute [local go_sem] Oper.semAt_some

theorem mul_bd (x : Int) (n : Nat) (h0 : -12000000 ≤ x) (h1 : x ≤ 12000000) (hn : n ≤ 12) : -144000000 ≤ x * (n : Int) ∧ x * (n : Int) ≤ 144000000 := by
  rcases (by omega : n = 0 ∨ n = 1 ∨ n = 2 ∨ n = 3 ∨ n = 4 ∨ n = 5 ∨ n = 6 ∨ n = 7 ∨ n = 8 ∨ n = 9 ∨ n = 10 ∨ n = 11 ∨ n = 12) with h | h | h | h | h | h | h | h | h | h | h | h | h <;> subst h <;> omega

set_option maxHeartbeats 1000000 in
/-- what 'difference' returns -/
theorem diff_calls (Bl Bt Ba : Nat) (A A0 : Option Addr) (cl ca : Nat) (l : List Int) (n c : Nat) (w : World) (h1 : w.cell? ⟨Bl, 0, none⟩ = some (.slice A l.length cl)) (h2 : w.cell? ⟨Bt, 0, none⟩ = some (.int .i64 (tot l))) (h3 : w.cell? ⟨Ba, 0, none⟩ = some (.slice A0 n ca))
    (hr : Kd.C (Kd.int .i64) w A l.length l) (hs : Small l) (hn : n ≤ 12) (hc : c < 18446744073709551616) :
    Calls Try.prog 36 #[.int .u64 (c : Int), .pointer (some ⟨Bl, 0, none⟩), .pointer (some ⟨Bt, 0, none⟩), .pointer (some ⟨Ba, 0, none⟩)] w fun e w' => e = .returned (.int .i64 (diffOf l n (pick l c))) ∧ ∃ m, w' = w.drewN m := by
  have HR := Aside0.mk hr
  have HS := Aside0.mk hs
  obtain ⟨t1, t2⟩ := tot_12 hs
  obtain ⟨t3, t4⟩ := pick_12 hs c
  have hl := hs.1
  obtain ⟨b1, b2⟩ := mul_bd (pick l c) l.length t3 t4 hl
  obtain ⟨b3, b4⟩ := mul_bd (tot l) n t1 t2 hn
  clear hr hs
  unfold diffOf
  go_enter Try.func36, Try.ntmps36
  go_wp2_with fail
  have e1 : IntKind.i64.wrap (pick l c * (l.length : Int)) = pick l c * (l.length : Int) := i64_id _ (by omega) (by omega)
  have e2 : IntKind.i64.wrap (tot l * (n : Int)) = tot l * (n : Int) := i64_id _ (by omega) (by omega)
  have e3 : IntKind.i64.wrap (pick l c * (l.length : Int) - tot l * (n : Int)) = pick l c * (l.length : Int) - tot l * (n : Int) := i64_id _ (by omega) (by omega)
  go_quiet ((first | (go_at_call 31; refine Calls.quiet_of_same ((chosen_calls A cl l c _ (Kd.C_below HR.out (pw_below_drewN (Below.refl _ _) _)) HS.out hc).mono fun _ _ ⟨p, q⟩ => ⟨p, q.symm⟩)) | (go_at_call 33; refine Calls.quiet_of_same ((absolute_calls _ _ (by omega) (by omega)).mono fun _ _ ⟨p, q⟩ => ⟨p, q.symm⟩))))
  go_wp2
  go_ret
  exact ⟨rfl, nq, rfl⟩
end Go.Proofs.Ytofkakdiddfcaaa.Sam
