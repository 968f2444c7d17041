/- Contracts of slices.Grow at nil and slices.Concat of two slices. -/
import Derived.Test.YtofkakdiddfcaaaSamD
namespace Go.Proofs.Ytofkakdiddfcaaa.Sam
open Go.RowKit Go.Shelf Go.Proofs.YtofkakdiddfcaaaW.PrintWords Go.Proofs.YtofkakdiddfcaaaW.PrintLast Go.Proofs.YtofkakdiddfcaaaW.PrintMore Go.Proofs.Ytofkakdiddfcaaa.PSamplingErrors

/-- slices.Grow at nil: a slice of no element -/
theorem grow_calls (n : Int) (h0 : 0 ≤ n) (h1 : n ≤ 100) (w : World) :
    Calls Try.prog 74 #[.slice none 0 0, .int .i64 n] w fun e w' => ∃ v, e = .returned v ∧ Kd.R (Kd.int .i64) 3 w' w.heap.size (fun _ => True) v [] ∧ Below w.heap.size w w' := by
  by_cases hp : 0 < n
  · go_enter Try.func74, Try.ntmps74
    go_wp2_with (at_builtin; refine Kd.R_append_zeros (w0 := w) (Kd.int .i64) w.heap.size rfl (.tmp 20) (.tmp 21) 26 3 3 (.int .i64 0) 8 rfl Try.underlying26 Try.underlying3 info3 rfl (by decide) (by decide) (.slice none 0 0) [] 0 n (fun _ => True) rfl rfl rfl (fun _ _ => trivial) (Kd.R_nil _ _ _ _ _) h0 (Below.refl _ _) (Nat.le_refl _) (by simp; omega) ?_)
    intro v1 w1 hR hB _ _
    obtain ⟨A, c, rfl, hle, _⟩ := Kd.R_reads hR
    have HT := Aside0.mk (Kd.R_take hR (m := 0) (Nat.zero_le _))
    have HB := Aside0.mk hB
    clear hR hB
    go_wp2
    go_ret
    exact ⟨_, rfl, HT.out, HB.out⟩
  · obtain rfl : n = 0 := by omega
    go_enter Try.func74, Try.ntmps74
    go_wp2
    go_ret
    exact ⟨_, rfl, Kd.R_nil _ _ _ _ _, Below.refl _ _⟩

def sz2 (x y : Nat) : Nat → Int
  | 0 => 0
  | 1 => x
  | _ => x + y
def cat2 (x y : List Int) : Nat → List Int
  | 0 => []
  | 1 => x
  | _ => x ++ y
set_option maxHeartbeats 1000000 in
/-- slices.Concat of two slices -/
theorem concat_calls (g : Nat) (A B : Option Addr) (ca cb : Nat) (a b : List Int) (w : World) (hg : w.heap[g]? = some (.cells #[.slice A a.length ca, .slice B b.length cb] 26 (0, 0)))
    (ha : Kd.C (Kd.int .i64) w A a.length a) (hb : Kd.C (Kd.int .i64) w B b.length b) (_hca : a.length ≤ ca) (_hcb : b.length ≤ cb) (hla : a.length ≤ 20) (hlb : b.length ≤ 20) :
    Calls Try.prog 35 #[.slice (some ⟨g, 0, none⟩) 2 2] w fun e w' => ∃ v, e = .returned v ∧ Kd.R (Kd.int .i64) 3 w' w.heap.size (fun _ => True) v (a ++ b) ∧ Below w.heap.size w w' := by
  have h0 := blk_cell hg 0
  have h1 := blk_cell hg 1
  go_enter Try.func35, Try.ntmps35
  go_wp2
  go_loop [3, 5, 11] (fun s _ i => ∃ k : Nat, k ≤ 2 ∧ i = .int .i64 k ∧ s = .int .i64 (sz2 a.length b.length k)) (fun _ _ i => 2 - (intOf i).toNat)
  case atStart => exact ⟨0, by omega, rfl, rfl⟩
  case round =>
    obtain ⟨k, hk, rfl, rfl⟩ := hrel
    rcases (by omega : k = 0 ∨ k = 1 ∨ k = 2) with rfl | rfl | rfl
    · simp only [sz2]
      go_wp2
      go_round
      case rel => exact ⟨1, by omega, by go_num, rfl⟩
      case measure => simp [intOf]
    · simp only [sz2]
      go_wp2
      go_round
      case rel => exact ⟨2, by omega, by go_num, rfl⟩
      case measure => simp [intOf]
    · simp only [sz2]
      go_wp2_with (go_at_call 74; refine (grow_calls _ (by omega) (by omega) _).mono ?_; rintro e w1 ⟨v, rfl, hR, hB⟩)
      have HG := Aside0.mk hg
      have HA := Aside0.mk ha
      have HBb := Aside0.mk hb
      have HR := Aside0.mk hR
      have HB := Aside0.mk hB
      clear hg ha hb hR hB h0 h1
      go_loopw [6, 8, 27] (fun v _ i wr => ∃ (k : Nat) (v6 : Value), v6 = v ∧ k ≤ 2 ∧ i = .int .i64 k ∧ Aside0 (Kd.R (Kd.int .i64) 3 wr w.heap.size (fun _ => True) v6 (cat2 a b k)) ∧ Aside0 (Below w.heap.size w wr)) (fun _ _ i _ => 2 - (intOf i).toNat)
      case atStart => exact ⟨0, _, rfl, by omega, rfl, HR, HB⟩
      case round =>
        obtain ⟨k, v6, rfl, hk, rfl, HV, HBr⟩ := hrel
        have hgr := blk_below HG.out HBr.out
        have h0 := blk_cell hgr 0
        have h1 := blk_cell hgr 1
        clear hgr
        rcases (by omega : k = 0 ∨ k = 1 ∨ k = 2) with rfl | rfl | rfl
        · go_wp2_with (at_builtin; refine Kd.R_append_rows (Kd.int .i64) (w0 := w) w.heap.size rfl (.tmp 31) (.tmp 32) 26 3 (.int .i64 0) 8 rfl Try.underlying26 info3 rfl (by decide) (by decide) v6 [] a A _ ca (fun _ => True) (fun _ => False) rfl rfl HV.out (Kd.C_below HA.out HBr.out) (fun _ _ h => h) (fun _ h => h.elim) (fun _ _ => trivial) HBr.out (HBr.out.size) (by first | omega | (simp; omega)) ?_)
          intro v1 w1 hR2 hB2 _ _
          have HR2 := Aside0.mk hR2
          have HB2 := Aside0.mk hB2
          clear hR2 hB2
          go_wp2
          go_roundw
          case rel => exact ⟨1, v1, rfl, by omega, by go_num, HR2, HB2⟩
          case measure => simp [intOf]
        · go_wp2_with (at_builtin; refine Kd.R_append_rows (Kd.int .i64) (w0 := w) w.heap.size rfl (.tmp 31) (.tmp 32) 26 3 (.int .i64 0) 8 rfl Try.underlying26 info3 rfl (by decide) (by decide) v6 a b B _ cb (fun _ => True) (fun _ => False) rfl rfl HV.out (Kd.C_below HBb.out HBr.out) (fun _ _ h => h) (fun _ h => h.elim) (fun _ _ => trivial) HBr.out (HBr.out.size) (by first | omega | (simp; omega)) ?_)
          intro v1 w1 hR2 hB2 _ _
          have HR2 := Aside0.mk hR2
          have HB2 := Aside0.mk hB2
          clear hR2 hB2
          go_wp2
          go_roundw
          case rel => exact ⟨2, v1, rfl, by omega, by go_num, HR2, HB2⟩
          case measure => simp [intOf]
        · go_wp2
          go_ret
          exact ⟨_, rfl, HV.out, HBr.out⟩
end Go.Proofs.Ytofkakdiddfcaaa.Sam
