/- Contract of Signs at small samples. -/
import Derived.Test.YtofkakdiddfcaaaSamC
import Derived.Test.YtofkakdiddfcaaaRound
import Derived.Deep.RegionWith
namespace Go.Proofs.Ytofkakdiddfcaaa.Sam
open Go.RowKit Go.Shelf Go.Proofs.YtofkakdiddfcaaaW.PrintWords Go.Proofs.YtofkakdiddfcaaaW.PrintLast Go.Proofs.YtofkakdiddfcaaaW.PrintMore Go.Proofs.Ytofkakdiddfcaaa.PSamplingErrors
attribute [local go_sem] Oper.semAt_some

theorem small_not_big {l : List Int} (h : Small l) : l.any big = false := by
  rw [List.any_eq_false]
  intro x hx
  have := h.2 x hx
  unfold big inB
  rw [decide_eq_true this.1, decide_eq_true this.2]
  decide

theorem wrap_pow_pred (m : Nat) (hm : m ≤ 12) : IntKind.u64.wrap ((2 : Int) ^ m - 1) = ((2 ^ m - 1 : Nat) : Int) := by
  have h := pow_bd m hm
  have e : (2 : Int) ^ m = ((2 ^ m : Nat) : Int) := by rw [Int.natCast_pow]; rfl
  rw [e]
  generalize 2 ^ m = N at h
  unfold IntKind.wrap
  simp [IntKind.bits, IntKind.signed]
  omega
theorem chosen_all (A : Option Addr) (cc : Nat) (l : List Int) (w : World) (hr : Kd.C (Kd.int .i64) w A l.length l) (hs : Small l) :
    Calls Try.prog 31 #[.slice A l.length cc, .int .u64 (IntKind.u64.wrap (2 ^ l.length - 1))] w fun e w' => e = .returned (.int .i64 (tot l)) ∧ w = w' := by
  have hp := pow_bd l.length hs.1
  have h := chosen_calls A cc l (2 ^ l.length - 1) w hr hs (by omega)
  rw [pick_all] at h
  rwa [wrap_pow_pred l.length hs.1]

theorem tot_12 {l : List Int} (h : Small l) : -12000000 ≤ tot l ∧ tot l ≤ 12000000 := by
  have := small_take h l.length
  rwa [List.take_length] at this
theorem pick_12 {l : List Int} (h : Small l) (c : Nat) : -12000000 ≤ pick l c ∧ pick l c ≤ 12000000 := by
  have := small_pick h l.length c
  rwa [List.take_length] at this
theorem mag_12 (n : Int) (h0 : -12000000 ≤ n) (h1 : n ≤ 12000000) : 0 ≤ mag n ∧ mag n ≤ 12000000 := by unfold mag; split <;> omega
theorem mag_36 (n : Int) (h0 : -36000000 ≤ n) (h1 : n ≤ 36000000) : 0 ≤ mag n ∧ mag n ≤ 36000000 := by unfold mag; split <;> omega
theorem i64_id (n : Int) (h0 : -9223372036854775808 ≤ n) (h1 : n ≤ 9223372036854775807) : IntKind.i64.wrap n = n := by simp [IntKind.wrap, IntKind.bits, IntKind.signed]; omega
def tst (l : List Int) (c : Ch) : Bool := decide (mag (tot l) ≤ mag (tot l - 2 * pick l c.1))
theorem keeps_drewN (W : World) : ∀ n, KeepsOthers W (W.drewN n) := by
  intro n
  induction n with
  | zero => exact KeepsOthers.refl _
  | succ n ih => rw [← World.drew_drewN]; exact ih.trans (KeepsOthers.drew _)
theorem filter_all (l : List Int) (ys : List Ch) (h : ys.map (·.1) = List.range (2 ^ l.length)) : (ys.filter (tst l)).length = signsN l := by
  unfold signsN
  rw [← h, List.filter_map, List.length_map]
  rfl
theorem reduce_wrap (a m : Nat) (hm : m ≤ 12) (ha : a ≤ 2 ^ m) (w : World) :
    Calls Try.prog 34 #[.int .i64 (a : Int), .int .i64 (IntKind.i64.wrap (2 ^ m))] w fun e w' => e = .returned (.tuple #[.agg #[.int .i64 (redN a (2 ^ m) : Nat), .int .i64 (redD a (2 ^ m) : Nat)], .int .i64 0]) ∧ Below w.heap.size w w' := by
  have h := pow_bd m hm
  have e : (2 : Int) ^ m = ((2 ^ m : Nat) : Int) := by rw [Int.natCast_pow]; rfl
  rw [e, i64_id _ (by omega) (by omega)]
  exact reduce_calls a (2 ^ m) (by omega) (by omega) (by omega) w
theorem filter_snoc (l : List Int) (pre : List Ch) (x : Ch) : ((pre ++ [x]).filter (tst l)).length = (pre.filter (tst l)).length + (if tst l x = true then 1 else 0) := by
  rw [List.filter_append, List.length_append, List.filter_cons]
  split <;> simp
set_option maxRecDepth 100000 in
set_option maxHeartbeats 2000000 in
theorem signs_calls (A : Option Addr) (cc : Nat) (l : List Int) (w : World) (hr : Kd.C (Kd.int .i64) w A l.length l) (hs : Small l) :
    Calls Try.prog 9 #[.slice A l.length cc] w fun e w' => e = .returned (.tuple #[.agg #[.int .i64 (redN (signsN l) (2 ^ l.length) : Nat), .int .i64 (redD (signsN l) (2 ^ l.length) : Nat)], .int .i64 0]) ∧ Below w.heap.size w w' := by
  have HR := Aside0.mk hr
  have HS := Aside0.mk hs
  have HL := hs.1
  have hgt : decide (12 < l.length) = false := decide_eq_false (by omega)
  have hgt' : decide ((12 : Int) < (l.length : Int)) = false := decide_eq_false (by omega)
  have HO := Aside0.mk (small_not_big hs)
  clear hr hs
  refine (callsIn_wide (n := 6)).1 ?_
  refine callsIn_of_wp_marks Try.func9 rfl trivial ?_ rfl
  simp only [Try.ntmps9, List.size_toArray, List.length_cons, List.length_nil, Nat.reduceAdd, Nat.reduceSub, Array.replicate_succ, Array.replicate_zero, List.push_toArray, List.append_toArray, List.nil_append, List.cons_append]
  refine wpIn_wide.2 ?_
  go_wp2_with fail
  refine (outside_calls A cc l _ (Kd.C_below HR.out (by repeat (first | exact Below.refl _ _ | apply below_alloc)))).mono ?_
  rw [HO.out]
  rintro e w' ⟨rfl, rfl⟩
  go_wp2_with fail
  obtain ⟨W1, hW1⟩ : ∃ W1, (w.alloc (.cells #[.slice A l.length cc] 26)).alloc (.cells #[.int .i64 0, .int .i64 0] 31) = W1 := ⟨_, rfl⟩
  have hsz : W1.heap.size = w.heap.size + 2 := by rw [← hW1]; simp
  have hlt1 : w.heap.size < W1.heap.size := by omega
  have hb1 : Below w.heap.size w W1 := by rw [← hW1]; exact below_alloc (below_alloc (Below.refl _ _) _) _
  have hc1 : W1.cell? ⟨w.heap.size, 0, none⟩ = some (.slice A l.length cc) := by rw [← hW1]; simp
  have hK2 : W1.heap[w.heap.size + 1]? = some (.cells #[.int .i64 0, .int .i64 0] 31 (0, 0)) := by rw [← hW1]; simpa using heap_alloc_new (w.alloc (.cells #[.slice A l.length cc] 26)) (.cells #[.int .i64 0, .int .i64 0] 31)
  rw [hW1]
  have HC : ∀ W, Below w.heap.size w W → Kd.C (Kd.int .i64) W A l.length l := fun W hW => Kd.C_below HR.out hW
  have HC := Aside0.mk HC
  have HB1 := Aside0.mk hb1
  have HK2 := Aside0.mk hK2
  have HSZ := Aside0.mk hsz
  have hpow := wrap_pow_u l.length HL
  have hp2 := (pow_bd l.length HL).2
  have hp1 := (pow_bd l.length HL).1
  clear hW1 hb1 hK2 hsz
  go_upto_region 3 with (fail)
  go_cut [4] from 15 to 20 (fun v4 wc => ∃ B : Nat, v4 = .pointer (some ⟨B, 0, none⟩) ∧ W1.heap.size ≤ B ∧ Aside0 (Below W1.heap.size W1 wc) ∧ wc.cell? ⟨B, 0, none⟩ = some (.int .i64 (tot l)) ∧ wc.frozen? ⟨B, 0, none⟩ = false ∧ B < wc.heap.size)
  case first =>
    refine wp_region_noPanic ?_
    go_region_with (go_at_call 31; refine (chosen_all A cc l _ (HC.out _ (by first | exact HB1.out | exact pw_below_drewN HB1.out 1 | exact below_drew HB1.out | exact below_drew (below_alloc HB1.out _) | exact below_alloc HB1.out _)) HS.out).mono ?_; rintro e w' ⟨rfl, rfl⟩)
    all_goals refine NoPanic.normal ?_
    all_goals go_wp2
    all_goals go_meet
    all_goals exact ⟨W1.heap.size, rfl, Nat.le_refl _, ⟨below_drew (below_alloc (Below.refl _ _) _)⟩, by simp, by simp, by simp⟩
  case rest =>
    obtain ⟨B, rfl, hB, HB, hcB, hfB, hltB⟩ := hcut
    have hc1' : wc.cell? ⟨w.heap.size, 0, none⟩ = some (.slice A l.length cc) := (HB.out.cell (p := ⟨w.heap.size, 0, none⟩) hlt1).trans hc1
    have hltw : w.heap.size < wc.heap.size := by omega
    have HWC := Aside0.mk (HB1.out.trans (HB.out.mono (Nat.le_of_lt hlt1)))
    go_wp2_with fail
    refine (callsIn_wide.1 (choices_in Fence.wide 1 trivial rfl l.length _)).mono ?_
    rintro e w' ⟨rfl, rfl⟩
    go_wp2_with fail
    have hn : ((wc.alloc (.cells #[.int .i64 0] 3)).alloc (.cells #[.int .i64 (l.length : Int)] 3)).cell? ⟨wc.heap.size + 1, 0, none⟩ = some (.int .i64 (l.length : Int)) := by
      have h := heap_alloc_new (wc.alloc (.cells #[.int .i64 0] 3)) (.cells #[.int .i64 (l.length : Int)] 3)
      rw [World.size_alloc] at h
      exact (blk_cell h 0).trans rfl
    refine wpIn_wide.1 (wpIn_rangeFunc_ownF (F := Fence.wide) (n := 5) rfl (by decide) (gf := 72) (lb := #[.pointer (some ⟨wc.heap.size + 1, 0, none⟩)]) rfl trivial (enters_of Try.func72 (by kernel_rfl) rfl)
      (choices_stops Fence.wide 4 trivial rfl (by decide) (wc.heap.size + 1) wc.heap.size l.length HL _ (by simp) hn) belowK_t (belowK_b (by simp; omega)) (Below.refl _ _) (fun _ => rfl)
      (fun pre W => (W.cell? ⟨wc.heap.size, 0, none⟩ = some (.int .i64 ((pre.filter (tst l)).length : Int)) ∧ W.frozen? ⟨wc.heap.size, 0, none⟩ = false) ∧ Below wc.heap.size wc W)
      (fun _ _ _ => False)
      (OwnFrom.and (Own.from (fun s A B row hs hg hr => ⟨cell_kept hs.1 hg hr, (frozen_kept hs.1 hg hr).trans hs.2⟩) _) (ownFrom_below (Nat.le_refl _) (by simp; omega)))
      (fun _ _ _ _ _ hs _ _ => hs)
      ⟨⟨by simp, by simp⟩, below_alloc (below_alloc (Below.refl _ _) _) _⟩
      ?a1 ?assign ?body ?done ?stop)
    case assign =>
      intro l' x W K hK
      gi_wp2
      exact hK
    case body =>
      rintro l' pre x W ⟨⟨hc, hf⟩, hBl⟩ hlen
      have hcB' : W.cell? ⟨B, 0, none⟩ = some (.int .i64 (tot l)) := (hBl.cell (p := ⟨B, 0, none⟩) hltB).trans hcB
      have hcs' : W.cell? ⟨w.heap.size, 0, none⟩ = some (.slice A l.length cc) := (hBl.cell (p := ⟨w.heap.size, 0, none⟩) hltw).trans hc1'
      have HCW := Aside0.mk (HC.out W (HWC.out.trans (hBl.mono (Nat.le_of_lt hltw))))
      have HBl := Aside0.mk hBl
      obtain ⟨t1, t2⟩ := tot_12 HS.out
      obtain ⟨t3, t4⟩ := pick_12 HS.out x.1
      have hx := x.2
      have m1 := mag_12 _ t1 t2
      have HLN := Aside0.mk hlen
      have m2 := mag_36 (tot l - 2 * pick l x.1) (by omega) (by omega)
      clear hBl hlen
      have e1 : IntKind.i64.wrap (2 * pick l x.1) = 2 * pick l x.1 := i64_id _ (by omega) (by omega)
      have e2 : IntKind.i64.wrap (tot l - 2 * pick l x.1) = tot l - 2 * pick l x.1 := i64_id _ (by omega) (by omega)
      gi_wp2
      refine wpIn_region_quiet_r (by kernel_rfl) (by kernel_rfl) rfl ?_
      repeat (quiet_step (first | (go_at_call 31; refine Calls.quiet_of_same ((chosen_calls A cc l x.1 _ (Kd.C_below HCW.out (pw_below_drewN (Below.refl _ _) _)) HS.out (by omega)).mono fun _ _ ⟨p, q⟩ => ⟨p, q.symm⟩)) | (go_at_call 33; refine Calls.quiet_of_same ((absolute_calls _ _ (by omega) (by omega)).mono fun _ _ ⟨p, q⟩ => ⟨p, q.symm⟩))))
      refine wpQuiet_nil ?_
      intro _ hw'
      obtain ⟨nq, hw''⟩ := hw'
      subst hw''
      clear e1 e2
      have HF := Aside0.mk (filter_snoc l pre x)
      have hcnt : (pre.filter (tst l)).length ≤ 4096 := Nat.le_trans (List.length_filter_le _ _) (by have := HLN.out; omega)
      gi_wp2
      · have ht : tst l x = true := decide_eq_true (by assumption)
        have e1 : ((List.filter (tst l) (pre ++ [x])).length : Int) = ((List.filter (tst l) pre).length : Int) + 1 := by rw [HF.out, if_pos ht]; omega
        refine ⟨(keeps_drewN W nq).trans (KeepsOthers.setCell _ _ _), (pw_below_drewN (Below.refl _ W) nq).setCell (p := ⟨wc.heap.size, 0, none⟩) (Nat.le_refl _) _, ⟨?_, ?_⟩, (pw_below_drewN HBl.out nq).setCell (p := ⟨wc.heap.size, 0, none⟩) (Nat.le_refl _) _⟩
        · rw [e1]; exact World.cell?_setCell_same' _ _ _ (by show (W.cell? _).isSome = true; rw [hc]; rfl)
        · rw [World.frozen?_setCell]; exact hf
      · have ht : ¬ tst l x = true := by unfold tst; rw [decide_eq_true_iff]; omega
        have e1 : (List.filter (tst l) (pre ++ [x])).length = (List.filter (tst l) pre).length := by rw [HF.out, if_neg ht]; rfl
        refine ⟨keeps_drewN W nq, pw_below_drewN (Below.refl _ W) nq, ⟨?_, hf⟩, pw_below_drewN HBl.out nq⟩
        rw [e1]; exact hc
    case done =>
      rintro D ys W hD hS ⟨⟨hc, hf⟩, hBl⟩ hK
      rw [filter_all l ys hS] at hc
      have hcs' : W.cell? ⟨w.heap.size, 0, none⟩ = some (.slice A l.length cc) := (hBl.cell (p := ⟨w.heap.size, 0, none⟩) hltw).trans hc1'
      have hK2' : W.heap[w.heap.size + 1]? = some (.cells #[.int .i64 0, .int .i64 0] 31 (0, 0)) := (hBl.block _ (by have := HSZ.out; omega)).trans ((HB.out.block _ (by have := HSZ.out; omega)).trans HK2.out)
      have hw2 : w.heap.size + 1 < W.heap.size := (Array.getElem?_eq_some_iff.1 hK2').1
      have hr0 := blk_cell hK2' 0
      have hr1 := blk_cell hK2' 1
      have hg0 := blk_frozen hK2' 0
      have hg1 := blk_frozen hK2' 1
      have HBW := Aside0.mk (HWC.out.trans (hBl.mono (Nat.le_of_lt hltw)))
      have HK := Aside0.mk hK
      have HD := Aside0.mk hD
      have HK2' := Aside0.mk hK2'
      clear hK hD hK2' hBl
      gi_wp2
      go_wp2_with fail
      refine wp_region_noPanic ?_
      go_region_with (go_at_call 34; refine (reduce_wrap (signsN l) l.length HL (signsN_le l) _).mono ?_; rintro e w' ⟨rfl, hb⟩; have q0 : w'.cell? ⟨w.heap.size + 1, 0, none⟩ = some (.int .i64 0) := (hb.cell (p := ⟨w.heap.size + 1, 0, none⟩) hw2).trans hr0; have q1 : w'.cell? ⟨w.heap.size + 1, 1, none⟩ = some (.int .i64 0) := (hb.cell (p := ⟨w.heap.size + 1, 1, none⟩) hw2).trans hr1; have q2 : w'.frozen? ⟨w.heap.size + 1, 0, none⟩ = false := (hb.frozen (p := ⟨w.heap.size + 1, 0, none⟩) hw2).trans hg0; have q3 : w'.frozen? ⟨w.heap.size + 1, 1, none⟩ = false := (hb.frozen (p := ⟨w.heap.size + 1, 1, none⟩) hw2).trans hg1; have HB' := Aside0.mk hb; clear hb)
      all_goals refine NoPanic.normal ?_
      all_goals go_wp2
      all_goals
        have hlD : w.heap.size + 1 < D := by have := HD.out; have := HSZ.out; simp at *; omega
        have hDW : D < W.heap.size := (Array.getElem?_eq_some_iff.1 HK.out).1
        have hb5 : Below W.heap.size W w' := (below_drew (Below.refl W.heap.size W)).trans HB'.out
        have k0 : w'.heap[w.heap.size + 1]? = some (.cells #[.int .i64 0, .int .i64 0] 31 (0, 0)) := (hb5.block _ hw2).trans HK2'.out
        have k1 := blk_put k0 0 (.int .i64 ↑(redN (signsN l) (2 ^ l.length))) rfl
        have k2 := blk_put k1 1 (.int .i64 ↑(redD (signsN l) (2 ^ l.length))) rfl
        have d0 : w'.heap[D]? = some (.deferred (some [])) := (hb5.block _ hDW).trans HK.out
        have d1 := (Below.heap_setCell w' ⟨w.heap.size + 1, 0, none⟩ (.int .i64 ↑(redN (signsN l) (2 ^ l.length))) D (by show D ≠ w.heap.size + 1; omega)).trans d0
        have d2 := (Below.heap_setCell _ ⟨w.heap.size + 1, 1, none⟩ (.int .i64 ↑(redD (signsN l) (2 ^ l.length))) D (by show D ≠ w.heap.size + 1; omega)).trans d1
        have b1 : Below w.heap.size w w' := HBW.out.trans (hb5.mono (by omega))
        have b2 := (b1.setCell (p := ⟨w.heap.size + 1, 0, none⟩) (by show w.heap.size ≤ w.heap.size + 1; omega) (.int .i64 ↑(redN (signsN l) (2 ^ l.length)))).setCell (p := ⟨w.heap.size + 1, 1, none⟩) (by show w.heap.size ≤ w.heap.size + 1; omega) (.int .i64 ↑(redD (signsN l) (2 ^ l.length)))
        generalize (w'.setCell ⟨w.heap.size + 1, 0, none⟩ (.int .i64 ↑(redN (signsN l) (2 ^ l.length)))).setCell ⟨w.heap.size + 1, 1, none⟩ (.int .i64 ↑(redD (signsN l) (2 ^ l.length))) = W5 at k2 d2 b2 ⊢
        simp only [Act.put]
        refine ⟨by simp, .inl ⟨_, _, rfl, run_takeDeferred d2, ?_⟩⟩
        refine ⟨_, results_ct rfl _ _ (w.heap.size + 1) 31 #[.int .i64 ↑(redN (signsN l) (2 ^ l.length)), .int .i64 ↑(redD (signsN l) (2 ^ l.length))] (0, 0) _ rfl ((World.putObj_heap_other (by omega)).trans k2) Try.underlying31 rfl (by kernel_rfl), ?_⟩
        exact ⟨rfl, b2.trans (belowK_b (w := w) (Nat.le_refl _) W5 D _ _ (by omega) d2 rfl rfl)⟩
    case stop =>
      rintro D c pre W _ _ h _
      exact h.elim
end Go.Proofs.Ytofkakdiddfcaaa.Sam
