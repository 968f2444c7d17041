/- Contract of Exchange at small samples. -/
import Derived.Test.YtofkakdiddfcaaaSamG
namespace Go.Proofs.Ytofkakdiddfcaaa.Sam
open Go.RowKit Go.Shelf Go.Proofs.YtofkakdiddfcaaaW.PrintWords Go.Proofs.YtofkakdiddfcaaaW.PrintLast Go.Proofs.YtofkakdiddfcaaaW.PrintMore Go.Proofs.Ytofkakdiddfcaaa.PSamplingErrors
attribute [local go_sem] Oper.semAt_some

def ownOf (l : List Int) (k : Nat) : Int := diffOf l k (pick l (2 ^ k - 1))
def exR (l : List Int) (k : Nat) : Value := .tuple #[.agg #[.int .i64 (redN (exchN l k (ownOf l k)) (exchOf l k) : Nat), .int .i64 (redD (exchN l k (ownOf l k)) (exchOf l k) : Nat)], .int .i64 0]
def tk (k : Nat) (c : Ch) : Bool := ones 12 c.1 == k
def td (l : List Int) (k : Nat) (own : Int) (c : Ch) : Bool := tk k c && decide (own ≤ diffOf l k (pick l c.1))

theorem filt_snoc (p : Ch → Bool) (pre : List Ch) (x : Ch) : ((pre ++ [x]).filter p).length = (pre.filter p).length + (if p x = true then 1 else 0) := by
  rw [List.filter_append, List.length_append, List.filter_cons]
  split <;> simp
theorem tk_all (l : List Int) (k : Nat) (hl : l.length ≤ 12) (ys : List Ch) (h : ys.map (·.1) = List.range (2 ^ l.length)) : (ys.filter (tk k)).length = exchOf l k := by
  have e : exchOf l k = ((List.range (2 ^ l.length)).filter fun c => ones 12 c == k).length := by
    unfold exchOf
    congr 1
    apply List.filter_congr
    intro c hc
    rw [ones_more l.length 12 c hl (List.mem_range.1 hc)]
  rw [e, ← h, List.filter_map, List.length_map]
  rfl
theorem td_all (l : List Int) (k : Nat) (own : Int) (hl : l.length ≤ 12) (ys : List Ch) (h : ys.map (·.1) = List.range (2 ^ l.length)) : (ys.filter (td l k own)).length = exchN l k own := by
  have e : exchN l k own = ((List.range (2 ^ l.length)).filter fun c => ones 12 c == k && decide (own ≤ diffOf l k (pick l c))).length := by
    unfold exchN
    congr 1
    apply List.filter_congr
    intro c hc
    rw [ones_more l.length 12 c hl (List.mem_range.1 hc)]
  rw [e, ← h, List.filter_map, List.length_map]
  rfl
theorem wrap_pow_k (k : Nat) (hk : k ≤ 12) : IntKind.u64.wrap (IntKind.u64.wrap (2 ^ k) - 1) = ((2 ^ k - 1 : Nat) : Int) := by
  rw [wrap_pow_u k hk]; exact wrap_pow_pred k hk
set_option maxRecDepth 100000 in
set_option maxHeartbeats 4000000 in
theorem exchange_calls (A B : Option Addr) (ca cb : Nat) (a b l : List Int) (hab : a ++ b = l) (w : World) (ha : Kd.C (Kd.int .i64) w A a.length a) (hb : Kd.C (Kd.int .i64) w B b.length b) (hca : a.length ≤ ca) (hcb : b.length ≤ cb) (hs : Small l) :
    Calls Try.prog 10 #[.slice A a.length ca, .slice B b.length cb] w fun e w' => e = .returned (exR l a.length) ∧ Below w.heap.size w w' := by
  have HA := Aside0.mk ha
  have HBb := Aside0.mk hb
  have HS := Aside0.mk hs
  have HLab : a.length + b.length = l.length := by rw [← hab, List.length_append]
  have HL := hs.1
  have hgt : decide (12 < l.length) = false := decide_eq_false (by omega)
  have hgt' : decide ((12 : Int) < (l.length : Int)) = false := decide_eq_false (by omega)
  have HO := Aside0.mk (small_not_big hs)
  clear ha hb hs
  refine (callsIn_wide (n := 6)).1 ?_
  refine callsIn_of_wp_marks Try.func10 rfl trivial ?_ rfl
  simp only [Try.ntmps10, List.size_toArray, List.length_cons, List.length_nil, Nat.reduceAdd, Nat.reduceSub, Array.replicate_succ, Array.replicate_zero, List.push_toArray, List.append_toArray, List.nil_append, List.cons_append]
  refine wpIn_wide.2 ?_
  go_wp2_with fail
  obtain ⟨W0, hW0⟩ : ∃ W0, (w.alloc (.cells #[.slice A a.length ca] 26)).alloc (.cells #[.int .i64 0, .int .i64 0] 31) = W0 := ⟨_, rfl⟩
  have hsz : W0.heap.size = w.heap.size + 2 := by rw [← hW0]; simp
  have hlt0 : w.heap.size < W0.heap.size := by omega
  have hb0 : Below w.heap.size w W0 := by rw [← hW0]; exact below_alloc (below_alloc (Below.refl _ _) _) _
  have hc1 : W0.cell? ⟨w.heap.size, 0, none⟩ = some (.slice A a.length ca) := by rw [← hW0]; simp
  have hK2 : W0.heap[w.heap.size + 1]? = some (.cells #[.int .i64 0, .int .i64 0] 31 (0, 0)) := by rw [← hW0]; simpa using heap_alloc_new (w.alloc (.cells #[.slice A a.length ca] 26)) (.cells #[.int .i64 0, .int .i64 0] 31)
  rw [hW0]
  have HSZ := Aside0.mk hsz
  have HB0 := Aside0.mk hb0
  have HK2 := Aside0.mk hK2
  have HC1 := Aside0.mk hc1
  clear hW0 hb0 hK2 hc1
  have hg : (W0.alloc (.cells #[.slice A a.length ca, .slice B b.length cb] 26)).heap[w.heap.size + 1 + 1]? = some (.cells #[.slice A a.length ca, .slice B b.length cb] 26 (0, 0)) := by
    have := heap_alloc_new W0 (.cells #[.slice A a.length ca, .slice B b.length cb] 26)
    rwa [hsz] at this
  refine (concat_calls _ A B ca cb a b _ hg (Kd.C_below HA.out (below_alloc HB0.out _)) (Kd.C_below HBb.out (below_alloc HB0.out _)) hca hcb (by omega) (by omega)).mono ?_
  clear hg
  rintro e W1 ⟨v, rfl, hR, hB1⟩
  rw [hab] at hR
  obtain ⟨L, cl, rfl, hle, hCL⟩ := Kd.R_reads hR
  have hB1 := (below_alloc (Below.refl W0.heap.size W0) (.cells #[.slice A a.length ca, .slice B b.length cb] 26)).trans (hB1.mono (by simp))
  have hlt1 : W0.heap.size ≤ W1.heap.size := hB1.size
  have HCL := Aside0.mk (fun W (h : Below W1.heap.size W1 W) => Kd.C_below hCL h)
  have HB1 := Aside0.mk (HB0.out.trans (hB1.mono (by omega)))
  have HC1 := Aside0.mk ((hB1.cell (p := ⟨w.heap.size, 0, none⟩) hlt0).trans HC1.out)
  have HK2 := Aside0.mk ((hB1.block (w.heap.size + 1) (by omega)).trans HK2.out)
  clear hR hB1 hCL
  have hltw : w.heap.size < W1.heap.size := by omega
  go_wp2_with fail
  refine (outside_calls L cl l _ (HCL.out _ (by repeat (first | exact Below.refl _ _ | apply Below.setCell _ (Nat.le_refl _) _ | apply below_alloc)))).mono ?_
  rw [HO.out]
  rintro e w' ⟨rfl, rfl⟩
  go_wp2_with fail
  obtain ⟨W2, hW2⟩ : ∃ W2, W1.alloc (.cells #[.slice L l.length cl] 26) = W2 := ⟨_, rfl⟩
  rw [hW2]
  have hsz2 : W2.heap.size = W1.heap.size + 1 := by rw [← hW2]; simp
  have hlt12 : W1.heap.size < W2.heap.size := by omega
  have HSZ2 := Aside0.mk hsz2
  clear hsz2
  have hc2 : W2.cell? ⟨W1.heap.size, 0, none⟩ = some (.slice L l.length cl) := by rw [← hW2]; simp
  have hB2 : Below W1.heap.size W1 W2 := by rw [← hW2]; exact below_alloc (Below.refl _ _) _
  have HB2 := Aside0.mk hB2
  have HC2 := Aside0.mk hc2
  have HC1 := Aside0.mk ((hB2.cell (p := ⟨w.heap.size, 0, none⟩) hltw).trans HC1.out)
  clear hW2 hB2
  have hpow := wrap_pow_u l.length HL
  have hp2 := (pow_bd l.length HL).2
  have hp1 := (pow_bd l.length HL).1
  go_cut [7] from 25 to 30 (fun v7 wc => ∃ B7 : Nat, v7 = .pointer (some ⟨B7, 0, none⟩) ∧ W2.heap.size ≤ B7 ∧ Aside0 (Below W2.heap.size W2 wc) ∧ wc.cell? ⟨B7, 0, none⟩ = some (.int .i64 (tot l)) ∧ wc.frozen? ⟨B7, 0, none⟩ = false ∧ B7 < wc.heap.size)
  case first =>

    refine wp_region_noPanic ?_
    go_region_with (go_at_call 31; refine (chosen_all L cl l _ (HCL.out _ (by first | exact HB2.out | exact pw_below_drewN HB2.out 1 | exact below_drew HB2.out | exact below_drew (below_alloc HB2.out _) | exact below_alloc HB2.out _)) HS.out).mono ?_; rintro e w' ⟨rfl, rfl⟩)
    all_goals refine NoPanic.normal ?_
    all_goals go_wp2
    all_goals go_meet
    all_goals exact ⟨W2.heap.size, rfl, Nat.le_refl _, ⟨below_drew (below_alloc (Below.refl _ _) _)⟩, by simp, by simp, by simp⟩
  case rest =>
    obtain ⟨B7, rfl, hB, HB, hcB, hfB, hltB⟩ := hcut
    go_wp2_with fail
    obtain ⟨W3, hW3⟩ : ∃ W3, wc.alloc (.cells #[.func (.func 36) #[] #[.pointer (some ⟨W1.heap.size, 0, none⟩), .pointer (some ⟨B7, 0, none⟩), .pointer (some ⟨w.heap.size, 0, none⟩)]] 72) = W3 := ⟨_, rfl⟩
    rw [hW3]
    have hsz3 : W3.heap.size = wc.heap.size + 1 := by rw [← hW3]; simp
    have hltc : wc.heap.size < W3.heap.size := by omega
    have hc8 : W3.cell? ⟨wc.heap.size, 0, none⟩ = some (.func (.func 36) #[] #[.pointer (some ⟨W1.heap.size, 0, none⟩), .pointer (some ⟨B7, 0, none⟩), .pointer (some ⟨w.heap.size, 0, none⟩)]) := by rw [← hW3]; simp
    have hB3 : Below wc.heap.size wc W3 := by rw [← hW3]; exact below_alloc (Below.refl _ _) _
    have hW23 : W2.heap.size ≤ wc.heap.size := HB.out.size
    have hltw2 : w.heap.size < W2.heap.size := by omega
    have hltw3 : w.heap.size < W3.heap.size := by omega
    have hBB : Below W2.heap.size W2 W3 := HB.out.trans (hB3.mono hW23)
    have hcB := (hB3.cell (p := ⟨B7, 0, none⟩) hltB).trans hcB
    have HC1 := Aside0.mk ((hBB.cell (p := ⟨w.heap.size, 0, none⟩) hltw2).trans HC1.out)
    have HC2 := Aside0.mk ((hBB.cell (p := ⟨W1.heap.size, 0, none⟩) hlt12).trans HC2.out)
    have HB13 := Aside0.mk (HB2.out.trans (hBB.mono (by omega)))
    have HCB := Aside0.mk hcB
    have hc1 := HC1.out
    have hlt3 : W1.heap.size < W3.heap.size := by omega
    have hlt37 : B7 < W3.heap.size := by omega
    have HS3 := Aside0.mk hsz3
    have HBB := Aside0.mk hBB
    have hka := wrap_pow_k a.length (by omega)
    have hdiff : ∀ W, Below W3.heap.size W3 W → ∀ c : Nat, c < 18446744073709551616 → Calls Try.prog 36 #[.int .u64 (c : Int), .pointer (some ⟨W1.heap.size, 0, none⟩), .pointer (some ⟨B7, 0, none⟩), .pointer (some ⟨w.heap.size, 0, none⟩)] W fun e w' => e = .returned (.int .i64 (diffOf l a.length (pick l c))) ∧ ∃ m, w' = W.drewN m := by
      intro W hW c hc
      refine diff_calls _ _ _ L A cl ca l a.length c W ((hW.cell (p := ⟨W1.heap.size, 0, none⟩) hlt3).trans HC2.out) ((hW.cell (p := ⟨B7, 0, none⟩) hlt37).trans HCB.out) ((hW.cell (p := ⟨w.heap.size, 0, none⟩) hltw3).trans HC1.out) (HCL.out W (HB13.out.trans (hW.mono (by omega)))) HS.out (by omega) hc
    have HD := Aside0.mk hdiff
    clear hdiff hsz3 hB3 hW3 hBB hfB hcB
    have hp3 := (pow_bd a.length (by omega)).2
    have H8 := Aside0.mk (fun W (h : Below W3.heap.size W3 W) => (h.cell (p := ⟨wc.heap.size, 0, none⟩) hltc).trans hc8)
    go_cut [9] from 32 to 37 (fun v9 wd => ∃ B9 : Nat, v9 = .pointer (some ⟨B9, 0, none⟩) ∧ W3.heap.size ≤ B9 ∧ Aside0 (Below W3.heap.size W3 wd) ∧ wd.cell? ⟨B9, 0, none⟩ = some (.int .i64 (ownOf l a.length)) ∧ B9 < wd.heap.size)
    case first =>
      refine wp_region_noPanic ?_
      go_region_with (first | (go_at_call 36; refine (HD.out _ (by first | exact Below.refl _ _ | exact pw_below_drewN (Below.refl _ _) 1 | exact below_drew (Below.refl _ _) | exact below_drew (below_alloc (Below.refl _ _) _) | exact below_alloc (Below.refl _ _) _) _ (by omega)).mono ?_; rintro e w' ⟨rfl, m, hm⟩; (try have q0 : w'.cell? ⟨W3.heap.size, 0, none⟩ = some (.int .i64 0) := by (rw [hm]; simp; done)); (try have q2 : W3.heap.size < w'.heap.size := by (rw [hm]; simp; done)); (try have q1 : w'.frozen? ⟨W3.heap.size, 0, none⟩ = false := by (rw [hm]; simp; done)); have hbw : Aside0 (Below W3.heap.size W3 w') := ⟨by rw [hm]; repeat (first | exact Below.refl _ _ | apply below_drew | refine pw_below_drewN ?_ _ | apply below_alloc)⟩; clear hm) | fail)
      all_goals refine NoPanic.normal ?_
      all_goals go_wp2
      all_goals go_meet
      all_goals first
        | exact ⟨w'.heap.size, rfl, hbw.out.size, ⟨below_alloc hbw.out _⟩, by simp; rfl, by simp⟩
        | exact ⟨W3.heap.size, rfl, Nat.le_refl _, ⟨hbw.out.setCell (Nat.le_refl _) _⟩, World.cell?_setCell_same' _ _ _ (by show (w'.cell? _).isSome = true; rw [q0]; rfl), by simpa using q2⟩
    case rest =>
      obtain ⟨B9, rfl, hB9, HB9, hcB9, hlt9⟩ := hcut
      have hB39 := HB9.out
      have hc2d := (hB39.cell (p := ⟨W1.heap.size, 0, none⟩) hlt3).trans HC2.out
      have hc1d := (hB39.cell (p := ⟨w.heap.size, 0, none⟩) hltw3).trans HC1.out
      have hc8d := H8.out _ hB39
      have hz39 : W3.heap.size ≤ wc.heap.size := hB39.size
      have hlt1d : W1.heap.size < wc.heap.size := by omega
      have hltwd : w.heap.size < wc.heap.size := by omega
      clear hB39
      go_wp2_with fail
      refine (callsIn_wide.1 (choices_in Fence.wide 1 trivial rfl l.length _)).mono ?_
      rintro e w' ⟨rfl, rfl⟩
      go_wp2_with fail
      obtain ⟨W5, hW5⟩ : ∃ W5, (wc.alloc (.cells #[.int .i64 0] 3)).alloc (.cells #[.int .i64 0] 3) = W5 := ⟨_, rfl⟩
      rw [hW5]
      have hs5 : W5.heap.size = wc.heap.size + 2 := by rw [← hW5]; simp
      have hB5 : Below wc.heap.size wc W5 := by rw [← hW5]; exact below_alloc (below_alloc (Below.refl _ _) _) _
      have hx0 : W5.cell? ⟨wc.heap.size, 0, none⟩ = some (.int .i64 0) := by rw [← hW5]; simp
      have hx1 : W5.cell? ⟨wc.heap.size + 1, 0, none⟩ = some (.int .i64 0) := by rw [← hW5]; simp
      have hy0 : W5.frozen? ⟨wc.heap.size, 0, none⟩ = false := by rw [← hW5]; simp
      have hy1 : W5.frozen? ⟨wc.heap.size + 1, 0, none⟩ = false := by rw [← hW5]; simp
      have hn : (W5.alloc (.cells #[.int .i64 (l.length : Int)] 3)).cell? ⟨wc.heap.size + 1 + 1, 0, none⟩ = some (.int .i64 (l.length : Int)) := by
        have h := heap_alloc_new W5 (.cells #[.int .i64 (l.length : Int)] 3)
        rw [hs5] at h
        exact (blk_cell h 0).trans rfl
      have hltd0 : wc.heap.size < W5.heap.size := by omega
      have hltd1 : wc.heap.size + 1 < W5.heap.size := by omega
      have hB6 : Below wc.heap.size wc (W5.alloc (.cells #[.int .i64 (l.length : Int)] 3)) := below_alloc hB5 _
      have hz6 : (W5.alloc (.cells #[.int .i64 (l.length : Int)] 3)).heap.size = W5.heap.size + 1 := by simp
      have hz0 : (W5.alloc (.cells #[.int .i64 (l.length : Int)] 3)).cell? ⟨wc.heap.size, 0, none⟩ = some (.int .i64 0) := ((below_alloc (Below.refl W5.heap.size W5) _).cell (p := ⟨wc.heap.size, 0, none⟩) hltd0).trans hx0
      have hz1 : (W5.alloc (.cells #[.int .i64 (l.length : Int)] 3)).cell? ⟨wc.heap.size + 1, 0, none⟩ = some (.int .i64 0) := ((below_alloc (Below.refl W5.heap.size W5) _).cell (p := ⟨wc.heap.size + 1, 0, none⟩) hltd1).trans hx1
      have hv0 : (W5.alloc (.cells #[.int .i64 (l.length : Int)] 3)).frozen? ⟨wc.heap.size, 0, none⟩ = false := ((below_alloc (Below.refl W5.heap.size W5) _).frozen (p := ⟨wc.heap.size, 0, none⟩) hltd0).trans hy0
      have hv1 : (W5.alloc (.cells #[.int .i64 (l.length : Int)] 3)).frozen? ⟨wc.heap.size + 1, 0, none⟩ = false := ((below_alloc (Below.refl W5.heap.size W5) _).frozen (p := ⟨wc.heap.size + 1, 0, none⟩) hltd1).trans hy1
      generalize hW6 : W5.alloc (.cells #[.int .i64 (l.length : Int)] 3) = W6 at hn hB6 hz6 hz0 hz1 hv0 hv1 ⊢
      clear hW6 hx0 hx1 hy0 hy1 hB5 hW5
      have HWC := Aside0.mk (HB1.out.trans (HB13.out.mono (Nat.le_of_lt hltw)))
      have hK2d : wc.heap[w.heap.size + 1]? = some (.cells #[.int .i64 0, .int .i64 0] 31 (0, 0)) := (HB9.out.block _ (by have := HSZ.out; omega)).trans ((HB13.out.block _ (by have := HSZ.out; omega)).trans HK2.out)
      have HKd := Aside0.mk hK2d
      have HZ6 := Aside0.mk hz6
      have HS5 := Aside0.mk hs5
      clear hK2d hz6 hs5
      refine wpIn_wide.1 (wpIn_rangeFunc_ownF (F := Fence.wide) (n := 5) rfl (by decide) (gf := 72) (lb := #[.pointer (some ⟨wc.heap.size + 1 + 1, 0, none⟩)]) rfl trivial (enters_of Try.func72 (by kernel_rfl) rfl)
        (choices_stops Fence.wide 4 trivial rfl (by decide) (wc.heap.size + 1 + 1) wc.heap.size l.length HL _ (by have := HZ6.out; have := HS5.out; omega) hn) belowK_t (belowK_b (by have := HZ6.out; have := HS5.out; omega)) (Below.refl _ _) (fun _ => rfl)
        (fun pre W => ((W.cell? ⟨wc.heap.size, 0, none⟩ = some (.int .i64 ((pre.filter (td l a.length (ownOf l a.length))).length : Int)) ∧ W.frozen? ⟨wc.heap.size, 0, none⟩ = false) ∧
          (W.cell? ⟨wc.heap.size + 1, 0, none⟩ = some (.int .i64 ((pre.filter (tk a.length)).length : Int)) ∧ W.frozen? ⟨wc.heap.size + 1, 0, none⟩ = false)) ∧ Below wc.heap.size wc W)
        (fun _ _ _ => False)
        (OwnFrom.and (Own.from (fun s A B row hs hg hr => ⟨⟨cell_kept hs.1.1 hg hr, (frozen_kept hs.1.1 hg hr).trans hs.1.2⟩, ⟨cell_kept hs.2.1 hg hr, (frozen_kept hs.2.1 hg hr).trans hs.2.2⟩⟩) _) (ownFrom_below (Nat.le_refl _) (by have := HZ6.out; have := HS5.out; omega)))
        (fun _ _ _ _ _ hs _ _ => hs)
        ⟨⟨⟨hz0, hv0⟩, ⟨hz1, hv1⟩⟩, hB6⟩
        ?a1 ?assign ?body ?done ?stop)
      case assign =>
        intro l' x W K hK
        gi_wp2
        exact hK
      case body =>
        rintro l' pre x W ⟨⟨⟨hc0, hf0⟩, ⟨hcn, hfn⟩⟩, hBl⟩ hlen
        have hx := x.2
        have ho := ones_some x.1 hx
        have hc9 : W.cell? ⟨B9, 0, none⟩ = some (.int .i64 (ownOf l a.length)) := (hBl.cell (p := ⟨B9, 0, none⟩) hlt9).trans hcB9
        have hb36 : Below W3.heap.size W3 W := HB9.out.trans (hBl.mono hz39)
        have hc8w := H8.out _ hb36
        have hc1w := (hBl.cell (p := ⟨w.heap.size, 0, none⟩) hltwd).trans hc1d
        have HB3W := Aside0.mk hb36
        have HBl := Aside0.mk hBl
        have HLN := Aside0.mk hlen
        have HO1 := Aside0.mk ho
        have hcnt : (pre.filter (tk a.length)).length ≤ 4096 := Nat.le_trans (List.length_filter_le _ _) (by omega)
        have hcnd : (pre.filter (td l a.length (ownOf l a.length))).length ≤ 4096 := Nat.le_trans (List.length_filter_le _ _) (by omega)
        have HF1 := Aside0.mk (filt_snoc (tk a.length) pre x)
        have HF2 := Aside0.mk (filt_snoc (td l a.length (ownOf l a.length)) pre x)
        clear hBl hlen ho hb36
        by_cases hk : ones 12 x.1 = a.length
        · have hne : decide (((ones 12 x.1 : Nat) : Int) = (a.length : Int)) = true := decide_eq_true (by omega)
          gi_wp2
          refine wpIn_region_quiet_r (by kernel_rfl) (by kernel_rfl) rfl ?_
          repeat (quiet_step (first | (go_at_call 37; refine Calls.quiet_of ((bits_OnesCount.calls _ _ _ HO1.out).mono fun _ _ ⟨p, q⟩ => ⟨p, q.out⟩))))
          refine wpQuiet_nil ?_
          intro _ hw'
          obtain ⟨nq, hw''⟩ := hw'
          subst hw''
          gi_wp2
          have hkk : tk a.length x = true := by unfold tk; rw [hk]; simp
          obtain ⟨W7, hW7⟩ : ∃ W7, (W.drewN nq).setCell ⟨wc.heap.size + 1, 0, none⟩ (.int .i64 (((pre.filter (tk a.length)).length : Int) + 1)) = W7 := ⟨_, rfl⟩
          rw [hW7]
          have hb7 : Below wc.heap.size W W7 := by rw [← hW7]; exact (pw_below_drewN (Below.refl _ W) nq).setCell (p := ⟨wc.heap.size + 1, 0, none⟩) (by show wc.heap.size ≤ wc.heap.size + 1; omega) _
          have hk7 : KeepsOthers W W7 := by rw [← hW7]; exact (keeps_drewN W nq).trans (KeepsOthers.setCell _ _ _)
          have g0 : W7.cell? ⟨wc.heap.size, 0, none⟩ = some (.int .i64 ((pre.filter (td l a.length (ownOf l a.length))).length : Int)) := by
            rw [← hW7]; exact (World.cell?_setCell_other _ _ _ _ (by intro h; have := congrArg Addr.block h; simp at this)).trans hc0
          have g1 : W7.cell? ⟨wc.heap.size + 1, 0, none⟩ = some (.int .i64 (((pre.filter (tk a.length)).length : Int) + 1)) := by
            rw [← hW7]; exact World.cell?_setCell_same' _ _ _ (by show (W.cell? _).isSome = true; rw [hcn]; rfl)
          have g2 : W7.frozen? ⟨wc.heap.size, 0, none⟩ = false := by rw [← hW7, World.frozen?_setCell]; exact hf0
          have g3 : W7.frozen? ⟨wc.heap.size + 1, 0, none⟩ = false := by rw [← hW7, World.frozen?_setCell]; exact hfn
          have hb37 : Below W3.heap.size W3 W7 := HB3W.out.trans (hb7.mono hz39)
          have hc9' : W7.cell? ⟨B9, 0, none⟩ = some (.int .i64 (ownOf l a.length)) := (hb7.cell (p := ⟨B9, 0, none⟩) hlt9).trans hc9
          have hc8' := H8.out _ hb37
          have HB7 := Aside0.mk hb7
          have HB37 := Aside0.mk hb37
          have HK7 := Aside0.mk hk7
          clear hb7 hb37 hk7 hW7 hc0 hcn hc9 hc8w hc1w
          refine wpIn_region_quiet_r (by kernel_rfl) (by kernel_rfl) rfl ?_
          repeat (quiet_step (first | (go_at_call 36; refine Calls.quiet_of ((HD.out _ (pw_below_drewN HB37.out _) x.1 (by omega))))))
          refine wpQuiet_nil ?_
          intro _ hw'
          obtain ⟨nr, hw''⟩ := hw'
          subst hw''
          gi_wp2
          · have hdd : td l a.length (ownOf l a.length) x = true := by unfold td; rw [hkk]; simp; omega
            refine ⟨HK7.out.trans ((keeps_drewN W7 nr).trans (KeepsOthers.setCell _ _ _)), (pw_below_drewN HB7.out nr).setCell (p := ⟨wc.heap.size, 0, none⟩) (Nat.le_refl _) _, ⟨⟨?_, ?_⟩, ?_, ?_⟩, (pw_below_drewN (HBl.out.trans HB7.out) nr).setCell (p := ⟨wc.heap.size, 0, none⟩) (Nat.le_refl _) _⟩
            · rw [HF2.out, if_pos hdd, Int.natCast_add]; exact World.cell?_setCell_same' _ _ _ (by show (W7.cell? _).isSome = true; rw [g0]; rfl)
            · rw [World.frozen?_setCell]; exact g2
            · rw [HF1.out, if_pos hkk, Int.natCast_add]; exact (World.cell?_setCell_other _ _ _ _ (by intro h; have := congrArg Addr.block h; simp at this)).trans g1
            · rw [World.frozen?_setCell]; exact g3
          · have hdd : ¬ td l a.length (ownOf l a.length) x = true := by unfold td; rw [hkk]; simp; omega
            refine ⟨HK7.out.trans (keeps_drewN W7 nr), pw_below_drewN HB7.out nr, ⟨⟨?_, g2⟩, ?_, g3⟩, pw_below_drewN (HBl.out.trans HB7.out) nr⟩
            · rw [HF2.out, if_neg hdd]; exact g0
            · rw [HF1.out, if_pos hkk, Int.natCast_add]; exact g1
        · have hne : decide (((ones 12 x.1 : Nat) : Int) = (a.length : Int)) = false := decide_eq_false (by omega)
          gi_wp2
          refine wpIn_region_quiet_r (by kernel_rfl) (by kernel_rfl) rfl ?_
          repeat (quiet_step (first | (go_at_call 37; refine Calls.quiet_of ((bits_OnesCount.calls _ _ _ HO1.out).mono fun _ _ ⟨p, q⟩ => ⟨p, q.out⟩))))
          refine wpQuiet_nil ?_
          intro _ hw'
          obtain ⟨nq, hw''⟩ := hw'
          subst hw''
          gi_wp2
          have hkk : tk a.length x = false := by unfold tk; simpa using hk
          have hdd : ¬ td l a.length (ownOf l a.length) x = true := by unfold td; rw [hkk]; simp
          refine ⟨keeps_drewN W nq, pw_below_drewN (Below.refl _ W) nq, ⟨⟨?_, hf0⟩, ?_, hfn⟩, pw_below_drewN HBl.out nq⟩
          · rw [HF2.out, if_neg hdd]; exact hc0
          · rw [HF1.out, if_neg (by rw [hkk]; decide)]; exact hcn
      case done =>
        rintro D ys W hD hS ⟨⟨⟨hc0, hf0⟩, ⟨hcn, hfn⟩⟩, hBl⟩ hK
        rw [td_all l a.length (ownOf l a.length) HL ys hS] at hc0
        rw [tk_all l a.length HL ys hS] at hcn
        have hK2' : W.heap[w.heap.size + 1]? = some (.cells #[.int .i64 0, .int .i64 0] 31 (0, 0)) := (hBl.block _ (by have := HSZ.out; omega)).trans HKd.out
        have hw2 : w.heap.size + 1 < W.heap.size := (Array.getElem?_eq_some_iff.1 hK2').1
        have hr0 := blk_cell hK2' 0
        have hr1 := blk_cell hK2' 1
        have hg0 := blk_frozen hK2' 0
        have hg1 := blk_frozen hK2' 1
        have HBW := Aside0.mk (HWC.out.trans ((HB9.out.mono (Nat.le_of_lt hltw3)).trans (hBl.mono (Nat.le_of_lt hltwd))))
        have HK := Aside0.mk hK
        have HD' := Aside0.mk hD
        have HK2' := Aside0.mk hK2'
        clear hK hD hK2' hBl
        obtain ⟨x1, x2⟩ := exch_le l a.length (ownOf l a.length)
        have x3 := exchOf_pos l a.length (by omega)
        gi_wp2
        go_wp2_with fail
        refine (reduce_calls (exchN l a.length (ownOf l a.length)) (exchOf l a.length) (by omega) (by omega) x3 _).mono ?_
        rintro e w' ⟨rfl, hb⟩
        have q0 : w'.cell? ⟨w.heap.size + 1, 0, none⟩ = some (.int .i64 0) := (hb.cell (p := ⟨w.heap.size + 1, 0, none⟩) hw2).trans hr0
        have q1 : w'.cell? ⟨w.heap.size + 1, 1, none⟩ = some (.int .i64 0) := (hb.cell (p := ⟨w.heap.size + 1, 1, none⟩) hw2).trans hr1
        have q2 : w'.frozen? ⟨w.heap.size + 1, 0, none⟩ = false := (hb.frozen (p := ⟨w.heap.size + 1, 0, none⟩) hw2).trans hg0
        have q3 : w'.frozen? ⟨w.heap.size + 1, 1, none⟩ = false := (hb.frozen (p := ⟨w.heap.size + 1, 1, none⟩) hw2).trans hg1
        have HB' := Aside0.mk hb
        clear hb
        obtain ⟨rn, hrn⟩ : ∃ rn, redN (exchN l a.length (ownOf l a.length)) (exchOf l a.length) = rn := ⟨_, rfl⟩
        obtain ⟨rd, hrd⟩ : ∃ rd, redD (exchN l a.length (ownOf l a.length)) (exchOf l a.length) = rd := ⟨_, rfl⟩
        rw [hrn, hrd]
        have HRN := Aside0.mk hrn
        have HRD := Aside0.mk hrd
        clear hrn hrd
        go_wp2
        have hlD : w.heap.size + 1 < D := by have := HD'.out; have := HSZ.out; have := HZ6.out; have := HS5.out; omega
        have hDW : D < W.heap.size := (Array.getElem?_eq_some_iff.1 HK.out).1
        have hb5 : Below W.heap.size W w' := HB'.out
        have k0 : w'.heap[w.heap.size + 1]? = some (.cells #[.int .i64 0, .int .i64 0] 31 (0, 0)) := (hb5.block _ hw2).trans HK2'.out
        have k1 := blk_put k0 0 (.int .i64 ↑rn) rfl
        have k2 := blk_put k1 1 (.int .i64 ↑rd) rfl
        have d0 : w'.heap[D]? = some (.deferred (some [])) := (hb5.block _ hDW).trans HK.out
        have d1 := (Below.heap_setCell w' ⟨w.heap.size + 1, 0, none⟩ (.int .i64 ↑rn) D (by show D ≠ w.heap.size + 1; omega)).trans d0
        have d2 := (Below.heap_setCell _ ⟨w.heap.size + 1, 1, none⟩ (.int .i64 ↑rd) D (by show D ≠ w.heap.size + 1; omega)).trans d1
        have b1 : Below w.heap.size w w' := HBW.out.trans (hb5.mono (by omega))
        have b2 := (b1.setCell (p := ⟨w.heap.size + 1, 0, none⟩) (by show w.heap.size ≤ w.heap.size + 1; omega) (.int .i64 ↑rn)).setCell (p := ⟨w.heap.size + 1, 1, none⟩) (by show w.heap.size ≤ w.heap.size + 1; omega) (.int .i64 ↑rd)
        generalize (w'.setCell ⟨w.heap.size + 1, 0, none⟩ (.int .i64 ↑rn)).setCell ⟨w.heap.size + 1, 1, none⟩ (.int .i64 ↑rd) = W9 at k2 d2 b2 ⊢
        try simp only [Act.put]
        refine ⟨by simp, .inl ⟨_, _, rfl, run_takeDeferred d2, ?_⟩⟩
        refine ⟨_, results_ct rfl _ _ (w.heap.size + 1) 31 #[.int .i64 ↑rn, .int .i64 ↑rd] (0, 0) _ rfl ((World.putObj_heap_other (by omega)).trans k2) Try.underlying31 rfl (by kernel_rfl), ?_⟩
        exact ⟨by unfold exR; rw [HRN.out, HRD.out]; rfl, b2.trans (belowK_b (w := w) (Nat.le_refl _) W9 D _ _ (by omega) d2 rfl rfl)⟩
      case stop =>
        rintro D c pre W _ _ h _
        exact h.elim
end Go.Proofs.Ytofkakdiddfcaaa.Sam
