/- The law itself walked: function 3 returns true, at any bytes; it writes nothing that was there. -/
import Derived.Test.YtofkakdiddfcaaaSamL
/- The law itself: function 3. -/
namespace Go.Proofs.Ytofkakdiddfcaaa.Sam
open Go.RowKit Go.Shelf Go.Proofs.YtofkakdiddfcaaaW.PrintWords Go.Proofs.YtofkakdiddfcaaaW.PrintLast Go.Proofs.YtofkakdiddfcaaaW.PrintMore Go.Proofs.Ytofkakdiddfcaaa.PSamplingErrors
attribute [local go_sem] Oper.semAt_some

set_option maxRecDepth 100000 in
set_option maxHeartbeats 4000000 in
theorem law_calls (A B : Option Addr) (ca cb : Nat) (xs ys : List Int) (w : World) (hx : Kd.C (Kd.int .u8) w A xs.length xs) (hy : Kd.C (Kd.int .u8) w B ys.length ys) (hcx : xs.length ≤ ca) (hcy : ys.length ≤ cb)
    (bx : ∀ x ∈ xs, 0 ≤ x ∧ x ≤ 255) (bz : ∀ x ∈ ys, 0 ≤ x ∧ x ≤ 255) :
    Calls Try.prog 3 #[.slice A xs.length ca, .slice B ys.length cb] w fun e w' => e = .returned (.bool true) ∧ Below w.heap.size w w' := by
  have HX := Aside0.mk hx
  have HY := Aside0.mk hy
  obtain ⟨cs, ec, sc⟩ := new_some xs 80 bx (by omega) (by omega)
  obtain ⟨os, eo, so⟩ := new_some ys 20 bz (by omega) (by omega)
  obtain ⟨a, p1, ea, la, fa, s1⟩ := sample_some cs 0 5 sc (by omega) (by omega)
  obtain ⟨b, p2, eb, lb, fb, s2⟩ := sample_some cs p1 5 s1 (by omega) (by omega)
  have la : a.length ≤ 5 := by omega
  have lb : b.length ≤ 5 := by omega
  have EC := Aside0.mk ec
  have EO := Aside0.mk eo
  have EA := Aside0.mk ea
  have EB := Aside0.mk eb
  have SO := Aside0.mk so
  have FA := Aside0.mk fa
  have FB := Aside0.mk fb
  clear hx hy ec eo ea eb so fa fb s1 s2 sc bx bz
  go_enter Try.func3, Try.ntmps3
  go_wp2_with fail
  refine (awake_calls _).mono ?_
  rintro e w1 ⟨rfl, hb1⟩
  have HB1 := Aside0.mk hb1
  clear hb1
  go_wp2_with fail
  refine (synopticfield_New.calls A ca xs 80 cs 0 w w1 HB1.out HX.out hcx EC.out).mono ?_
  rintro e w2 ⟨gc, rfl, hI, hB2, _⟩
  have HI2 := Aside0.mk hI
  have HB2 := Aside0.mk hB2
  clear hI hB2
  go_wp2_with fail
  refine (synopticlaw39_sample.calls 20 gc cs 0 5 a p1 w w2 HI2.out HB2.out EA.out).mono ?_
  rintro e w3 ⟨VA, rfl, hRA, hI3, hB3, hk3⟩
  have HA3 := Aside0.mk hRA
  have HI3 := Aside0.mk hI3
  have HB3 := Aside0.mk hB3
  clear hRA hI3 hB3 hk3
  go_wp2_with fail
  refine (synopticlaw39_sample.calls 20 gc cs p1 5 b p2 w w3 HI3.out HB3.out EB.out).mono ?_
  rintro e w4 ⟨VB, rfl, hRB, hI4, hB4, hk4⟩
  have HA4 := Aside0.mk (Kd.R_keep (HI3.out.apart HA3.out (by decide)) hk4 (fun k hk => hk.2))
  have HR4 := Aside0.mk hRB
  have HB4 := Aside0.mk hB4
  clear hRB hI4 hB4 hk4
  go_wp2_with fail
  refine (synopticfield_New.calls B cb ys 20 os 0 w w4 HB4.out HY.out hcy EO.out).mono ?_
  rintro e w5 ⟨go, rfl, hI5, hB5, hb45⟩
  have hRA5 := Kd.R_bound (hI5.apart (Kd.R_below HA4.out hb45) (by decide))
  have hRB5 := Kd.R_bound (hI5.apart (Kd.R_below HR4.out hb45) (by decide))
  obtain ⟨LA, ka, rfl, hka, _⟩ := Kd.R_reads hRA5
  obtain ⟨LB, kb, rfl, hkb, _⟩ := Kd.R_reads hRB5
  have HCA5 := Aside0.mk (Kd.C_kept_own (S := fun k => k = go ∨ w5.heap.size ≤ k) hRA5 (fun k hk hs => by rcases hs with hs | hs; exact hk.1.2 hs; omega))
  have HCB5 := Aside0.mk (Kd.C_kept_own (S := fun k => k = go ∨ w5.heap.size ≤ k) hRB5 (fun k hk hs => by rcases hs with hs | hs; exact hk.1.2 hs; omega))
  have HI5 := Aside0.mk hI5
  have HB5 := Aside0.mk hB5
  have HLT := Aside0.mk hI5.lt
  clear hI5 hB5 hb45 hRA5 hRB5
  go_wp2_with (first
    | (at_builtin; refine Kd.R_append_rows (Kd.int .i64) (w0 := w5) w5.heap.size rfl (.const (.slice none 0 0)) (.tmp 38) 26 3 (.int .i64 0) 8 rfl Try.underlying26 info3 rfl (by decide) (by decide) (.slice none 0 0) [] a LA _ ka (fun _ => True) (fun _ => False) rfl rfl (Kd.R_nil _ _ _ _ _) (HCA5.out w5 (Kept.refl _ _)) (fun _ _ h => h) (fun _ h => h.elim) (fun _ _ => trivial) (Below.refl _ _) (Nat.le_refl _) (by first | omega | (simp; omega)) ?_))
  intro VM w6 hRM hB6 _ _
  have HRM := Aside0.mk hRM
  have HB6 := Aside0.mk hB6
  clear hRM hB6
  go_wp2_with (first
    | (at_builtin; refine Kd.R_append_rows (Kd.int .i64) (w0 := w6) w6.heap.size rfl (.const (.slice none 0 0)) (.tmp 40) 26 3 (.int .i64 0) 8 rfl Try.underlying26 info3 rfl (by decide) (by decide) (.slice none 0 0) [] b LB _ kb (fun _ => True) (fun _ => False) rfl rfl (Kd.R_nil _ _ _ _ _) (HCB5.out w6 (Kept.of_below HB6.out _)) (fun _ _ h => h) (fun _ h => h.elim) (fun _ _ => trivial) (Below.refl _ _) (Nat.le_refl _) (by first | omega | (simp; omega)) ?_))
  intro VN w7 hRN hB7 _ _
  have hRM : Kd.R (Kd.int .i64) 3 w6 w5.heap.size (fun _ => True) VM a := HRM.out
  replace hRN : Kd.R (Kd.int .i64) 3 w7 w6.heap.size (fun _ => True) VN b := hRN
  obtain ⟨LM, km, rfl, hkm, _⟩ := Kd.R_reads hRM
  obtain ⟨LN, kn, rfl, hkn, _⟩ := Kd.R_reads hRN
  have hB57 : Below w5.heap.size w5 w7 := HB6.out.trans (hB7.mono HB6.out.size)
  obtain ⟨wL, hwL⟩ : ∃ wL, w7.alloc (.cells #[.slice LM a.length km, .slice LN b.length kn] 26) = wL := ⟨_, rfl⟩
  have hblk : wL.heap[w7.heap.size]? = some (.cells #[.slice LM a.length km, .slice LN b.length kn] 26 (0, 0)) := by rw [← hwL]; exact heap_alloc_new _ _
  have hB7L : Below w7.heap.size w7 wL := by rw [← hwL]; exact below_alloc (Below.refl _ _) _
  have hz7L : wL.heap.size = w7.heap.size + 1 := by rw [← hwL]; simp
  have hSt : St w wL wL go w5.heap.size w6.heap.size w7.heap.size os (.slice LM a.length km) (.slice LN b.length kn) a b a b 0 :=
    ⟨List.Perm.refl _, List.Perm.refl _, Kd.R_below (Kd.R_mono (Kd.R_below (Kd.R_bound hRM) hB7) (fun k hk => ⟨hk.2.1, hk.2.2.1⟩)) hB7L, Kd.R_below (Kd.R_mono (Kd.R_bound hRN) (fun k hk => ⟨hk.2.1, hk.2.2.1⟩)) hB7L,
      HI5.out.below (hB57.trans (hB7L.mono hB57.size)), SO.out, Kept.refl _ _, HB5.out.trans ((hB57.trans (hB7L.mono hB57.size)).mono HB5.out.size), HLT.out, HB5.out.size, HB6.out.size, hB7.size, by omega⟩
  have HCA := Aside0.mk (Kd.C_kept_call HCA5.out (Kept.of_below (hB57.trans (hB7L.mono hB57.size)) _) (S2 := S2 go w5.heap.size w7.heap.size) (fun k hk => hk.elim (fun h => .inl (.inl h)) (fun h => .inl (.inr h.1))))
  have HCB := Aside0.mk (Kd.C_kept_call HCB5.out (Kept.of_below (hB57.trans (hB7L.mono hB57.size)) _) (S2 := S2 go w5.heap.size w7.heap.size) (fun k hk => hk.elim (fun h => .inl (.inl h)) (fun h => .inl (.inr h.1))))
  have HST := Aside0.mk hSt
  have HBK := Aside0.mk hblk
  have HWL := Aside0.mk hwL
  have HSZ := Aside0.mk hB57.size
  clear hSt hblk hRM hRN hB7 hB7L hB57 hz7L hwL
  go_wp2_with fail
  rw [HWL.out]
  have g20 := Aside0.mk hka
  go_loopw [12, 13, 14, 46] (fun _ _ _ i wr => ∃ (j : Nat) (m n : List Int) (p : Int), j ≤ 2 ∧ i = .int .i64 j ∧ Aside0 (St w wL wr go w5.heap.size w6.heap.size w7.heap.size os (.slice LM a.length km) (.slice LN b.length kn) a b m n p)) (fun _ _ _ i _ => 2 - (intOf i).toNat)
  case atStart => exact ⟨0, a, b, 0, by omega, rfl, HST⟩
  case round =>
    obtain ⟨j, m, n, p, hj, rfl, HS⟩ := hrel
    have hblk' := blk_kept HBK.out HS.out.kp (by unfold S2; have := HLT.out; have := HSZ.out; omega)
    have hk0 := blk_cell hblk' 0
    have hk1 := blk_cell hblk' 1
    rcases (by omega : j = 0 ∨ j = 1 ∨ j = 2) with rfl | rfl | rfl
    · have hlm : m.length = a.length := HS.out.pm.length_eq
      rw [show ((0 : Nat) : Int) = 0 from rfl]
      go_wp2_with fail
      go_loopw [13, 14] (fun k _ wr => ∃ (q : Int) (m' : List Int) (p' : Int), (-1 ≤ q ∧ q < (a.length : Int)) ∧ k = .int .i64 q ∧ Aside0 (St w wL wr go w5.heap.size w6.heap.size w7.heap.size os (.slice LM a.length km) (.slice LN b.length kn) a b m' n p')) (fun k _ _ => (intOf k + 1).toNat)
      case atStart => exact ⟨_, m, p, by omega, rfl, HS⟩
      case round =>
        obtain ⟨q, m', p', ⟨hq0, hq1⟩, rfl, HS'⟩ := hrel
        by_cases hq : 0 < q
        · have hqt : decide (0 < q) = true := decide_eq_true hq
          obtain ⟨r, p'', er, hr0, hr1, hso⟩ := next_some os p' (q + 1) HS'.out.ok (by omega) (by omega)
          have ER := Aside0.mk er
          have HSO := Aside0.mk hso
          clear er hso
          go_wp2_with fail
          refine (synopticfield_Codes_Next.calls go os p' (q + 1) r p'' w wr HS'.out.src HS'.out.bl ER.out).mono ?_
          rintro e W1 ⟨rfl, hI, hB, hK⟩
          have HS1 := Aside0.mk (HS'.out.next hI hK hB HSO.out)
          clear hI hB hK
          go_wp2_with fail
          have hlm' : m'.length = a.length := HS1.out.pm.length_eq
          obtain ⟨i, rfl⟩ := Int.eq_ofNat_of_zero_le hr0
          obtain ⟨k, rfl⟩ := Int.eq_ofNat_of_zero_le (Int.le_of_lt hq)
          obtain ⟨g, cap, hgv, hg0, _, _⟩ := Kd.R_form HS1.out.rm (by omega)
          have hg1 : g < w6.heap.size := (HS1.out.rm.1 g (by rw [hgv]; rfl)).2
          have hLM : LM = some ⟨g, 0, none⟩ := by injection hgv
          subst hLM
          clear hgv
          obtain ⟨c0, f0⟩ := int_cell HS1.out.rm i (by omega)
          obtain ⟨c1, f1⟩ := int_cell HS1.out.rm k (by omega)
          obtain ⟨c2, f2⟩ := int_cell (HS1.out.putM i (m'.getD k 0) _ rfl hg0 hg1).1 k (by simp; omega)
          have hSW := HS1.out.swapM i k (by omega) (by omega) hg0 hg1
          generalize m'.getD i 0 = u at c0 hSW
          generalize m'.getD k 0 = v at c1 c2 f2 hSW
          generalize (m'.set i v).getD k 0 = y at c2
          have HSW := Aside0.mk hSW
          clear hSW
          have hi' : (i : Int) < (a.length : Int) := by omega
          have hk' : (k : Int) < (a.length : Int) := by omega
          go_region_with fail
          all_goals
            go_wp2_with fail
            go_roundw
            case rel => exact ⟨(k : Int) - 1, swp m' i k, p'', by omega, by go_num, ⟨HSW.out.drewN 1⟩⟩
            case measure => simp [intOf]
        · have hqt : decide (0 < q) = false := decide_eq_false hq
          go_wp2_with fail
          go_roundw
          case rel => exact ⟨1, m', n, p', by omega, by go_num, HS'⟩
          case measure => simp [intOf]
    · have hln : n.length = b.length := HS.out.pn.length_eq
      rw [show ((1 : Nat) : Int) = 1 from rfl]
      go_wp2_with fail
      go_loopw [13, 14] (fun k _ wr => ∃ (q : Int) (n' : List Int) (p' : Int), (-1 ≤ q ∧ q < (b.length : Int)) ∧ k = .int .i64 q ∧ Aside0 (St w wL wr go w5.heap.size w6.heap.size w7.heap.size os (.slice LM a.length km) (.slice LN b.length kn) a b m n' p')) (fun k _ _ => (intOf k + 1).toNat)
      case atStart => exact ⟨_, n, p, by omega, rfl, HS⟩
      case round =>
        obtain ⟨q, n', p', ⟨hq0, hq1⟩, rfl, HS'⟩ := hrel
        by_cases hq : 0 < q
        · have hqt : decide (0 < q) = true := decide_eq_true hq
          obtain ⟨r, p'', er, hr0, hr1, hso⟩ := next_some os p' (q + 1) HS'.out.ok (by omega) (by omega)
          have ER := Aside0.mk er
          have HSO := Aside0.mk hso
          clear er hso
          go_wp2_with fail
          refine (synopticfield_Codes_Next.calls go os p' (q + 1) r p'' w wr HS'.out.src HS'.out.bl ER.out).mono ?_
          rintro e W1 ⟨rfl, hI, hB, hK⟩
          have HS1 := Aside0.mk (HS'.out.next hI hK hB HSO.out)
          clear hI hB hK
          go_wp2_with fail
          have hln' : n'.length = b.length := HS1.out.pn.length_eq
          obtain ⟨i, rfl⟩ := Int.eq_ofNat_of_zero_le hr0
          obtain ⟨k, rfl⟩ := Int.eq_ofNat_of_zero_le (Int.le_of_lt hq)
          obtain ⟨g, cap, hgv, hg0, _, _⟩ := Kd.R_form HS1.out.rn (by omega)
          have hg1 : g < w7.heap.size := (HS1.out.rn.1 g (by rw [hgv]; rfl)).2
          have hLN : LN = some ⟨g, 0, none⟩ := by injection hgv
          subst hLN
          clear hgv
          obtain ⟨c0, f0⟩ := int_cell HS1.out.rn i (by omega)
          obtain ⟨c1, f1⟩ := int_cell HS1.out.rn k (by omega)
          obtain ⟨c2, f2⟩ := int_cell (by have R1 := Kd.R_putn HS1.out.rn (i : Int) (n'.getD k 0); rw [Int.toNat_natCast] at R1; exact R1) k (by simp; omega)
          have hSW := HS1.out.swapN i k (by omega) (by omega) hg0 hg1
          generalize n'.getD i 0 = u at c0 hSW
          generalize n'.getD k 0 = v at c1 c2 f2 hSW
          generalize (n'.set i v).getD k 0 = y at c2
          have HSW := Aside0.mk hSW
          clear hSW
          have hi' : (i : Int) < (b.length : Int) := by omega
          have hk' : (k : Int) < (b.length : Int) := by omega
          go_region_with fail
          all_goals
            go_wp2_with fail
            go_roundw
            case rel => exact ⟨(k : Int) - 1, swp n' i k, p'', by omega, by go_num, ⟨HSW.out.drewN 1⟩⟩
            case measure => simp [intOf]
        · have hqt : decide (0 < q) = false := decide_eq_false hq
          go_wp2_with fail
          go_roundw
          case rel => exact ⟨2, m, n', p', by omega, by go_num, HS'⟩
          case measure => simp [intOf]
    · obtain ⟨w8, hw8⟩ : ∃ w8, w8 = wr := ⟨_, rfl⟩
      subst hw8
      rw [show ((2 : Nat) : Int) = 2 from rfl]
      have hCA := HCA.out w8 HS.out.kp
      have hCB := HCB.out w8 HS.out.kp
      have hlm : m.length = a.length := HS.out.pm.length_eq
      have hln : n.length = b.length := HS.out.pn.length_eq
      have hCM := (Kd.R_reads' HS.out.rm).2.2
      have hCN := (Kd.R_reads' HS.out.rn).2.2
      have HCA' := Aside0.mk hCA
      have HCB' := Aside0.mk hCB
      have HCM' := Aside0.mk hCM
      have HCN' := Aside0.mk hCN
      clear hCA hCB hCM hCN
      go_wp2_with fail
      go_loopw [15, 17, 78] (fun v _ i w9 => ∃ (k : Nat) (v6 : Value), v6 = v ∧ k ≤ a.length ∧ i = .int .i64 k ∧ Aside0 (Kd.R (Kd.int .i64) 3 w9 w8.heap.size (fun _ => True) v6 ((a.map fun x => -x).take k)) ∧ Aside0 (Below w8.heap.size w8 w9)) (fun _ _ i _ => a.length - (intOf i).toNat)
      case atStart => exact ⟨0, _, rfl, by omega, rfl, ⟨by simpa using Kd.R_nil _ _ _ _ _⟩, ⟨Below.refl _ _⟩⟩
      case round =>
        obtain ⟨k, v6, rfl, hk, rfl, HV, HBr⟩ := hrel
        by_cases hkt : k < a.length
        · have hki : (k : Int) < (a.length : Int) := by omega
          obtain ⟨ad, hL, hcell⟩ := Kd.at_int (Kd.C_below HCA'.out HBr.out) (k : Int) (by omega) hki
          rw [Int.toNat_natCast] at hcell
          obtain ⟨n0, n1⟩ := FA.out _ (rd_mem a (k : Int) hki (by omega))
          have HTN := Aside0.mk (take_neg a k hkt)
          generalize hx : rd a (k : Int) = x at hcell n0 n1 HTN
          have e1 : IntKind.i64.wrap (-x) = -x := i64_id _ (by omega) (by omega)
          subst hL
          go_wp2_with (at_builtin; refine Kd.R_append_rows (Kd.int .i64) (w0 := w8) w8.heap.size rfl (.tmp 82) (.tmp 85) 26 3 (.int .i64 0) 8 rfl Try.underlying26 info3 rfl (by decide) (by decide) v6 ((a.map fun x => -x).take k) [-x] (some ⟨wr.heap.size, 0, none⟩) _ 1 (fun _ => True) (fun _ => False) rfl rfl (Kd.R_below HV.out (below_alloc (Below.refl _ _) _)) (C_one (heap_alloc_new _ _)) (fun _ _ h => h) (fun _ h => h.elim) (fun _ _ => trivial) (below_alloc HBr.out _) (by have := HBr.out.size; simp; omega) (by have : ((a.map fun x => -x).take k).length ≤ k := (by rw [List.length_take]; omega); omega) ?_)
          intro v1 w1 hR2 hB2 _ _
          rw [← HTN.out] at hR2
          have HR2 := Aside0.mk hR2
          have HB2 := Aside0.mk hB2
          clear hR2 hB2
          go_wp2
          go_roundw
          case rel => exact ⟨k + 1, v1, rfl, by omega, by go_num, HR2, HB2⟩
          case measure => simp [intOf]; omega
        · obtain rfl : k = a.length := by omega
          have hR := HV.out
          rw [show (a.map fun x => -x).take a.length = a.map fun x => -x from by rw [← List.length_map (f := fun x : Int => -x), List.take_length]] at hR
          obtain ⟨LT, kt, rfl, hkt', hCT⟩ := Kd.R_reads hR
          rw [List.length_map] at hkt' hCT ⊢
          have HBF := Aside0.mk (HS.out.bl.trans (HBr.out.mono HS.out.bl.size))
          have hx0 := Kd.C_below HCA'.out HBr.out
          have hx1 := Kd.C_below HCB'.out HBr.out
          have hx2 := Kd.C_below HCM'.out HBr.out
          have hx3 := Kd.C_below HCN'.out HBr.out
          have HX0 := Aside0.mk (fun W (h : Below wr.heap.size wr W) => Kd.C_below hx0 h)
          have HX1 := Aside0.mk (fun W (h : Below wr.heap.size wr W) => Kd.C_below hx1 h)
          have HX2 := Aside0.mk (fun W (h : Below wr.heap.size wr W) => Kd.C_below hx2 h)
          have HX3 := Aside0.mk (fun W (h : Below wr.heap.size wr W) => Kd.C_below hx3 h)
          have HX4 := Aside0.mk (fun W (h : Below wr.heap.size wr W) => Kd.C_below hCT h)
          clear hx0 hx1 hx2 hx3 hCT hR
          obtain ⟨rn, hrn⟩ : ∃ rn, redN (signsN a) (2 ^ a.length) = rn := ⟨_, rfl⟩
          obtain ⟨rd, hrd⟩ : ∃ rd, redD (signsN a) (2 ^ a.length) = rd := ⟨_, rfl⟩
          obtain ⟨un, ud, hex⟩ : ∃ un ud : Nat, exR (a ++ b) a.length = .tuple #[.agg #[.int .i64 un, .int .i64 ud], .int .i64 0] := ⟨_, _, rfl⟩
          have HRN := Aside0.mk hrn
          have HRD := Aside0.mk hrd
          have HEX := Aside0.mk hex
          have hnm := signsN_perm HS.out.pm
          have hnt := signsN_neg a
          have PM := Aside0.mk HS.out.pm
          have PN := Aside0.mk HS.out.pn
          have HNM := Aside0.mk hnm
          have HNT := Aside0.mk hnt
          have FM := fine_perm HS.out.pm FA.out
          have FN := fine_perm HS.out.pn FB.out
          have FT := fine_neg FA.out
          have S0 := Aside0.mk (small_of a FA.out (by omega))
          have S1 := Aside0.mk (small_of m FM (by omega))
          have S2' := Aside0.mk (small_of _ FT (by rw [List.length_map]; omega))
          have S3 := Aside0.mk (small_append a b FA.out FB.out (by omega))
          have S4 := Aside0.mk (small_append m n FM FN (by omega))
          clear hrn hrd hex hnm hnt FM FN FT
          go_wp2_with fail
          refine (signs_same LA ka a a wr rfl rfl (HX0.out wr (Below.refl _ _)) S0.out rn rd HRN.out HRD.out).mono ?_
          rintro e x1 ⟨rfl, hb1⟩
          have Q1 := Aside0.mk (below_alloc hb1 (.cells #[.int .i64 rn, .int .i64 rd] 31))
          clear hb1
          go_wp2_with fail
          have z1 := Q1.out.size
          obtain ⟨y1, hy1⟩ : ∃ y1, x1.alloc (.cells #[.int .i64 rn, .int .i64 rd] 31) = y1 := ⟨_, rfl⟩
          rw [hy1] at Q1 ⊢
          have k1 : y1.heap[x1.heap.size]? = some (.cells #[.int .i64 rn, .int .i64 rd] 31 (0, 0)) := by rw [← hy1]; exact heap_alloc_new _ _
          have K1 := Aside0.mk k1
          clear k1 hy1 z1
          refine (signs_same LM km m a y1 hlm HNM.out (HX2.out y1 Q1.out) S1.out rn rd HRN.out HRD.out).mono ?_
          rintro e x2 ⟨rfl, hb1⟩
          have B2 := Aside0.mk hb1
          have Q2 := Aside0.mk (below_alloc (Q1.out.trans (hb1.mono Q1.out.size)) (.cells #[.int .i64 rn, .int .i64 rd] 31))
          clear hb1
          go_wp2_with fail
          obtain ⟨y2, hy2⟩ : ∃ y2, x2.alloc (.cells #[.int .i64 rn, .int .i64 rd] 31) = y2 := ⟨_, rfl⟩
          rw [hy2] at Q2 ⊢
          have k1 : y2.heap[x2.heap.size]? = some (.cells #[.int .i64 rn, .int .i64 rd] 31 (0, 0)) := by rw [← hy2]; exact heap_alloc_new _ _
          have K2 := Aside0.mk k1
          have D2 : Aside0 (Below y1.heap.size y1 y2) := ⟨by rw [← hy2]; exact below_alloc B2.out _⟩
          clear k1 hy2
          refine (signs_same LT kt (a.map fun x => -x) a y2 (List.length_map ..) HNT.out (by rw [List.length_map]; exact HX4.out y2 Q2.out) S2'.out rn rd HRN.out HRD.out).mono ?_
          rintro e x3 ⟨rfl, hb1⟩
          have B3 := Aside0.mk hb1
          have Q3 := Aside0.mk (below_alloc (Q2.out.trans (hb1.mono Q2.out.size)) (.cells #[.int .i64 rn, .int .i64 rd] 31))
          clear hb1
          go_wp2_with fail
          obtain ⟨y3, hy3⟩ : ∃ y3, x3.alloc (.cells #[.int .i64 rn, .int .i64 rd] 31) = y3 := ⟨_, rfl⟩
          rw [hy3] at Q3 ⊢
          have k1 : y3.heap[x3.heap.size]? = some (.cells #[.int .i64 rn, .int .i64 rd] 31 (0, 0)) := by rw [← hy3]; exact heap_alloc_new _ _
          have K3 := Aside0.mk k1
          have D3 : Aside0 (Below y2.heap.size y2 y3) := ⟨by rw [← hy3]; exact below_alloc B3.out _⟩
          clear k1 hy3
          refine (exch_same LA LB ka kb a b a b y3 (List.Perm.refl _) (List.Perm.refl _) (HX0.out y3 Q3.out) (HX1.out y3 Q3.out) hka hkb S3.out _ HEX.out).mono ?_
          rintro e x4 ⟨rfl, hb1⟩
          have B4 := Aside0.mk hb1
          have Q4 := Aside0.mk (below_alloc (Q3.out.trans (hb1.mono Q3.out.size)) (.cells #[.int .i64 un, .int .i64 ud] 31))
          clear hb1
          go_wp2_with fail
          obtain ⟨y4, hy4⟩ : ∃ y4, x4.alloc (.cells #[.int .i64 un, .int .i64 ud] 31) = y4 := ⟨_, rfl⟩
          rw [hy4] at Q4 ⊢
          have k1 : y4.heap[x4.heap.size]? = some (.cells #[.int .i64 un, .int .i64 ud] 31 (0, 0)) := by rw [← hy4]; exact heap_alloc_new _ _
          have K4 := Aside0.mk k1
          have D4 : Aside0 (Below y3.heap.size y3 y4) := ⟨by rw [← hy4]; exact below_alloc B4.out _⟩
          clear k1 hy4
          refine (exch_same LM LN km kn m n a b y4 PM.out PN.out (HX2.out y4 Q4.out) (HX3.out y4 Q4.out) hkm hkn S4.out _ HEX.out).mono ?_
          rintro e x5 ⟨rfl, hb1⟩
          have D4' := D4.out.mono D3.out.size
          have j4 := blk_below K4.out hb1
          have j3 := blk_below K3.out (D4.out.trans (hb1.mono D4.out.size))
          have j2 := blk_below K2.out (D3.out.trans ((D4.out.trans (hb1.mono D4.out.size)).mono D3.out.size))
          have j1 := blk_below K1.out (D2.out.trans ((D3.out.trans ((D4.out.trans (hb1.mono D4.out.size)).mono D3.out.size)).mono D2.out.size))
          have l1 := blk_lt j1
          have l2 := blk_lt j2
          have l3 := blk_lt j3
          have l4 := blk_lt j4
          have c10 : x5.cell? ⟨x1.heap.size, 0, none⟩ = some (.int .i64 rn) := (blk_cell j1 0).trans rfl
          have c11 : x5.cell? ⟨x1.heap.size, 1, none⟩ = some (.int .i64 rd) := (blk_cell j1 1).trans rfl
          have c20 : x5.cell? ⟨x2.heap.size, 0, none⟩ = some (.int .i64 rn) := (blk_cell j2 0).trans rfl
          have c21 : x5.cell? ⟨x2.heap.size, 1, none⟩ = some (.int .i64 rd) := (blk_cell j2 1).trans rfl
          have c30 : x5.cell? ⟨x3.heap.size, 0, none⟩ = some (.int .i64 rn) := (blk_cell j3 0).trans rfl
          have c31 : x5.cell? ⟨x3.heap.size, 1, none⟩ = some (.int .i64 rd) := (blk_cell j3 1).trans rfl
          have c40 : x5.cell? ⟨x4.heap.size, 0, none⟩ = some (.int .i64 un) := (blk_cell j4 0).trans rfl
          have c41 : x5.cell? ⟨x4.heap.size, 1, none⟩ = some (.int .i64 ud) := (blk_cell j4 1).trans rfl
          have HBE := Aside0.mk (below_alloc (HBF.out.trans ((Q4.out.trans (hb1.mono Q4.out.size)).mono HBF.out.size)) (.cells #[.int .i64 un, .int .i64 ud] 31))
          clear j1 j2 j3 j4 hb1 D4'
          go_wp2
          go_ret
          exact ⟨rfl, HBE.out⟩
end Go.Proofs.Ytofkakdiddfcaaa.Sam
namespace Go.Proofs.Ytofkakdiddfcaaa.Sam
open Go.RowKit Go.Proofs.YtofkakdiddfcaaaW.PrintWords
theorem byte_wf {l : List Int} (h : ∀ x ∈ l, (Lit.int .u8 x).wf = true) : ∀ x ∈ l, 0 ≤ x ∧ x ≤ 255 := by
  intro x hx
  have := h x hx
  simp only [Lit.wf, IntKind.min, IntKind.max, IntKind.signed, IntKind.bits, Bool.and_eq_true] at this
  simpa using this
theorem law_walk (a0 : Option Addr) (c0 : Nat) (l0 : List Int) (a1 : Option Addr) (c1 : Nat) (l1 : List Int) (w : World) (r0 : Kd.C (Kd.int .u8) w a0 l0.length l0) (h0 : l0.length ≤ c0) (_ : l0.length ≤ maxLen) (b0 : ∀ x ∈ l0, (Lit.int .u8 x).wf = true)
    (r1 : Kd.C (Kd.int .u8) w a1 l1.length l1) (h1 : l1.length ≤ c1) (_ : l1.length ≤ maxLen) (b1 : ∀ x ∈ l1, (Lit.int .u8 x).wf = true) :
    Calls Try.prog 3 #[.slice a0 l0.length c0, .slice a1 l1.length c1] w fun e w' => e = .returned (.bool true) ∧ Below w.heap.size w w' :=
  law_calls a0 a1 c0 c1 l0 l1 w r0 r1 h0 h1 (byte_wf b0) (byte_wf b1)
end Go.Proofs.Ytofkakdiddfcaaa.Sam
