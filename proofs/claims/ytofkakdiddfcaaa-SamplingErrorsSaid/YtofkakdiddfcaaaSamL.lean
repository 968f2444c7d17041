/- The state while the copies are shuffled, and that equal tests are equal. -/
import Derived.Test.YtofkakdiddfcaaaSamJ
/- The state while the copies are shuffled. -/
namespace Go.Proofs.Ytofkakdiddfcaaa.Sam
open Go.RowKit Go.Shelf Go.Proofs.YtofkakdiddfcaaaW.PrintWords Go.Proofs.YtofkakdiddfcaaaW.PrintLast Go.Proofs.YtofkakdiddfcaaaW.PrintMore Go.Proofs.Ytofkakdiddfcaaa.PSamplingErrors
attribute [local go_sem] Oper.semAt_some

def S2 (go z5 z7 : Nat) (k : Nat) : Prop := k = go ∨ (z5 ≤ k ∧ k < z7)
structure St (w wL W : World) (go z5 z6 z7 : Nat) (os : List Int) (VM VN : Value) (a b m n : List Int) (p : Int) : Prop where
  pm : m.Perm a
  pn : n.Perm b
  rm : Kd.R (Kd.int .i64) 3 W z5 (fun k => z5 ≤ k ∧ k < z6) VM m
  rn : Kd.R (Kd.int .i64) 3 W z6 (fun k => z6 ≤ k ∧ k < z7) VN n
  src : IsS63 w W go os p
  ok : Src os p
  kp : Kept wL W (S2 go z5 z7)
  bl : Below w.heap.size w W
  lo : go < z5
  w5 : w.heap.size ≤ z5
  z56 : z5 ≤ z6
  z67 : z6 ≤ z7
  zL : z7 < wL.heap.size
section
variable {w wL W : World} {go z5 z6 z7 : Nat} {os : List Int} {VM VN : Value} {a b m n : List Int} {p : Int}
theorem St.size (h : St w wL W go z5 z6 z7 os VM VN a b m n p) : z7 < W.heap.size := Nat.lt_of_lt_of_le h.zL h.kp.1
theorem St.next (h : St w wL W go z5 z6 z7 os VM VN a b m n p) {W' : World} {q : Int} (hI : IsS63 w W' go os q) (hk : KeepBut W W' go none) (hb : Below w.heap.size w W') (ho : Src os q) :
    St w wL W' go z5 z6 z7 os VM VN a b m n q :=
  ⟨h.pm, h.pn, Kd.R_keep h.rm hk (fun k hk e => by have := h.lo; omega), Kd.R_keep h.rn hk (fun k hk e => by have := h.lo; have := h.z56; omega), hI, ho, h.kp.of_keep hk (.inl (.inl rfl)), hb, h.lo, h.w5, h.z56, h.z67, h.zL⟩
theorem St.drewN (h : St w wL W go z5 z6 z7 os VM VN a b m n p) (d : Nat) : St w wL (W.drewN d) go z5 z6 z7 os VM VN a b m n p :=
  ⟨h.pm, h.pn, Kd.R_drewN h.rm d, Kd.R_drewN h.rn d, h.src.drewN d, h.ok, h.kp.drewN d, pw_below_drewN h.bl d, h.lo, h.w5, h.z56, h.z67, h.zL⟩
theorem St.putM {g l c : Nat} (h : St w wL W go z5 z6 z7 os (.slice (some ⟨g, 0, none⟩) l c) VN a b m n p) (i : Nat) (x : Int) (m' : List Int) (hm : m' = m.set i x) (hg0 : z5 ≤ g) (hg1 : g < z6) :
    Kd.R (Kd.int .i64) 3 (W.setCell ⟨g, i, none⟩ (.int .i64 x)) z5 (fun k => z5 ≤ k ∧ k < z6) (.slice (some ⟨g, 0, none⟩) l c) m' ∧
    Kd.R (Kd.int .i64) 3 (W.setCell ⟨g, i, none⟩ (.int .i64 x)) z6 (fun k => z6 ≤ k ∧ k < z7) VN n ∧ IsS63 w (W.setCell ⟨g, i, none⟩ (.int .i64 x)) go os p ∧
    Kept wL (W.setCell ⟨g, i, none⟩ (.int .i64 x)) (S2 go z5 z7) ∧ Below w.heap.size w (W.setCell ⟨g, i, none⟩ (.int .i64 x)) := by
  refine ⟨?_, Kd.R_far h.rn (fun k hk e => by simp at e; omega) _, h.src.far (p := ⟨g, i, none⟩) (by have := h.lo; show go ≠ g; omega) _, h.kp.setCell (.inl (.inr ⟨hg0, by have := h.z67; show g < z7; omega⟩)) _, h.bl.setCell (p := ⟨g, i, none⟩) (by have := h.w5; show w.heap.size ≤ g; omega) _⟩
  have := Kd.R_putn h.rm (i : Int) x
  rw [Int.toNat_natCast] at this
  rw [hm]
  exact this
theorem St.swapM {g l c : Nat} (h : St w wL W go z5 z6 z7 os (.slice (some ⟨g, 0, none⟩) l c) VN a b m n p) (i j : Nat) (hi : i < m.length) (hj : j < m.length) (hg0 : z5 ≤ g) (hg1 : g < z6) :
    St w wL ((W.setCell ⟨g, i, none⟩ (.int .i64 (m.getD j 0))).setCell ⟨g, j, none⟩ (.int .i64 (m.getD i 0))) go z5 z6 z7 os (.slice (some ⟨g, 0, none⟩) l c) VN a b (swp m i j) n p := by
  obtain ⟨r1, r2, r3, r4, r5⟩ := h.putM i (m.getD j 0) _ rfl hg0 hg1
  refine ⟨(swp_perm m i j hi hj).trans h.pm, h.pn, ?_, Kd.R_far r2 (fun k hk e => by simp at e; omega) _, r3.far (p := ⟨g, j, none⟩) (by have := h.lo; show go ≠ g; omega) _, h.ok, r4.setCell (.inl (.inr ⟨hg0, by have := h.z67; show g < z7; omega⟩)) _, r5.setCell (p := ⟨g, j, none⟩) (by have := h.w5; show w.heap.size ≤ g; omega) _, h.lo, h.w5, h.z56, h.z67, h.zL⟩
  have := Kd.R_putn r1 (j : Int) (m.getD i 0)
  rw [Int.toNat_natCast] at this
  exact this
theorem St.swapN {g l c : Nat} (h : St w wL W go z5 z6 z7 os VM (.slice (some ⟨g, 0, none⟩) l c) a b m n p) (i j : Nat) (hi : i < n.length) (hj : j < n.length) (hg0 : z6 ≤ g) (hg1 : g < z7) :
    St w wL ((W.setCell ⟨g, i, none⟩ (.int .i64 (n.getD j 0))).setCell ⟨g, j, none⟩ (.int .i64 (n.getD i 0))) go z5 z6 z7 os VM (.slice (some ⟨g, 0, none⟩) l c) a b m (swp n i j) p := by
  have f1 : ∀ k, z5 ≤ k ∧ k < z6 → ∀ s, k ≠ (⟨g, s, none⟩ : Addr).block := fun k hk s e => by simp at e; omega
  have f2 : ∀ s, go ≠ (⟨g, s, none⟩ : Addr).block := fun s e => by have := h.lo; have := h.z56; simp at e; omega
  have f3 : S2 go z5 z7 g := .inr ⟨by have := h.z56; omega, hg1⟩
  have f4 : w.heap.size ≤ g := by have := h.w5; have := h.z56; omega
  refine ⟨h.pm, (swp_perm n i j hi hj).trans h.pn, Kd.R_far (Kd.R_far h.rm (fun k hk => f1 k hk i) _) (fun k hk => f1 k hk j) _, ?_, (h.src.far (f2 i) _).far (f2 j) _, h.ok, (h.kp.setCell (p := ⟨g, i, none⟩) (.inl f3) _).setCell (p := ⟨g, j, none⟩) (.inl f3) _, (h.bl.setCell (p := ⟨g, i, none⟩) f4 _).setCell (p := ⟨g, j, none⟩) f4 _, h.lo, h.w5, h.z56, h.z67, h.zL⟩
  have := Kd.R_putn h.rn (i : Int) (n.getD j 0)
  rw [Int.toNat_natCast] at this
  have := Kd.R_putn this (j : Int) (n.getD i 0)
  rw [Int.toNat_natCast] at this
  exact this
theorem int_cell {g l c base : Nat} {okp : Nat → Prop} (h : Kd.R (Kd.int .i64) 3 W base okp (.slice (some ⟨g, 0, none⟩) l c) m) (i : Nat) (hi : i < m.length) : W.cell? ⟨g, i, none⟩ = some (.int .i64 (m.getD i 0)) ∧ W.frozen? ⟨g, i, none⟩ = false := by
  obtain ⟨rfl, _⟩ := Kd.R_reads' h
  have := own_at_of (d := 0) (Kd.own_of_R h) (i : Int) (by omega) (by omega)
  rw [Int.toNat_natCast] at this
  refine ⟨?_, this.2⟩
  rw [this.1]
  unfold rdOf
  rw [Int.toNat_natCast]
end
theorem signs_same (A : Option Addr) (cc : Nat) (l a : List Int) (w : World) (hl : l.length = a.length) (hn : signsN l = signsN a) (hr : Kd.C (Kd.int .i64) w A l.length l) (hs : Small l) (rn rd : Nat) (h1 : redN (signsN a) (2 ^ a.length) = rn) (h2 : redD (signsN a) (2 ^ a.length) = rd) :
    Calls Try.prog 9 #[.slice A a.length cc] w fun e w' => e = .returned (.tuple #[.agg #[.int .i64 rn, .int .i64 rd], .int .i64 0]) ∧ Below w.heap.size w w' := by
  have h := signs_calls A cc l w hr hs
  rwa [hl, hn, h1, h2] at h
theorem diffOf_perm {l l' : List Int} (h : l.Perm l') (k : Nat) (s : Int) : diffOf l k s = diffOf l' k s := by unfold diffOf; rw [tot_perm h, h.length_eq]
theorem exR_perm {a b m n : List Int} (hm : m.Perm a) (hn : n.Perm b) : exR (m ++ n) m.length = exR (a ++ b) a.length := by
  have hp : (m ++ n).Perm (a ++ b) := hm.append hn
  have ho : ownOf (m ++ n) m.length = ownOf (a ++ b) a.length := by
    unfold ownOf
    rw [pick_append_one, pick_append_one, tot_perm hm, hm.length_eq, diffOf_perm hp]
  unfold exR
  rw [ho, hm.length_eq, exchN_perm hp, exchOf_perm hp]
theorem exch_same (A B : Option Addr) (ca cb : Nat) (m n a b : List Int) (w : World) (hm : m.Perm a) (hn : n.Perm b) (ha : Kd.C (Kd.int .i64) w A m.length m) (hb : Kd.C (Kd.int .i64) w B n.length n) (hca : a.length ≤ ca) (hcb : b.length ≤ cb) (hs : Small (m ++ n)) (v : Value) (hv : exR (a ++ b) a.length = v) :
    Calls Try.prog 10 #[.slice A a.length ca, .slice B b.length cb] w fun e w' => e = .returned v ∧ Below w.heap.size w w' := by
  have h := exchange_calls A B ca cb m n _ rfl w ha hb (by rw [hm.length_eq]; exact hca) (by rw [hn.length_eq]; exact hcb) hs
  rwa [exR_perm hm hn, hm.length_eq, hn.length_eq, hv] at h
theorem C_one {W : World} {g t : Nat} {x : Int} (h : W.heap[g]? = some (.cells #[.int .i64 x] t (0, 0))) : Kd.C (Kd.int .i64) W (some ⟨g, 0, none⟩) 1 [x] := by
  refine Kd.C_of_reads (d := 0) ⟨rfl, by omega, fun _ => ⟨_, rfl, ?_⟩⟩
  intro j hj
  obtain rfl : j = 0 := by omega
  exact blk_cell h 0
theorem take_neg (a : List Int) (k : Nat) (h : k < a.length) : (a.map fun x => -x).take (k + 1) = (a.map fun x => -x).take k ++ [-(rd a (k : Int))] := by
  rw [List.take_add_one, List.getElem?_map, List.getElem?_eq_getElem h]
  simp [rd, List.getElem?_eq_getElem h]
end Go.Proofs.Ytofkakdiddfcaaa.Sam
