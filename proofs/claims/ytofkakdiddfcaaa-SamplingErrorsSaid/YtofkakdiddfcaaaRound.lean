/- A drawing region that only reads may stand in the body of a range over a function: one walk in the order of the text serves. -/
import Derived.Sort.QuietThIn
import Derived.Deep.Quiet
import Derived.RangeFuncCalls
import Derived.CallsIn
/- A region that draws its order and only reads, in the body of a range over a function: one walk in the text's order serves. -/
namespace Go.Proofs.Ytofkakdiddfcaaa
open Go
variable {P : Program} {n : Nat} {ops : Array Oper} {C : World → Prop} {md : Region.Mode}

theorem wpIn_of_quiet_r {F : Fence} {r : Nat} {o : Oper} {a : Act} {K : Act → Prop} {K' : Act → World → Prop} {Q' : Exit → Act → World → Prop} {w : World} (hd : ∀ c, o.op ≠ .defer c) (hw : C w) (h : ∀ a w', C w' → K a → K' a w')
    (ha : o.askedIn F P a C) (hh : o.quietIn F n P a C K) : o.wpIn (F.inRound r) n P a w K' Q' := by
  obtain ⟨v, h1, h2⟩ := hh
  have h3 := h1 w hw
  unfold Oper.quietAtIn at h3
  unfold Oper.wpIn
  refine ⟨ha w hw, ?_⟩
  rw [Oper.semAt_eq _ _ _ hd]
  generalize (execOp a.eval o).run P w = r at *
  cases r with
  | ok x w' =>
    cases x <;> simp only [Oper.quietUponIn] at h3 <;> simp only [Oper.uponIn]
    case value u =>
      obtain ⟨e1, e2⟩ := h3
      rw [e1, e2]
      exact h _ _ hw h2
    case skip =>
      obtain ⟨e1, e2⟩ := h3
      rw [e1, ← e2]
      exact h _ _ hw h2
    case enter f args =>
      obtain ⟨e1, hd', hc⟩ := h3
      rw [e1]
      exact ⟨hd', CallsIn.inRound _ (hc.mono fun e w'' ⟨he, hw''⟩ => by subst he; exact h _ _ hw'' h2)⟩
  | halt x w' => simp only [Oper.quietUponIn] at h3

theorem wpOpIn_of_qOpIn_r {F : Fence} {r : Nat} {i : Nat} {a : Act} {K : Act → Prop} {K' : Act → World → Prop} {Q' : Exit → Act → World → Prop} {w : World} (hd : ∀ (i : Nat) o, ops[i]? = some o → ∀ c, o.op ≠ .defer c) (hC : C w) (h : ∀ a w', C w' → K a → K' a w')
    (hh : qOpIn F n P ops C i K a) : wpOpIn (F.inRound r) n P ops Q' i K' a w := by
  unfold qOpIn at hh
  unfold wpOpIn
  split
  · rename_i ho; simp only [ho] at hh; exact h _ _ hC hh
  · rename_i o ho
    simp only [ho] at hh
    obtain ⟨ha, hh⟩ := hh
    split
    · rename_i hw; simp only [hw, if_true] at hh; exact wpIn_of_quiet_r (hd _ _ ho) hC h ha hh
    · rename_i hw; simp only [hw] at hh; exact ⟨ha w hC, h _ _ hC hh⟩

theorem wpAnyIn_of_quiet_r {F : Fence} {r : Nat} {Q : Act → Prop} {Q' : Exit → Act → World → Prop} (hd : ∀ (i : Nat) o, ops[i]? = some o → ∀ c, o.op ≠ .defer c) (hQ : ∀ a w, C w → Q a → Q' .normal a w) : ∀ (fuel : Nat) (listed : Array Bool) (a : Act) (w : World), C w →
    wpAnyQIn F n P md ops C Q fuel listed a → wpAnyIn (F.inRound r) n P md ops Q' fuel listed a w
  | 0, _, _, _, hw, h => ⟨h.1, hQ _ _ hw h.2⟩
  | fuel + 1, _, _, _, hw, h => ⟨fun h0 => hQ _ _ hw (h.1 h0), fun i hi => wpOpIn_of_qOpIn_r hd hw (fun a' w' hw' => wpAnyIn_of_quiet_r hd hQ fuel _ a' w' hw') (h.2 i hi)⟩

theorem quietIn_of_quiet {o : Oper} {a : Act} {K : Act → Prop} (h : o.quiet P a C K) : o.quietIn Fence.wide n P a C K := by
  obtain ⟨v, h1, h2⟩ := h
  refine ⟨v, fun w hw => ?_, h2⟩
  have h3 := h1 w hw
  unfold Oper.quietAt at h3
  unfold Oper.quietAtIn
  generalize (execOp a.eval o).run P w = r at *
  cases r with
  | ok x w' =>
    cases x <;> simp only [Oper.quietUpon] at h3 <;> simp only [Oper.quietUponIn]
    case value u => exact h3
    case skip => exact h3
    case enter f args => exact ⟨h3.1, fun hf => by simp [Fence.wide] at hf, callsIn_wide.2 h3.2⟩
  | halt x w' => simp only [Oper.quietUpon] at h3
theorem wpQuietIn_of_quiet {Q : Act → Prop} : ∀ (l : List Oper) (a : Act), wpQuiet P ops C Q l a → wpQuietIn Fence.wide n P ops C Q l a
  | [], _, h => h
  | o :: l, a, h => by
    unfold wpQuiet at h
    unfold wpQuietIn
    refine ⟨fun _ _ _ _ => trivial, ?_⟩
    split
    · rename_i hw
      simp only [hw, if_true] at h
      exact Oper.quietIn_mono (fun a' => wpQuietIn_of_quiet l a') (quietIn_of_quiet h)
    · rename_i hw
      simp only [hw, Bool.false_eq_true, if_false] at h
      exact wpQuietIn_of_quiet l _ h
def noDefer : List Oper → Bool
  | [] => true
  | o :: l => (match o.op with | .defer _ => false | _ => true) && noDefer l
theorem noDefer_spec : ∀ (l : List Oper), noDefer l = true → ∀ (i : Nat) o, l[i]? = some o → ∀ c, o.op ≠ .defer c
  | [], _, i, o, h, _ => by simp at h
  | x :: l, hl, i, o, h, c => by
    simp only [noDefer, Bool.and_eq_true] at hl
    cases i with
    | zero =>
      simp only [List.getElem?_cons_zero, Option.some.injEq] at h
      subst h
      intro e
      rw [e] at hl
      exact absurd hl.1 (by simp)
    | succ i => exact noDefer_spec l hl.2 i o (by simpa using h) c

theorem wpIn_region_quiet_r {r id : Nat} {Q : Exit → Act → World → Prop} {a : Act} {w : World} {l : List Oper} (hm : P.follows .mixedOrders = true) (hB : Region.lexB .any l.toArray = true) (hd : noDefer l = true)
    (h : wpQuiet P l.toArray (fun w' => ∃ n, w' = w.drewN n) (fun a' => ∀ w', (∃ n, w' = w.drewN n) → Q .normal a' w') l a) : (Code.region id l.toArray true).wpIn (Fence.wide.inRound r) n P Q a w := by
  have h' := wpQuietIn_of_quiet (n := n) l a h
  simp only [Region.lexB, Bool.and_eq_true] at hB
  refine wpIn_region_any hm (wpAnyIn_of_quiet_r (F := Fence.wide) (C := fun w' => ∃ n, w' = w.drewN n) (Q := fun a' => ∀ w', (∃ n, w' = w.drewN n) → Q .normal a' w') (fun i o ho => noDefer_spec l hd i o (by simpa using ho)) (fun _ w' hw' h => h w' hw') _ _ _ _ ⟨1, rfl⟩ ?_)
  have := wpAnyQIn_lex (F := Fence.wide) (n := n) (P := P) (C := fun w' => ∃ n, w' = w.drewN n) (md := .any) hB.1 l 0 (Array.replicate l.toArray.size false) a (by simp) (by simpa using hB.2) h'
  simpa using this
end Go.Proofs.Ytofkakdiddfcaaa
