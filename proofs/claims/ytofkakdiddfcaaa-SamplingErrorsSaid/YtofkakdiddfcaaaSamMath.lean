/- Plain arithmetic of samples: sums of choices, the counts of both tests, and that an order of the elements does not change them. -/
namespace Go.Proofs.Ytofkakdiddfcaaa.Sam

/-- the absolute value, as Go's max(n, -n) -/
def mag (n : Int) : Int := if n ≤ -n then -n else n
def tot : List Int → Int
  | [] => 0
  | x :: xs => x + tot xs
def pick : List Int → Nat → Int
  | [], _ => 0
  | x :: xs, c => (if c % 2 = 1 then x else 0) + pick xs (c / 2)
def ones : Nat → Nat → Nat
  | 0, _ => 0
  | n + 1, c => c % 2 + ones n (c / 2)
def subs : List Int → List (Nat × Int)
  | [] => [(0, 0)]
  | x :: xs => subs xs ++ (subs xs).map (fun p => (p.1 + 1, x + p.2))

theorem range_two (m : Nat) : (List.range (2 * m)).Perm ((List.range m).map (fun c => 2 * c) ++ (List.range m).map (fun c => 2 * c + 1)) := by
  induction m with
  | zero => simp
  | succ m ih =>
    rw [show 2 * (m + 1) = (2 * m + 1) + 1 from by omega, List.range_succ, List.range_succ, List.range_succ]
    simp only [List.map_append, List.map_cons, List.map_nil, List.append_assoc]
    refine (List.Perm.append_right _ ih).trans ?_
    simp only [List.append_assoc]
    refine List.Perm.append_left _ ?_
    rw [show [2 * m] ++ [2 * m + 1] = [2 * m, 2 * m + 1] from rfl]
    refine List.perm_append_comm.trans ?_
    simp only [List.cons_append, List.nil_append]
    refine List.Perm.cons _ ?_
    exact (List.perm_append_comm (l₁ := [2 * m + 1]))

theorem choices_perm (l : List Int) : ((List.range (2 ^ l.length)).map fun c => (ones l.length c, pick l c)).Perm (subs l) := by
  induction l with
  | nil => simp [subs, ones, pick]
  | cons x xs ih =>
    rw [List.length_cons, Nat.pow_succ, Nat.mul_comm]
    refine ((range_two _).map _).trans ?_
    rw [List.map_append, List.map_map, List.map_map, subs]
    refine List.Perm.append ?_ ?_
    · refine List.Perm.trans (List.Perm.of_eq ?_) ih
      apply List.map_congr_left
      intro c _
      have h1 : 2 * c % 2 = 0 := by omega
      have h2 : 2 * c / 2 = c := by omega
      simp [ones, pick, h1, h2]
    · refine List.Perm.trans (List.Perm.of_eq ?_) (ih.map _)
      rw [List.map_map]
      apply List.map_congr_left
      intro c _
      have h1 : (2 * c + 1) % 2 = 1 := by omega
      have h2 : (2 * c + 1) / 2 = c := by omega
      simp [ones, pick, h1, h2]
      omega

theorem subs_perm {l l' : List Int} (h : l.Perm l') : (subs l).Perm (subs l') := by
  induction h with
  | nil => exact List.Perm.refl _
  | cons x _ ih => exact List.Perm.append ih (ih.map _)
  | swap x y xs =>
    simp only [subs, List.map_append, List.map_map, List.append_assoc]
    refine List.Perm.append_left _ ?_
    rw [← List.append_assoc, ← List.append_assoc]
    refine List.Perm.append (List.perm_append_comm) (List.Perm.of_eq ?_)
    apply List.map_congr_left
    intro p _
    simp
    omega
  | trans _ _ h1 h2 => exact h1.trans h2

theorem tot_perm {l l' : List Int} (h : l.Perm l') : tot l = tot l' := by
  induction h with
  | nil => rfl
  | cons x _ ih => simp [tot, ih]
  | swap x y xs => simp only [tot]; omega
  | trans _ _ h1 h2 => exact h1.trans h2
theorem tot_append (a b : List Int) : tot (a ++ b) = tot a + tot b := by
  induction a with
  | nil => simp [tot]
  | cons x xs ih => simp only [List.cons_append, tot, ih]; omega
theorem tot_neg (l : List Int) : tot (l.map fun x => -x) = - tot l := by
  induction l with
  | nil => rfl
  | cons x xs ih => simp only [List.map_cons, tot, ih]; omega
theorem subs_neg (l : List Int) : subs (l.map fun x => -x) = (subs l).map fun p => (p.1, -p.2) := by
  induction l with
  | nil => rfl
  | cons x xs ih =>
    simp only [List.map_cons, subs, ih, List.map_append, List.map_map]
    congr 1
    apply List.map_congr_left
    intro p _
    simp
    omega

/-- how many choices of signs -/
def signsN (l : List Int) : Nat := ((List.range (2 ^ l.length)).filter fun c => decide (mag (tot l) ≤ mag (tot l - 2 * pick l c))).length
def diffOf (l : List Int) (k : Nat) (s : Int) : Int := mag (s * l.length - tot l * k)
/-- how many choices of k elements -/
def exchOf (l : List Int) (k : Nat) : Nat := ((List.range (2 ^ l.length)).filter fun c => ones l.length c == k).length
/-- how many of them differ as much -/
def exchN (l : List Int) (k : Nat) (own : Int) : Nat := ((List.range (2 ^ l.length)).filter fun c => ones l.length c == k && decide (own ≤ diffOf l k (pick l c))).length

theorem count_subs (l : List Int) (p : Nat × Int → Bool) : ((List.range (2 ^ l.length)).filter fun c => p (ones l.length c, pick l c)).length = ((subs l).filter p).length := by
  have h := ((choices_perm l).filter p).length_eq
  rw [List.filter_map, List.length_map] at h
  exact h
theorem signsN_subs (l : List Int) : signsN l = ((subs l).filter fun p => decide (mag (tot l) ≤ mag (tot l - 2 * p.2))).length :=
  count_subs l fun p => decide (mag (tot l) ≤ mag (tot l - 2 * p.2))
theorem signsN_perm {l l' : List Int} (h : l.Perm l') : signsN l = signsN l' := by
  rw [signsN_subs, signsN_subs, tot_perm h]
  exact ((subs_perm h).filter _).length_eq
theorem mag_neg (n : Int) : mag (-n) = mag n := by unfold mag; split <;> split <;> omega
theorem signsN_neg (l : List Int) : signsN (l.map fun x => -x) = signsN l := by
  rw [signsN_subs, signsN_subs, tot_neg, subs_neg, List.filter_map, List.length_map]
  congr 1
  apply List.filter_congr
  intro p _
  simp only [Function.comp]
  rw [mag_neg, show -tot l - 2 * -p.2 = -(tot l - 2 * p.2) from by omega, mag_neg]
theorem exchOf_perm {l l' : List Int} (h : l.Perm l') (k : Nat) : exchOf l k = exchOf l' k := by
  have h1 := count_subs l fun p => p.1 == k
  have h2 := count_subs l' fun p => p.1 == k
  unfold exchOf
  rw [h1, h2]
  exact ((subs_perm h).filter _).length_eq
theorem exchN_perm {l l' : List Int} (h : l.Perm l') (k : Nat) (own : Int) : exchN l k own = exchN l' k own := by
  have h1 := count_subs l fun p => p.1 == k && decide (own ≤ diffOf l k p.2)
  have h2 := count_subs l' fun p => p.1 == k && decide (own ≤ diffOf l' k p.2)
  unfold exchN
  rw [h1, h2]
  have e : ∀ s, diffOf l k s = diffOf l' k s := fun s => by unfold diffOf; rw [tot_perm h, h.length_eq]
  simp only [e]
  exact ((subs_perm h).filter _).length_eq

theorem pick_zero (l : List Int) : pick l 0 = 0 := by
  induction l with
  | nil => rfl
  | cons x xs ih => simp [pick, ih]
theorem pick_append_one (a b : List Int) : pick (a ++ b) (2 ^ a.length - 1) = tot a := by
  induction a with
  | nil => simp [pick_zero, tot]
  | cons x xs ih =>
    have hp : 0 < 2 ^ xs.length := Nat.pow_pos (by omega)
    have h1 : (2 ^ (xs.length + 1) - 1) % 2 = 1 := by rw [Nat.pow_succ]; omega
    have h2 : (2 ^ (xs.length + 1) - 1) / 2 = 2 ^ xs.length - 1 := by rw [Nat.pow_succ]; omega
    simp only [List.cons_append, List.length_cons, pick, tot, h1, h2, ih, if_true]
theorem pick_all (a : List Int) : pick a (2 ^ a.length - 1) = tot a := by
  have := pick_append_one a []
  rwa [List.append_nil] at this
theorem ones_first (m : Nat) : ∀ k, k ≤ m → ones m (2 ^ k - 1) = k := by
  induction m with
  | zero => intro k hk; obtain rfl : k = 0 := by omega
            rfl
  | succ m ih =>
    intro k hk
    cases k with
    | zero => 
      have := ih 0 (by omega)
      simp only [ones]
      simpa using this
    | succ k =>
      have hp : 0 < 2 ^ k := Nat.pow_pos (by omega)
      have h1 : (2 ^ (k + 1) - 1) % 2 = 1 := by rw [Nat.pow_succ]; omega
      have h2 : (2 ^ (k + 1) - 1) / 2 = 2 ^ k - 1 := by rw [Nat.pow_succ]; omega
      simp only [ones, h1, h2, ih k (by omega)]
      omega
theorem exchOf_pos (l : List Int) (k : Nat) (h : k ≤ l.length) : 0 < exchOf l k := by
  unfold exchOf
  apply List.length_pos_of_mem (a := 2 ^ k - 1)
  rw [List.mem_filter]
  have hp : 0 < 2 ^ k := Nat.pow_pos (by omega)
  have hle : 2 ^ k ≤ 2 ^ l.length := Nat.pow_le_pow_right (by omega) h
  refine ⟨List.mem_range.2 (by omega), ?_⟩
  rw [ones_first _ _ h]; simp
theorem exch_le (l : List Int) (k : Nat) (own : Int) : exchN l k own ≤ exchOf l k ∧ exchOf l k ≤ 2 ^ l.length := by
  constructor
  · unfold exchN exchOf
    rw [← List.countP_eq_length_filter, ← List.countP_eq_length_filter]
    apply List.countP_mono_left
    intro c _ h
    simp at h ⊢
    exact h.1
  · unfold exchOf
    refine Nat.le_trans (List.length_filter_le _ _) (by simp)
theorem signsN_le (l : List Int) : signsN l ≤ 2 ^ l.length := by
  unfold signsN
  refine Nat.le_trans (List.length_filter_le _ _) (by simp)

theorem pick_snoc (a : List Int) (x : Int) : ∀ c, pick (a ++ [x]) c = pick a c + (if c / 2 ^ a.length % 2 = 1 then x else 0) := by
  induction a with
  | nil => intro c; simp [pick]
  | cons y ys ih =>
    intro c
    simp only [List.cons_append, pick, List.length_cons]
    have e : c / 2 / 2 ^ ys.length = c / 2 ^ (ys.length + 1) := by rw [Nat.div_div_eq_div_mul, Nat.pow_succ, Nat.mul_comm]
    rw [ih (c / 2), e, Int.add_assoc]
/-- a bound on the numbers of a sample -/
def Small (l : List Int) : Prop := l.length ≤ 12 ∧ ∀ x ∈ l, -1000000 ≤ x ∧ x ≤ 1000000
theorem pick_bd (l : List Int) (h : ∀ x ∈ l, -1000000 ≤ x ∧ x ≤ 1000000) : ∀ c, -1000000 * (l.length : Int) ≤ pick l c ∧ pick l c ≤ 1000000 * (l.length : Int) := by
  induction l with
  | nil => intro c; simp [pick]
  | cons x xs ih =>
    intro c
    have h1 := ih (fun y hy => h y (List.mem_cons_of_mem _ hy)) (c / 2)
    have h2 := h x (List.mem_cons_self ..)
    simp only [pick, List.length_cons]
    split <;> omega
theorem tot_bd (l : List Int) (h : ∀ x ∈ l, -1000000 ≤ x ∧ x ≤ 1000000) : -1000000 * (l.length : Int) ≤ tot l ∧ tot l ≤ 1000000 * (l.length : Int) := by
  have := pick_bd l h (2 ^ l.length - 1)
  rwa [pick_all] at this
end Go.Proofs.Ytofkakdiddfcaaa.Sam
