/- Contracts of within, big, index, contains, outside and chosen of the package sampling, at small samples. -/
import Derived.Test.YtofkakdiddfcaaaPSamplingErrorsx1
import Derived.Test.YtofkakdiddfcaaaSamMath
import Derived.WalkSmall
namespace Go.Proofs.Ytofkakdiddfcaaa.Sam
open Go.RowKit Go.Proofs.YtofkakdiddfcaaaW.PrintWords Go.Proofs.YtofkakdiddfcaaaW.PrintLast Go.Proofs.YtofkakdiddfcaaaW.PrintMore Go.Proofs.Ytofkakdiddfcaaa.PSamplingErrors

/-- 'n lies from lo to hi' -/
def inB (n lo hi : Int) : Bool := decide (lo ≤ n) && decide (n ≤ hi)
theorem within_calls (n lo hi : Int) (w : World) : Calls Try.prog 71 #[.int .i64 n, .int .i64 lo, .int .i64 hi] w fun e w' => e = .returned (.bool (inB n lo hi)) ∧ w = w' := by
  unfold inB
  by_cases h : lo ≤ n
  · have hb : decide (lo ≤ n) = true := decide_eq_true h
    clear h
    go_enter Try.func71, Try.ntmps71
    go_wp2
    go_ret
    exact ⟨by simp [*], rfl⟩
  · have hb : decide (lo ≤ n) = false := decide_eq_false h
    clear h
    go_enter Try.func71, Try.ntmps71
    go_wp2
    go_ret
    exact ⟨by simp [*], rfl⟩
def big (n : Int) : Bool := !inB n (-1000000) 1000000
theorem big_calls (n : Int) (w : World) : Calls Try.prog 70 #[.int .i64 n] w fun e w' => e = .returned (.bool (big n)) ∧ w = w' := by
  go_enter Try.func70, Try.ntmps70
  go_wp2_with (go_at_call 71; refine (within_calls _ _ _ _).mono ?_; rintro e w' ⟨rfl, rfl⟩)
  go_ret
  exact ⟨rfl, rfl⟩

theorem rd_lt (l : List Int) (k : Nat) (h : k < l.length) : rd l k = l[k] := by
  simp [rd, List.getD_eq_getElem?_getD, List.getElem?_eq_getElem h]
theorem any_take_succ (l : List Int) (p : Int → Bool) (k : Nat) (h : k < l.length) : (l.take (k + 1)).any p = ((l.take k).any p || p (rd l k)) := by
  rw [List.take_succ_eq_append_getElem h, List.any_append, rd_lt l k h]
  simp
theorem any_of_take (l : List Int) (p : Int → Bool) (k : Nat) (h : k < l.length) (hp : p (rd l k) = true) : l.any p = true := by
  rw [List.any_eq_true]
  exact ⟨l[k], List.getElem_mem _, by rw [← rd_lt l k h]; exact hp⟩

/-- slices.IndexFunc at the predicate of 'outside': at least 0 just where some number is too great -/
theorem index_calls (A : Option Addr) (c : Nat) (l : List Int) (w : World) (hr : Kd.C (Kd.int .i64) w A l.length l) :
    Calls Try.prog 88 #[.slice A l.length c, .func (.func 70) #[] #[]] w fun e w' => ∃ n : Int, e = .returned (.int .i64 n) ∧ decide (0 ≤ n) = l.any big ∧ w = w' := by
  have HR := Aside0.mk hr
  clear hr
  have HM : l.length ≤ 9223372036854775807 := by
    rcases Nat.eq_zero_or_pos l.length with h0 | h0
    · omega
    · exact (HR.out.2.1 : _)
  go_enter Try.func88, Try.ntmps88
  go_wp2
  go_loop [5, 8] (fun _ i => ∃ k : Nat, k ≤ l.length ∧ i = .int .i64 k ∧ Aside0 ((l.take k).any big = false)) (fun _ i => l.length - (intOf i).toNat)
  case atStart => exact ⟨0, Nat.zero_le _, rfl, ⟨rfl⟩⟩
  case round =>
    obtain ⟨k, hk, rfl, HA⟩ := hrel
    by_cases hlt : k < l.length
    · obtain ⟨ad, e1, hcell⟩ := Kd.at_int HR.out (k : Int) (by omega) (by omega)
      cases e1
      rw [Int.toNat_natCast] at hcell
      have hlt' : (k : Int) < (l.length : Int) := by omega
      cases hq : big (rd l k) with
      | true =>
        have HQ := Aside0.mk hq
        clear hq
        go_wp2_with (go_at_call 70; refine (big_calls _ _).mono ?_; rw [HQ.out]; rintro e w' ⟨rfl, rfl⟩)
        go_ret
        exact ⟨_, rfl, by rw [any_of_take l big k hlt HQ.out]; simp, rfl⟩
      | false =>
        have HQ := Aside0.mk hq
        clear hq
        go_wp2_with (go_at_call 70; refine (big_calls _ _).mono ?_; rw [HQ.out]; rintro e w' ⟨rfl, rfl⟩)
        go_round
        case rel => exact ⟨k + 1, by omega, by go_num, ⟨by rw [any_take_succ l big k hlt, HA.out, HQ.out]; rfl⟩⟩
        case measure => simp [intOf]; omega
    · have hge : ¬ (k : Int) < (l.length : Int) := by omega
      go_wp2
      go_ret
      refine ⟨_, rfl, ?_, rfl⟩
      have hk' : k = l.length := by omega
      have := HA.out
      rw [hk', List.take_length] at this
      rw [this]; rfl

theorem contains_calls (A : Option Addr) (c : Nat) (l : List Int) (w : World) (hr : Kd.C (Kd.int .i64) w A l.length l) :
    Calls Try.prog 69 #[.slice A l.length c, .func (.func 70) #[] #[]] w fun e w' => e = .returned (.bool (l.any big)) ∧ w = w' := by
  go_enter Try.func69, Try.ntmps69
  go_wp2_with (go_at_call 88; refine (index_calls A c l _ hr).mono ?_; rintro e w' ⟨n, rfl, hn, rfl⟩)
  go_ret
  exact ⟨rfl, rfl⟩
theorem outside_calls (A : Option Addr) (c : Nat) (l : List Int) (w : World) (hr : Kd.C (Kd.int .i64) w A l.length l) :
    Calls Try.prog 30 #[.slice A l.length c] w fun e w' => e = .returned (.bool (l.any big)) ∧ w = w' := by
  go_enter Try.func30, Try.ntmps30
  go_wp2_with (go_at_call 69; refine (contains_calls A c l _ hr).mono ?_; rintro e w' ⟨rfl, rfl⟩)
  go_ret
  exact ⟨rfl, rfl⟩

theorem ret_int {k : IntKind} {a b : Int} (h : a = b) : Ending.returned (.int k a) = .returned (.int k b) := by rw [h]
theorem bit_int (c k : Nat) (hc : c < 18446744073709551616) : Go.bits .and .u64 ((c : Int) / 2 ^ k) 1 = ((c / 2 ^ k % 2 : Nat) : Int) := by
  have e : (c : Int) / 2 ^ k = ((c / 2 ^ k : Nat) : Int) := by rw [Int.natCast_ediv, Int.natCast_pow]; rfl
  have hle : c / 2 ^ k ≤ c := Nat.div_le_self _ _
  rw [e]
  generalize c / 2 ^ k = q at hle
  rw [and_one_u64 _ (by omega) (by omega)]
  omega
theorem pick_take_succ (l : List Int) (k c : Nat) (h : k < l.length) : pick (l.take (k + 1)) c = pick (l.take k) c + (if c / 2 ^ k % 2 = 1 then rd l k else 0) := by
  rw [List.take_succ_eq_append_getElem h, pick_snoc, rd_lt l k h, List.length_take, Nat.min_eq_left (by omega)]
theorem small_take {l : List Int} (h : Small l) (k : Nat) : -12000000 ≤ tot (l.take k) ∧ tot (l.take k) ≤ 12000000 := by
  have := tot_bd (l.take k) (fun x hx => h.2 x (List.mem_of_mem_take hx))
  have hl := h.1
  have : (l.take k).length ≤ l.length := List.length_take_le' ..
  omega
theorem small_pick {l : List Int} (h : Small l) (k c : Nat) : -12000000 ≤ pick (l.take k) c ∧ pick (l.take k) c ≤ 12000000 := by
  have := pick_bd (l.take k) (fun x hx => h.2 x (List.mem_of_mem_take hx)) c
  have hl := h.1
  have : (l.take k).length ≤ l.length := List.length_take_le' ..
  omega
theorem small_rd {l : List Int} (h : Small l) (k : Nat) (hk : k < l.length) : -1000000 ≤ rd l k ∧ rd l k ≤ 1000000 := by
  rw [rd_lt l k hk]; exact h.2 _ (List.getElem_mem _)

set_option maxHeartbeats 1000000 in
theorem chosen_calls (A : Option Addr) (cc : Nat) (l : List Int) (c : Nat) (w : World) (hr : Kd.C (Kd.int .i64) w A l.length l) (hs : Small l) (hcb : c < 18446744073709551616) :
    Calls Try.prog 31 #[.slice A l.length cc, .int .u64 (c : Int)] w fun e w' => e = .returned (.int .i64 (pick l c)) ∧ w = w' := by
  have HR := Aside0.mk hr
  have HS := Aside0.mk hs
  have HL := hs.1
  clear hr hs
  go_enter Try.func31, Try.ntmps31
  go_wp2
  go_loop [5, 10] (fun s i => ∃ k : Nat, k ≤ l.length ∧ i = .int .i64 k ∧ s = .int .i64 (pick (l.take k) c)) (fun _ i => l.length - (intOf i).toNat)
  case atStart => exact ⟨0, Nat.zero_le _, rfl, rfl⟩
  case round =>
    obtain ⟨k, hk, rfl, rfl⟩ := hrel
    by_cases hlt : k < l.length
    · obtain ⟨ad, e1, hcell⟩ := Kd.at_int HR.out (k : Int) (by omega) (by omega)
      cases e1
      rw [Int.toNat_natCast] at hcell
      have hb := bit_int c k hcb
      obtain ⟨p1, p2⟩ := small_pick HS.out k c
      obtain ⟨p3, p4⟩ := small_rd HS.out k hlt
      have HT := Aside0.mk (pick_take_succ l k c hlt)
      have hlt' : (k : Int) < (l.length : Int) := by omega
      by_cases hbit : c / 2 ^ k % 2 = 1
      · have hb2 : ((c / 2 ^ k % 2 : Nat) : Int) = 1 := by omega
        rw [hb2] at hb
        have HBIT := Aside0.mk hbit
        have hbT : (Go.bits .and .u64 ((c : Int) / 2 ^ k) 1 == 1) = true := by rw [hb]; rfl
        clear hbit hb2 hb
        go_wp2
        go_round
        case rel => exact ⟨k + 1, by omega, by go_num, by rw [HT.out, if_pos HBIT.out]⟩
        case measure => simp [intOf]; omega
      · have hb2 : ((c / 2 ^ k % 2 : Nat) : Int) = 0 := by omega
        rw [hb2] at hb
        have HBIT := Aside0.mk hbit
        have hbT : (Go.bits .and .u64 ((c : Int) / 2 ^ k) 1 == 1) = false := by rw [hb]; rfl
        clear hbit hb2 hb
        go_wp2
        go_round
        case rel => exact ⟨k + 1, by omega, by go_num, by rw [HT.out, if_neg HBIT.out]; go_num⟩
        case measure => simp [intOf]; omega
    · have hge : ¬ (k : Int) < (l.length : Int) := by omega
      go_wp2
      go_ret
      have hk' : k = l.length := by omega
      exact ⟨ret_int (by rw [hk', List.take_length]), rfl⟩
end Go.Proofs.Ytofkakdiddfcaaa.Sam
