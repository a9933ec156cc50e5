/- The events between masks: by contract in both programs. Conditions: none. -/
import Derived.Test.YtpfocjdhjkifmaaDoorEvC
namespace Go.Proofs.YtpfocjdhjkifmaaDoor
open Go.RowKit
set_option linter.unusedVariables false

theorem OwnE.alloc {w : World} {base : Nat} {A : Option Addr} {n cap : Nat} {xs : List EV.Ev} (h : OwnE w base A n cap xs) (o : Obj) : OwnE (w.alloc o) base A n cap xs := ⟨h.1, h.2.alloc o⟩
theorem ownsRow_form3 {w : World} {base m size : Nat} {e : TypeId} {v : Value} {xs : List Value} (h : w.ownsRow base e size v m xs) : ∃ A cap, v = .slice A m cap := by
  rcases h.2 with ⟨h2, h3⟩ | ⟨g, cap, cur, rfl, _⟩
  · subst h3; exact ⟨none, 0, h2⟩
  · exact ⟨_, _, rfl⟩
theorem ev_one (e : EV.Ev) : ∀ u ∈ [Value.int .i64 e.time, .int .i64 e.key, .bool e.down], u.oneCell' = true := by
  intro u hu; simp at hu; rcases hu with rfl | rfl | rfl <;> rfl
theorem evCs_one (l : List EV.Ev) (e : EV.Ev) : evCs (l ++ [e]) = evCs l ++ [Value.int .i64 e.time, .int .i64 e.key, .bool e.down] := by rw [evCs_append]; rfl
theorem evB_succ (last mask : Nat) (t : Int) (k : Nat) : EV.evB last mask t (k + 1) = if last.testBit k = mask.testBit k then EV.evB last mask t k else EV.evB last mask t k ++ [⟨t, (k : Nat), mask.testBit k⟩] := rfl
set_option maxRecDepth 100000 in
set_option maxHeartbeats 1000000 in
theorem eventsBetween_any (last mask : Nat) (t : Int) (hl : last < 2 ^ 32) (hm : mask < 2 ^ 32) (w : World) :
    Calls Tryd.prog 63 #[.int .i64 last, .int .i64 mask, .int .i64 t] w (MadeE w (EV.evB last mask t 32)) := by
  obtain ⟨i0, hi, hz0, hz1, hz2⟩ := info_parts ev_info
  have HI0 := hid (And.intro hi (And.intro hz0 (And.intro hz1 hz2))); clear hi hz0 hz1 hz2
  have HB := hid (fun (d K : Nat) (hd : d < 2 ^ 32) (hK : K ≤ 31) => bit_any (d : Int) K (by unfold rng; omega) (by omega))
  go_enter Tryd.func63, Tryd.ntmps63
  go_wp2_with fail
  go_loopw [7, 8] (fun o i wr => ∃ (j : Nat) (A : Option Addr) (c : Nat), j ≤ 32 ∧ i = .int .i64 j ∧ o = .slice A (EV.evB last mask t j).length c ∧ wr.ownsRow w.heap.size 47 3 (.slice A (EV.evB last mask t j).length c) (EV.evB last mask t j).length (evCs (EV.evB last mask t j)) ∧ Below w.heap.size w wr) (fun _ i _ => 32 - (intOf i).toNat)
  case atStart => exact ⟨0, none, 0, Nat.zero_le _, rfl, rfl, World.ownsRow_nil _ _ _ _, Below.refl _ _⟩
  case round =>
    obtain ⟨j, A, c, hj, rfl, rfl, hown, hbel⟩ := hrel
    have hlen := EV.evB_length_le last mask t j
    have HOwn := hid hown; clear hown
    by_cases hlt : j < 32
    · have H1 := hid (HB.out last j hl (by omega))
      have H2 := hid (HB.out mask j hm (by omega))
      rw [tbI_nat] at H1 H2
      have hsu := evB_succ last mask t j
      obtain ⟨L, hL⟩ : ∃ L, EV.evB last mask t j = L := ⟨_, rfl⟩
      rw [hL] at hsu hlen HOwn ⊢
      have hlt2 : (j : Int) ≤ 31 := by omega
      cases ha : last.testBit j <;> cases hb : mask.testBit j
      all_goals
        rw [ha] at H1 hsu
        rw [hb] at H2 hsu
        simp only [b2i, if_true, Bool.false_eq_true, Bool.true_eq_false, if_false] at H1 H2 hsu
        have HSU := hid hsu
        clear ha hb hsu hL
      · go_wp2_with (first | (go_at_call 79; (with_reducible refine (H1.out _).mono ?_); rintro e w' ⟨rfl, rfl⟩) | (go_at_call 79; (with_reducible refine (H2.out _).mono ?_); rintro e w' ⟨rfl, rfl⟩))
        go_roundw
        case rel => exact ⟨j + 1, A, c, by omega, by go_num, by rw [HSU.out], by rw [HSU.out]; exact HOwn.out, hbel⟩
        case measure => simp [intOf]; omega
      · have h1 := ev_one ⟨t, (j : Nat), true⟩
        go_wp2_with (first | (go_at_call 79; (with_reducible refine (H1.out _).mono ?_); rintro e w' ⟨rfl, rfl⟩) | (go_at_call 79; (with_reducible refine (H2.out _).mono ?_); rintro e w' ⟨rfl, rfl⟩) | (at_builtin; refine wpList_append_any _ rfl _ _ 29 rfl w.heap.size 47 i0 (.agg #[.int .i64 0, .int .i64 0, .bool false]) 3 24 Tryd.underlying29 HI0.out.1 HI0.out.2.1 HI0.out.2.2.1 HI0.out.2.2.2 rfl (by decide) _ _ _ rfl (HOwn.out.alloc _) (wr.heap.size + 1) _ 1 1 [Value.int .i64 t, .int .i64 (j : Int), .bool true] rfl (reads_new wr #[Value.int .i64 t, .int .i64 (j : Int), .bool true] 47 rfl) h1 (by unfold maxLen; omega) (by omega) (by have := hbel.size; simp; omega) ?_; intro v' w2 hown1 hg1 hat1; obtain ⟨A', c', rfl⟩ := ownsRow_form3 hown1; have hb2 := below_app hbel HOwn.out (Nat.le_refl _) hg1; have HOw2 := hid hown1; clear hown1 hg1 hat1))
        go_roundw
        case rel => exact ⟨j + 1, A', c', by omega, by go_num, by rw [HSU.out, List.length_append]; rfl, by rw [HSU.out, evCs_one, List.length_append]; exact HOw2.out, hb2⟩
        case measure => simp [intOf]; omega
      · have h1 := ev_one ⟨t, (j : Nat), false⟩
        go_wp2_with (first | (go_at_call 79; (with_reducible refine (H1.out _).mono ?_); rintro e w' ⟨rfl, rfl⟩) | (go_at_call 79; (with_reducible refine (H2.out _).mono ?_); rintro e w' ⟨rfl, rfl⟩) | (at_builtin; refine wpList_append_any _ rfl _ _ 29 rfl w.heap.size 47 i0 (.agg #[.int .i64 0, .int .i64 0, .bool false]) 3 24 Tryd.underlying29 HI0.out.1 HI0.out.2.1 HI0.out.2.2.1 HI0.out.2.2.2 rfl (by decide) _ _ _ rfl (HOwn.out.alloc _) (wr.heap.size + 1) _ 1 1 [Value.int .i64 t, .int .i64 (j : Int), .bool false] rfl (reads_new wr #[Value.int .i64 t, .int .i64 (j : Int), .bool false] 47 rfl) h1 (by unfold maxLen; omega) (by omega) (by have := hbel.size; simp; omega) ?_; intro v' w2 hown1 hg1 hat1; obtain ⟨A', c', rfl⟩ := ownsRow_form3 hown1; have hb2 := below_app hbel HOwn.out (Nat.le_refl _) hg1; have HOw2 := hid hown1; clear hown1 hg1 hat1))
        go_roundw
        case rel => exact ⟨j + 1, A', c', by omega, by go_num, by rw [HSU.out, List.length_append]; rfl, by rw [HSU.out, evCs_one, List.length_append]; exact HOw2.out, hb2⟩
        case measure => simp [intOf]; omega
      · go_wp2_with (first | (go_at_call 79; (with_reducible refine (H1.out _).mono ?_); rintro e w' ⟨rfl, rfl⟩) | (go_at_call 79; (with_reducible refine (H2.out _).mono ?_); rintro e w' ⟨rfl, rfl⟩))
        go_roundw
        case rel => exact ⟨j + 1, A, c, by omega, by go_num, by rw [HSU.out], by rw [HSU.out]; exact HOwn.out, hbel⟩
        case measure => simp [intOf]; omega
    · obtain rfl : j = 32 := by omega
      go_wp2
      go_ret
      exact ⟨A, c, rfl, ⟨rfl, HOwn.out⟩, hbel⟩
end Go.Proofs.YtpfocjdhjkifmaaDoor
