/- The masks of events: by contract in both programs. Conditions: none. -/
import Derived.Test.YthjgapjagfjamaaEvG
namespace Go.Proofs.Ythjgapjagfjamaa
open Go.RowKit
set_option linter.unusedVariables false

def moB (l : List EV.Ev) (n : Int) : Bool := EV.isEvs l && (decide (0 ≤ n) && decide (n ≤ 200))
def moL (l : List EV.Ev) (n : Int) : List Int := if moB l n then nats (EV.masksTo l n.toNat) else []
theorem mo_no {l : List EV.Ev} {n : Int} (h : moB l n = false) : moL l n = [] := by unfold moL; rw [h]; rfl
theorem mo_yes {l : List EV.Ev} {n : Int} (h : moB l n = true) : moL l n = nats (EV.masksTo l n.toNat) := by unfold moL; rw [h]; rfl
theorem masksTo_len (l : List EV.Ev) : ∀ n, (EV.masksTo l n).length = n
  | 0 => rfl
  | n + 1 => by rw [EV.masksTo, List.length_append, masksTo_len l n]; rfl
theorem nats_len (l : List Nat) : (nats l).length = l.length := by unfold nats; simp
def MadeI2 (w : World) (xs : List Int) (b : Bool) (e : Ending) (w' : World) : Prop :=
  ∃ (A : Option Addr) (cap : Nat), e = .returned (.tuple #[.slice A xs.length cap, .bool b]) ∧ Own w' w.heap.size A xs.length cap xs ∧ Below w.heap.size w w'
/-- An event of a right list: its numbers. -/
theorem ev_at {l : List EV.Ev} (h : EV.isEvs l = true) {a d : Nat} (ha : a < l.length) (hd : EV.fw l a = some d) :
    ∃ (t : Int) (K : Nat) (dn : Bool), l.getD a evD = ⟨t, (K : Int), dn⟩ ∧ K ≤ 31 ∧ 0 ≤ t ∧ t ≤ 1000000 ∧ EV.fw l (a + 1) = some (d ^^^ 2 ^ K) := by
  have hgd := good_at h ha hd
  have hst := fw_step hd
  rw [hgd, if_pos rfl] at hst
  have hg := good_eq l a d
  rw [hgd] at hg
  obtain ⟨ev, hev⟩ : ∃ ev, l.getD a evD = ev := ⟨_, rfl⟩
  rw [hev] at hg hst
  obtain ⟨t, k, dn⟩ := ev
  simp only at hg hst
  have hie : isEv t k = true := by revert hg; cases isEv t k <;> simp
  obtain ⟨hk0, hk1, ht0, ht1⟩ := isEv_out hie
  obtain ⟨K, rfl⟩ := Int.eq_ofNat_of_zero_le hk0
  rw [Int.toNat_natCast] at hst
  exact ⟨t, K, dn, hev, by omega, ht0, ht1, hst⟩
theorem mask_next (l : List EV.Ev) {i a d : Nat} (ha : a = EV.atTo l (i + 1)) (hd : EV.fw l a = some d) : EV.masksTo l (i + 1) = EV.masksTo l i ++ [d] := by
  have h1 := EV.fw_xo l a d (by rw [ha]; exact EV.atTo_le l _) hd
  rw [EV.masksTo, ← ha, ← h1]
set_option maxRecDepth 100000 in
set_option maxHeartbeats 1000000 in
theorem iMasksOf_any {w : World} {A : Option Addr} {n cap : Nat} {l : List EV.Ev} (h : RdE w A n l) (hmx : n ≤ maxLen) (m : Int) :
    Calls Try.prog 29 #[.slice A n cap, .int .i64 m] w (MadeI2 w (moL l m) (moB l m)) := by
  have hl := h.1
  have HE := hid (fun (W : World) (h : RdE W A n l) => iIsEvents_any (cap := cap) h hmx)
  unfold maxLen at hmx
  have HR := hid h; clear h
  have HL := hid hl; clear hl
  cases hev : EV.isEvs l
  · have hno : moB l m = false := by unfold moB; rw [hev]; rfl
    rw [mo_no hno, hno]
    rw [hev] at HE
    clear hev hno
    go_enter Try.func29, Try.ntmps29
    go_wp2_with (first | (go_at_call 17; (with_reducible refine (HE.out _ HR.out).mono ?_); rintro e w1 ⟨rfl, hb1⟩))
    go_ret2
    exact ⟨_, _, rfl, ⟨rfl, World.ownsRow_nil _ _ _ _⟩, hb1⟩
  · by_cases hm : 0 ≤ m ∧ m ≤ 200
    · have HEV := hid hev
      rw [hev] at HE
      have hyes : moB l m = true := by unfold moB; rw [hev, decide_eq_true hm.1, decide_eq_true hm.2]; rfl
      have HY := hid (And.intro (mo_yes hyes) hyes)
      clear hev hyes
      obtain ⟨N, rfl⟩ := Int.eq_ofNat_of_zero_le hm.1
      have hN : N ≤ 200 := by omega
      have HIN := hid (l1In_yes (N : Int) 0 200 hm)
      have hm0 : ¬ (N : Int) < 0 := by omega
      have hm1 : ¬ (200 : Int) < (N : Int) := by omega
      clear hm
      obtain ⟨i0, hi, hz0, hz1, hz2⟩ := info_parts int_info
      have HI0 := hid (And.intro hi (And.intro hz0 (And.intro hz1 hz2))); clear hi hz0 hz1 hz2
      go_enter Try.func29, Try.ntmps29
      go_wp2_with (first | (go_at_call 17; (with_reducible refine (HE.out _ HR.out).mono ?_); rintro e w1 ⟨rfl, hb1⟩))
      have HB1 := hid hb1
      have HO1 := hid (World.ownsRow_nil w1 w.heap.size 3 1)
      clear hb1
      go_loopw [6, 7, 8, 9, 22] (fun o q a0 _ i wr => ∃ (j d : Nat) (A' : Option Addr) (c' : Nat), j ≤ N ∧ i = .int .i64 j ∧ a0 = .int .i64 (EV.atTo l j : Nat) ∧ q = .int .i64 d ∧ EV.fw l (EV.atTo l j) = some d ∧ o = .slice A' j c' ∧
        wr.ownsRow w.heap.size 3 1 (.slice A' j c') j (ints (nats (EV.masksTo l j))) ∧ Below w.heap.size w wr) (fun _ _ _ _ i _ => N - (intOf i).toNat)
      case atStart => exact ⟨0, 0, _, _, Nat.zero_le _, rfl, rfl, rfl, rfl, rfl, HO1.out, HB1.out⟩
      case round =>
        clear HO1 HB1
        obtain ⟨j, d, A1, c1, hj, rfl, rfl, rfl, hfw, rfl, hown, hbel⟩ := hrel
        have HOwn := hid hown; clear hown
        by_cases hjN : j < N
        · have hjN2 : (j : Int) < (N : Int) := by omega
          have hat := EV.atTo_le l j
          rw [HL.out] at hat
          have hup : EV.upto l (j : Nat) (EV.atTo l j) = EV.atTo l (j + 1) := rfl
          obtain ⟨a, ha⟩ : ∃ a, EV.atTo l j = a := ⟨_, rfl⟩
          rw [ha] at hfw hat hup ⊢
          clear ha
          go_wp2
          obtain ⟨wo, rfl⟩ : ∃ wo : World, wo = wr := ⟨_, rfl⟩
          go_loopw [7, 8] (fun q a0 wr => ∃ a d : Nat, a ≤ n ∧ a0 = .int .i64 a ∧ q = .int .i64 d ∧ EV.fw l a = some d ∧ EV.upto l (j : Nat) a = EV.atTo l (j + 1) ∧ wo = wr) (fun _ a0 _ => n - (intOf a0).toNat)
          case atStart => exact ⟨a, d, hat, rfl, rfl, hfw, hup, rfl⟩
          case round =>
            clear hup hfw hat
            obtain ⟨a, d, han, rfl, rfl, hfw, hup, rfl⟩ := hrel
            have hd32 := EV.fw_lt l a d hfw
            have HF := hid hfw; clear hfw
            have HU := hid hup; clear hup
            by_cases haL : a < n
            · obtain ⟨ad, rfl, p0, p1, p2, hab⟩ := (HR.out.below hbel).at3 haL
              obtain ⟨t, K, dn, hev, hK, ht0, ht1, hst⟩ := ev_at HEV.out (by rw [HL.out]; exact haL) HF.out
              rw [hev] at p0 p1 p2
              have haL2 : (a : Int) < (n : Int) := by omega
              by_cases hti : t ≤ (j : Int)
              · have hum := EV.upto_more l (j : Nat) a (by rw [HL.out]; exact haL) (by show (l.getD a evD).time ≤ _; rw [hev]; exact hti)
                have HUM := hid (hum.symm.trans HU.out)
                have HST := hid hst
                have hxs := xor_shl d K (by omega) (by omega)
                clear hev hst hum
                go_wp2
                go_roundw
                case rel => exact ⟨a + 1, d ^^^ 2 ^ K, by omega, by go_num, rfl, HST.out, HUM.out, by first | rfl | trivial⟩
                case measure => simp [intOf]; omega
              · have hus := EV.upto_stop l (j : Nat) a (.inr ⟨by rw [HL.out]; exact haL, by show _ < (l.getD a evD).time; rw [hev]; simp only; omega⟩)
                have HMN := hid (mask_next l (hus.symm.trans HU.out) HF.out)
                have HUA := hid (hus.symm.trans HU.out)
                have hti2 : decide (t ≤ (j : Int)) = false := by simp; omega
                clear hev hst hus
                have h1 : ∀ u ∈ [Value.int .i64 (d : Nat)], u.oneCell' = true := by intro u hu; simp at hu; subst hu; rfl
                go_wp2_with (at_builtin; refine wpList_append_any _ rfl _ _ 37 rfl w.heap.size 3 i0 (.int .i64 0) 1 8 Try.underlying37 HI0.out.1 HI0.out.2.1 HI0.out.2.2.1 HI0.out.2.2.2 rfl (by decide) _ _ _ rfl (HOwn.out.alloc _) (wo.heap.size + 1) _ 1 1 [.int .i64 (d : Nat)] rfl (reads_new wo #[.int .i64 (d : Nat)] 3 rfl) h1 (by unfold maxLen; omega) (by omega) (by have := hbel.size; simp; omega) ?_; intro v' w2 hown1 hg1 hat1; obtain ⟨A', c', rfl⟩ := ownsRow_form hown1; have hb2 := below_app hbel HOwn.out (Nat.le_refl _) hg1; have HOw2 := hid hown1; clear hown1 hg1 hat1)
                go_roundw
                case rel =>
                  refine ⟨j + 1, d, A', c', by omega, by go_num, by rw [← HUA.out], rfl, by rw [← HUA.out]; exact HF.out, rfl, ?_, hb2⟩
                  rw [HMN.out, nats_append]; unfold ints; rw [List.map_append]; exact HOw2.out
                case measure => simp [intOf]; omega
            · obtain rfl : a = n := by omega
              have hus := EV.upto_stop l (j : Nat) a (.inl HL.out.symm)
              have HMN := hid (mask_next l (hus.symm.trans HU.out) HF.out)
              have HUA := hid (hus.symm.trans HU.out)
              clear hus
              have h1 : ∀ u ∈ [Value.int .i64 (d : Nat)], u.oneCell' = true := by intro u hu; simp at hu; subst hu; rfl
              go_wp2_with (at_builtin; refine wpList_append_any _ rfl _ _ 37 rfl w.heap.size 3 i0 (.int .i64 0) 1 8 Try.underlying37 HI0.out.1 HI0.out.2.1 HI0.out.2.2.1 HI0.out.2.2.2 rfl (by decide) _ _ _ rfl (HOwn.out.alloc _) (wo.heap.size + 1) _ 1 1 [.int .i64 (d : Nat)] rfl (reads_new wo #[.int .i64 (d : Nat)] 3 rfl) h1 (by unfold maxLen; omega) (by omega) (by have := hbel.size; simp; omega) ?_; intro v' w2 hown1 hg1 hat1; obtain ⟨A', c', rfl⟩ := ownsRow_form hown1; have hb2 := below_app hbel HOwn.out (Nat.le_refl _) hg1; have HOw2 := hid hown1; clear hown1 hg1 hat1)
              go_roundw
              case rel =>
                refine ⟨j + 1, d, A', c', by omega, by go_num, by rw [← HUA.out], rfl, by rw [← HUA.out]; exact HF.out, rfl, ?_, hb2⟩
                rw [HMN.out, nats_append]; unfold ints; rw [List.map_append]; exact HOw2.out
              case measure => simp [intOf]; omega
        · obtain rfl : j = N := by omega
          go_wp2
          go_ret2
          have hn2 : ((j : Int).toNat) = j := Int.toNat_natCast j
          rw [HY.out.1, HY.out.2, hn2]
          have hlm : (nats (EV.masksTo l j)).length = j := by rw [nats_len, masksTo_len]
          exact ⟨A1, c1, by rw [hlm]; rfl, ⟨rfl, by rw [hlm]; exact HOwn.out⟩, hbel⟩
    · have hno : moB l m = false := by
        unfold moB
        rw [hev]
        by_cases h0 : 0 ≤ m
        · rw [decide_eq_false (show ¬ m ≤ 200 from fun h => hm ⟨h0, h⟩)]; simp
        · rw [decide_eq_false h0]; simp
      rw [mo_no hno, hno]
      rw [hev] at HE
      have HIN := hid (l1In_no m 0 200 hm)
      clear hev hno
      by_cases h0 : m < 0
      all_goals
        try have h1 : (200 : Int) < m := by omega
        clear hm
        go_enter Try.func29, Try.ntmps29
        go_wp2_with (first | (go_at_call 17; (with_reducible refine (HE.out _ HR.out).mono ?_); rintro e w1 ⟨rfl, hb1⟩))
        go_ret2
        exact ⟨_, _, rfl, ⟨rfl, World.ownsRow_nil _ _ _ _⟩, hb1⟩
set_option maxRecDepth 100000 in
set_option maxHeartbeats 1000000 in
theorem sMasksOf_any {w : World} {A : Option Addr} {n cap : Nat} {l : List EV.Ev} (h : RdE w A n l) (hmx : n ≤ maxLen) (m : Int) :
    Calls Try.prog 28 #[.slice A n cap, .int .i64 m] w (MadeI2 w (moL l m) (moB l m)) := by
  have hl := h.1
  have HE := hid (fun (W : World) (h : RdE W A n l) => sIsEvents_any (cap := cap) h hmx)
  unfold maxLen at hmx
  have HR := hid h; clear h
  have HL := hid hl; clear hl
  cases hev : EV.isEvs l
  · have hno : moB l m = false := by unfold moB; rw [hev]; rfl
    rw [mo_no hno, hno]
    rw [hev] at HE
    clear hev hno
    go_enter Try.func28, Try.ntmps28
    go_wp2_with (first | (go_at_call 15; (with_reducible refine (HE.out _ (HR.out.alloc _)).mono ?_); rintro e w1 ⟨rfl, hb1⟩))
    go_ret2
    exact ⟨_, _, rfl, ⟨rfl, ownsRow_below (own_litG w 3 1) hb1⟩, Below.step ((Below.refl _ _).alloc (Nat.le_refl _) _) hb1⟩
  · by_cases hm : 0 ≤ m ∧ m ≤ 200
    · have HEV := hid hev
      rw [hev] at HE
      have hyes : moB l m = true := by unfold moB; rw [hev, decide_eq_true hm.1, decide_eq_true hm.2]; rfl
      have HY := hid (And.intro (mo_yes hyes) hyes)
      clear hev hyes
      obtain ⟨N, rfl⟩ := Int.eq_ofNat_of_zero_le hm.1
      have hN : N ≤ 200 := by omega
      have HIN := hid (l1In_yes (N : Int) 0 200 hm)
      have hm0 : ¬ (N : Int) < 0 := by omega
      have hm1 : ¬ (200 : Int) < (N : Int) := by omega
      clear hm
      obtain ⟨i0, hi, hz0, hz1, hz2⟩ := info_parts int_info
      have HI0 := hid (And.intro hi (And.intro hz0 (And.intro hz1 hz2))); clear hi hz0 hz1 hz2
      go_enter Try.func28, Try.ntmps28
      go_wp2_with (first | (go_at_call 15; (with_reducible refine (HE.out _ (HR.out.alloc _)).mono ?_); rintro e w1 ⟨rfl, hb1⟩) | (go_at_call 37; (with_reducible refine (HIN.out _).mono ?_); rintro e w' ⟨rfl, rfl⟩))
      have HB1 := hid (Below.step ((Below.refl w.heap.size w).alloc (Nat.le_refl _) _) hb1)
      have HO1 := hid (ownsRow_below (own_litG w 3 1) hb1)
      clear hb1
      go_loopw [6, 7, 8, 9] (fun o a0 q i wr => ∃ (j d : Nat) (A' : Option Addr) (c' : Nat), j ≤ N ∧ i = .int .i64 j ∧ a0 = .int .i64 (EV.atTo l j : Nat) ∧ q = .int .i64 d ∧ EV.fw l (EV.atTo l j) = some d ∧ o = .slice A' j c' ∧
        wr.ownsRow w.heap.size 3 1 (.slice A' j c') j (ints (nats (EV.masksTo l j))) ∧ Below w.heap.size w wr) (fun _ _ _ i _ => N - (intOf i).toNat)
      case atStart => exact ⟨0, 0, _, _, Nat.zero_le _, rfl, rfl, rfl, rfl, rfl, HO1.out, HB1.out⟩
      case round =>
        clear HO1 HB1
        obtain ⟨j, d, A1, c1, hj, rfl, rfl, rfl, hfw, rfl, hown, hbel⟩ := hrel
        have HOwn := hid hown; clear hown
        by_cases hjN : j < N
        · have hjN2 : (j : Int) < (N : Int) := by omega
          have hat := EV.atTo_le l j
          rw [HL.out] at hat
          have hup : EV.upto l (j : Nat) (EV.atTo l j) = EV.atTo l (j + 1) := rfl
          obtain ⟨a, ha⟩ : ∃ a, EV.atTo l j = a := ⟨_, rfl⟩
          rw [ha] at hfw hat hup ⊢
          clear ha
          go_wp2
          obtain ⟨wo, rfl⟩ : ∃ wo : World, wo = wr := ⟨_, rfl⟩
          go_loopw [7, 8] (fun a0 q wr => ∃ a d : Nat, a ≤ n ∧ a0 = .int .i64 a ∧ q = .int .i64 d ∧ EV.fw l a = some d ∧ EV.upto l (j : Nat) a = EV.atTo l (j + 1) ∧ wo = wr) (fun a0 _ _ => n - (intOf a0).toNat)
          case atStart => exact ⟨a, d, hat, rfl, rfl, hfw, hup, rfl⟩
          case round =>
            clear hup hfw hat
            obtain ⟨a, d, han, rfl, rfl, hfw, hup, rfl⟩ := hrel
            have hd32 := EV.fw_lt l a d hfw
            have HF := hid hfw; clear hfw
            have HU := hid hup; clear hup
            by_cases haL : a < n
            · obtain ⟨ad, rfl, p0, p1, p2, hab⟩ := (HR.out.below hbel).at3 haL
              obtain ⟨t, K, dn, hev, hK, ht0, ht1, hst⟩ := ev_at HEV.out (by rw [HL.out]; exact haL) HF.out
              rw [hev] at p0 p1 p2
              have haL2 : (a : Int) < (n : Int) := by omega
              by_cases hti : t ≤ (j : Int)
              · have hum := EV.upto_more l (j : Nat) a (by rw [HL.out]; exact haL) (by show (l.getD a evD).time ≤ _; rw [hev]; exact hti)
                have HUM := hid (hum.symm.trans HU.out)
                have HST := hid hst
                have hxs := xor_shl d K (by omega) (by omega)
                clear hev hst hum
                go_wp2
                go_roundw
                case rel => exact ⟨a + 1, d ^^^ 2 ^ K, by omega, by go_num, rfl, HST.out, HUM.out, by first | rfl | trivial⟩
                case measure => simp [intOf]; omega
              · have hus := EV.upto_stop l (j : Nat) a (.inr ⟨by rw [HL.out]; exact haL, by show _ < (l.getD a evD).time; rw [hev]; simp only; omega⟩)
                have HMN := hid (mask_next l (hus.symm.trans HU.out) HF.out)
                have HUA := hid (hus.symm.trans HU.out)
                have hti2 : decide (t ≤ (j : Int)) = false := by simp; omega
                clear hev hst hus
                have h1 : ∀ u ∈ [Value.int .i64 (d : Nat)], u.oneCell' = true := by intro u hu; simp at hu; subst hu; rfl
                go_wp2_with (at_builtin; refine wpList_append_any _ rfl _ _ 37 rfl w.heap.size 3 i0 (.int .i64 0) 1 8 Try.underlying37 HI0.out.1 HI0.out.2.1 HI0.out.2.2.1 HI0.out.2.2.2 rfl (by decide) _ _ _ rfl (HOwn.out.alloc _) (wo.heap.size + 1) _ 1 1 [.int .i64 (d : Nat)] rfl (reads_new wo #[.int .i64 (d : Nat)] 3 rfl) h1 (by unfold maxLen; omega) (by omega) (by have := hbel.size; simp; omega) ?_; intro v' w2 hown1 hg1 hat1; obtain ⟨A', c', rfl⟩ := ownsRow_form hown1; have hb2 := below_app hbel HOwn.out (Nat.le_refl _) hg1; have HOw2 := hid hown1; clear hown1 hg1 hat1)
                go_roundw
                case rel =>
                  refine ⟨j + 1, d, A', c', by omega, by go_num, by rw [← HUA.out], rfl, by rw [← HUA.out]; exact HF.out, rfl, ?_, hb2⟩
                  rw [HMN.out, nats_append]; unfold ints; rw [List.map_append]; exact HOw2.out
                case measure => simp [intOf]; omega
            · obtain rfl : a = n := by omega
              have hus := EV.upto_stop l (j : Nat) a (.inl HL.out.symm)
              have HMN := hid (mask_next l (hus.symm.trans HU.out) HF.out)
              have HUA := hid (hus.symm.trans HU.out)
              clear hus
              have h1 : ∀ u ∈ [Value.int .i64 (d : Nat)], u.oneCell' = true := by intro u hu; simp at hu; subst hu; rfl
              go_wp2_with (at_builtin; refine wpList_append_any _ rfl _ _ 37 rfl w.heap.size 3 i0 (.int .i64 0) 1 8 Try.underlying37 HI0.out.1 HI0.out.2.1 HI0.out.2.2.1 HI0.out.2.2.2 rfl (by decide) _ _ _ rfl (HOwn.out.alloc _) (wo.heap.size + 1) _ 1 1 [.int .i64 (d : Nat)] rfl (reads_new wo #[.int .i64 (d : Nat)] 3 rfl) h1 (by unfold maxLen; omega) (by omega) (by have := hbel.size; simp; omega) ?_; intro v' w2 hown1 hg1 hat1; obtain ⟨A', c', rfl⟩ := ownsRow_form hown1; have hb2 := below_app hbel HOwn.out (Nat.le_refl _) hg1; have HOw2 := hid hown1; clear hown1 hg1 hat1)
              go_roundw
              case rel =>
                refine ⟨j + 1, d, A', c', by omega, by go_num, by rw [← HUA.out], rfl, by rw [← HUA.out]; exact HF.out, rfl, ?_, hb2⟩
                rw [HMN.out, nats_append]; unfold ints; rw [List.map_append]; exact HOw2.out
              case measure => simp [intOf]; omega
        · obtain rfl : j = N := by omega
          go_wp2
          go_ret2
          have hn2 : ((j : Int).toNat) = j := Int.toNat_natCast j
          rw [HY.out.1, HY.out.2, hn2]
          have hlm : (nats (EV.masksTo l j)).length = j := by rw [nats_len, masksTo_len]
          exact ⟨A1, c1, by rw [hlm]; rfl, ⟨rfl, by rw [hlm]; exact HOwn.out⟩, hbel⟩
    · have hno : moB l m = false := by
        unfold moB
        rw [hev]
        by_cases h0 : 0 ≤ m
        · rw [decide_eq_false (show ¬ m ≤ 200 from fun h => hm ⟨h0, h⟩)]; simp
        · rw [decide_eq_false h0]; simp
      rw [mo_no hno, hno]
      rw [hev] at HE
      have HIN := hid (l1In_no m 0 200 hm)
      clear hev hno
      by_cases h0 : m < 0
      all_goals
        try have h1 : (200 : Int) < m := by omega
        clear hm
        go_enter Try.func28, Try.ntmps28
        go_wp2_with (first | (go_at_call 15; (with_reducible refine (HE.out _ (HR.out.alloc _)).mono ?_); rintro e w1 ⟨rfl, hb1⟩) | (go_at_call 37; (with_reducible refine (HIN.out _).mono ?_); rintro e w' ⟨rfl, rfl⟩))
        go_ret2
        exact ⟨_, _, rfl, ⟨rfl, ownsRow_below (own_litG w 3 1) hb1⟩, Below.step ((Below.refl _ _).alloc (Nat.le_refl _) _) hb1⟩
end Go.Proofs.Ythjgapjagfjamaa
