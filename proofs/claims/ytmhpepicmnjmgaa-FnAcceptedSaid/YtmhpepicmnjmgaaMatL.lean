/- The walks of the laws on accepting and on certain keys. Conditions: none. -/
import Derived.Test.YtmhpepicmnjmgaaMatK
namespace Go.Proofs.Ytmhpepicmnjmgaa
open Go.RowKit
set_option linter.unusedVariables false

theorem acc_math {R C k a b : Nat} {d : Bool} (h : Mx R C k) (ha : a < 2 ^ k) (hb : b < 2 ^ k) :
    let X := MM.rd d R C b; let c := MM.clr d R C X k; let V := X &&& (a ||| c)
    MM.Bits (MM.anot V a) b ∧ MM.Bits V X ∧ MM.Bits (a &&& X) V ∧ (c = X → V = X ∧ X = b) := by
  intro X c V
  have hb' : b < 2 ^ (R * C) := by rw [← h.k]; exact hb
  have hcp : MM.Bits c b := MM.clr_pressed h.r4 h.c1 hb'
  have hvb : ∀ i, V.testBit i = (X.testBit i && (a.testBit i || c.testBit i)) := fun i => by
    show (X &&& (a ||| c)).testBit i = _
    rw [Nat.testBit_and, Nat.testBit_or]
  refine ⟨fun i hi => ?_, fun i hi => ?_, fun i hi => ?_, fun e => ?_⟩
  · rw [MM.anot_bit, hvb] at hi
    apply hcp i
    revert hi
    cases X.testBit i <;> cases a.testBit i <;> cases c.testBit i <;> simp
  · rw [hvb] at hi
    revert hi
    cases X.testBit i <;> simp
  · rw [Nat.testBit_and] at hi
    rw [hvb]
    revert hi
    cases X.testBit i <;> cases a.testBit i <;> simp
  · have h1 : X = b := MM.bits_eq (e ▸ hcp) (MM.rd_ext h.c1 hb')
    refine ⟨MM.bits_eq (fun i hi => ?_) (fun i hi => ?_), h1⟩
    · rw [hvb] at hi
      revert hi
      cases X.testBit i <;> simp
    · rw [hvb, e, hi]; simp

theorem and_nat {k a b : Nat} (hk : k ≤ 24) (ha : a < 2 ^ k) (hb : b < 2 ^ k) : bits .and .i64 (a : Int) (b : Int) = ((a &&& b : Nat) : Int) := by
  have h3 : 2 ^ k ≤ 2 ^ 24 := Nat.pow_le_pow_right (by omega) hk
  have h4 : (2 : Nat) ^ 24 = 16777216 := by decide
  exact i64_and_nat _ _ (by omega) (by omega)
set_option maxHeartbeats 1000000 in
theorem walk_FnAccepted (A : Option Addr) (n cap : Nat) (zs : List Int) (w : World) (hin : InBytes w A n zs) : Calls Try.prog 14 #[.slice A n cap] w fun e w' => e = .returned (.bool true) ∧ Below w.heap.size w w' := by
  by_cases hbig : 1048576 < n
  · have HB := hid (big_yes (A := A) (cap := cap) hbig)
    clear hin hbig
    go_enter Try.func14, Try.ntmps14
    go_wp2_with (go_at_call 22; (with_reducible refine (HB.out _).mono ?_); rintro e w' ⟨rfl, rfl⟩)
    go_ret
    exact ⟨rfl, by (first | (go_grown; done) | (refine below_drewN ?_ _; go_grown; done) | (refine Below.drew (below_drewN ?_ _); go_grown; done))⟩
  · have HB := hid (big_no (A := A) (cap := cap) hbig)
    have HC := hid (hin.code (by omega))
    clear hin hbig
    go_enter Try.func14, Try.ntmps14
    go_wp2_with (go_at_call 22; (with_reducible refine (HB.out _).mono ?_); rintro e w' ⟨rfl, rfl⟩)
    refine (MakeMatrix_any HC.out).mono ?_
    rintro e w1 ⟨R, C, k, a, b, d, hm, ha, hb, hab, rfl, hb1⟩
    have k24 := hm.k24
    have hX := rd24 hm hb d
    have hXX := MM.rd_rd (D := d) (x := b) hm.r4 hm.c1 (by rw [← hm.k]; exact hb)
    have hcl : MM.clr d R C (MM.rd d R C b) k < 2 ^ k := MM.clr_lt hX k (Nat.le_refl _)
    obtain ⟨g1, g2, g3, g4⟩ := acc_math (d := d) hm ha hb
    have hV : MM.rd d R C b &&& (a ||| MM.clr d R C (MM.rd d R C b) k) < 2 ^ k := Nat.lt_of_le_of_lt Nat.and_le_left hX
    have C1 := hid (fun w => iReadMatrix_at (d := d) hm hb w)
    have C2 := hid (fun w => iAcceptReading_at (d := d) hm hX hXX w ha)
    have C3 := hid (fun w => iClearKeys_at (d := d) hm hX hXX w)
    have hax : a &&& MM.rd d R C b < 2 ^ k := Nat.lt_of_le_of_lt Nat.and_le_left ha
    have f1 := anot_nat k24.1 hV ha
    have f2 := anot_none k24.1 (MM.anot_lt hV) hb g1
    have f3 := anot_none k24.1 hV hX g2
    have f4 := and_nat k24.1 ha hX
    have f5 := anot_none k24.1 hax hV g3
    clear HC ha hb hm hX hXX hab hcl hV hax g1 g2 g3
    generalize MM.rd d R C b &&& (a ||| MM.clr d R C (MM.rd d R C b) k) = V at *
    generalize MM.clr d R C (MM.rd d R C b) k = c at *
    generalize MM.rd d R C b = X at *
    generalize MM.anot V a = U at *
    generalize a &&& X = aX at *
    by_cases hcx : c = X
    · obtain ⟨h1, h2⟩ := g4 hcx
      subst h1; subst h2; subst hcx
      go_wp2_with fail
      have hbox := BoxM.new w1 R C d 25
      have hB0 : Below w.heap.size w (w1.alloc (.cells #[.int .i64 R, .int .i64 C, .bool d] 25)) := hb1.alloc hb1.size _
      generalize w1.alloc (.cells #[.int .i64 R, .int .i64 C, .bool d] 25) = W0 at *
      have HX := hid hbox
      obtain ⟨m0, m1, m2⟩ := hbox
      go_wp2_with (first | (go_at_call 24; (with_reducible refine (C1.out _).mono ?_); rintro e w2 ⟨rfl, hb2⟩; replace hb2 : Below W0.heap.size W0 w2 := Below.step (by first | assumption | exact Below.refl _ _) hb2; obtain ⟨ma2, mb2, mc2⟩ := HX.out.below hb2) | (go_at_call 36; (with_reducible refine (C2.out _).mono ?_); rintro e w3 ⟨rfl, hb3⟩; replace hb3 : Below W0.heap.size W0 w3 := Below.step (by first | assumption | exact Below.refl _ _) hb3; obtain ⟨ma3, mb3, mc3⟩ := HX.out.below hb3) | (go_at_call 25; (with_reducible refine (C3.out _).mono ?_); rintro e w4 ⟨rfl, hb4⟩; replace hb4 : Below W0.heap.size W0 w4 := Below.step (by first | assumption | exact Below.refl _ _) hb4; obtain ⟨ma4, mb4, mc4⟩ := HX.out.below hb4))
      go_ret
      exact ⟨ret_bool (by simp), Below.via hB0 hb4 hB0.size⟩
    · have e5 : ((c : Int) != (X : Int)) = true := by simp; omega
      clear hcx g4
      go_wp2_with fail
      have hbox := BoxM.new w1 R C d 25
      have hB0 : Below w.heap.size w (w1.alloc (.cells #[.int .i64 R, .int .i64 C, .bool d] 25)) := hb1.alloc hb1.size _
      generalize w1.alloc (.cells #[.int .i64 R, .int .i64 C, .bool d] 25) = W0 at *
      have HX := hid hbox
      obtain ⟨m0, m1, m2⟩ := hbox
      go_wp2_with (first | (go_at_call 24; (with_reducible refine (C1.out _).mono ?_); rintro e w2 ⟨rfl, hb2⟩; replace hb2 : Below W0.heap.size W0 w2 := Below.step (by first | assumption | exact Below.refl _ _) hb2; obtain ⟨ma2, mb2, mc2⟩ := HX.out.below hb2) | (go_at_call 36; (with_reducible refine (C2.out _).mono ?_); rintro e w3 ⟨rfl, hb3⟩; replace hb3 : Below W0.heap.size W0 w3 := Below.step (by first | assumption | exact Below.refl _ _) hb3; obtain ⟨ma3, mb3, mc3⟩ := HX.out.below hb3) | (go_at_call 25; (with_reducible refine (C3.out _).mono ?_); rintro e w4 ⟨rfl, hb4⟩; replace hb4 : Below W0.heap.size W0 w4 := Below.step (by first | assumption | exact Below.refl _ _) hb4; obtain ⟨ma4, mb4, mc4⟩ := HX.out.below hb4))
      go_ret
      exact ⟨ret_bool (by simp), Below.via hB0 hb4 hB0.size⟩

theorem alt_rest {R C k X j : Nat} {d : Bool} (h : Mx R C k) (hX : X < 2 ^ k) (hj : j < k) : bits .and .i64 (((MM.anot X (2 ^ j) : Nat) : Int) / 2 ^ j) 1 = 0 := by
  have hl := x24 h (MM.anot_lt (b := 2 ^ j) hX)
  rw [and_one_shr _ _ ⟨by omega, by omega⟩, tbI_nat, MM.anot_key]; simp
theorem clr_at {R C k X j : Nat} (d : Bool) (h : Mx R C k) (hX : X < 2 ^ k) (hj : j < k) : bits .and .i64 (((MM.clr d R C X k : Nat) : Int) / 2 ^ j) 1 = if X.testBit j && !MM.alt d R C X j then 1 else 0 := by
  have hl := x24 h (MM.clr_lt (D := d) (R := R) (C := C) hX k (Nat.le_refl _))
  rw [and_one_shr _ _ ⟨by omega, by omega⟩, tbI_nat, MM.clr_bit]; simp [hj]
theorem alt_is {R C X j : Nat} {d : Bool} (ha : MM.alt d R C X j = true) : MM.rd d R C (MM.anot X (2 ^ j)) = X := by
  unfold MM.alt at ha; simp at ha; exact ha.2

theorem iReadMatrix_zero {R C k : Nat} (h : Mx R C k) (d : Bool) (w : World) : Calls Try.prog 24 #[.agg #[.int .i64 R, .int .i64 C, .bool d], .int .i64 0] w fun e w' => e = .returned (.tuple #[.int .i64 (MM.rd d R C 0 : Nat), .bool true]) ∧ Below w.heap.size w w' :=
  iReadMatrix_at (d := d) h (X := 0) (Nat.two_pow_pos k) w
set_option maxHeartbeats 2000000 in
theorem walk_FnClear (A : Option Addr) (n cap : Nat) (zs : List Int) (w : World) (hin : InBytes w A n zs) : Calls Try.prog 6 #[.slice A n cap] w fun e w' => e = .returned (.bool true) ∧ Below w.heap.size w w' := by
  by_cases hbig : 1048576 < n
  · have HB := hid (big_yes (A := A) (cap := cap) hbig)
    clear hin hbig
    go_enter Try.func6, Try.ntmps6
    go_wp2_with (go_at_call 22; (with_reducible refine (HB.out _).mono ?_); rintro e w' ⟨rfl, rfl⟩)
    go_ret
    exact ⟨rfl, by (first | (go_grown; done) | (refine below_drewN ?_ _; go_grown; done) | (refine Below.drew (below_drewN ?_ _); go_grown; done))⟩
  · have HB := hid (big_no (A := A) (cap := cap) hbig)
    have HC := hid (hin.code (by omega))
    clear hin hbig
    go_enter Try.func6, Try.ntmps6
    go_wp2_with (go_at_call 22; (with_reducible refine (HB.out _).mono ?_); rintro e w' ⟨rfl, rfl⟩)
    refine (MakeMatrix_any HC.out).mono ?_
    rintro e w1 ⟨R, C, k, a, b, d, hm, ha, hb, hab, rfl, hb1⟩
    have k24 := hm.k24
    have ha' : a < 2 ^ (R * C) := by rw [← hm.k]; exact ha
    have hX := rd24 hm ha d
    have hXX := MM.rd_rd (D := d) (x := a) hm.r4 hm.c1 ha'
    have hcl : MM.clr d R C (MM.rd d R C a) k < 2 ^ k := MM.clr_lt hX k (Nat.le_refl _)
    have C1 := hid (fun w => iReadMatrix_at (d := d) hm ha w)
    have C2 := hid (fun w => iClearKeys_at (d := d) hm hX hXX w)
    have C3 := hid (fun w => iKeyCount_yes hm d w)
    have f1 := anot_none k24.1 hcl ha (MM.clr_pressed (D := d) hm.r4 hm.c1 ha')
    have f2 := anot_none k24.1 hcl hX MM.clr_sub
    clear HC hb hab hcl ha' ha
    generalize MM.rd d R C a = X at *
    have Hm := hid hm; clear hm
    have HX' := hid hX; clear hX
    have HR := hid hXX; clear hXX
    go_wp2_with fail
    have hbox := BoxM.new w1 R C d 25
    have hB0 : Below w.heap.size w (w1.alloc (.cells #[.int .i64 R, .int .i64 C, .bool d] 25)) := hb1.alloc hb1.size _
    generalize w1.alloc (.cells #[.int .i64 R, .int .i64 C, .bool d] 25) = W0 at *
    have HX := hid hbox
    obtain ⟨m0, m1, m2⟩ := hbox
    go_wp2_with (first | (go_at_call 24; (with_reducible refine (C1.out _).mono ?_); rintro e w2 ⟨rfl, hb2⟩; replace hb2 : Below W0.heap.size W0 w2 := Below.step (by first | assumption | exact Below.refl _ _) hb2; obtain ⟨ma2, mb2, mc2⟩ := HX.out.below hb2) | (go_at_call 25; (with_reducible refine (C2.out _).mono ?_); rintro e w3 ⟨rfl, hb3⟩; replace hb3 : Below W0.heap.size W0 w3 := Below.step (by first | assumption | exact Below.refl _ _) hb3; obtain ⟨ma3, mb3, mc3⟩ := HX.out.below hb3))
    clear f1 f2 m0 m1 m2 ma2 mb2 mc2 hb2
    go_loopw [9] (fun i wr => ∃ j : Nat, j ≤ k ∧ i = .int .i64 j ∧ Below W0.heap.size W0 wr) (fun i _ => k - (intOf i).toNat)
    case atStart => exact ⟨0, Nat.zero_le _, rfl, hb3⟩
    case round =>
      clear ma3 mb3 mc3 hb3
      obtain ⟨j, hj, rfl, hbr⟩ := hrel
      obtain ⟨n0, n1, n2⟩ := HX.out.below hbr
      by_cases hjk : j < k
      · obtain ⟨e1, _, e3, e4⟩ := key_facts (d := d) Hm.out HX'.out hjk
        have e5 := clr_at d Hm.out HX'.out hjk
        have Ca := iAlt_at Hm.out HX'.out HR.out hjk
        cases hbit : X.testBit j with
        | false =>
          have hal : MM.alt d R C X j = false := by unfold MM.alt; rw [hbit]; rfl
          rw [hal, alt_no (by rw [alt_mx Hm.out HX'.out HR.out hjk]; exact hal)] at Ca
          rw [hbit] at e1 e5
          simp only [Bool.false_and, Bool.false_eq_true, if_false] at e1 e5
          have Ca := hid Ca
          have Cr := hid (iReadMatrix_zero Hm.out d)
          clear hal hbit e3 e4
          generalize MM.clr d R C X k = c at *
          generalize MM.rd d R C 0 = z at *
          go_wp2_with (first | (go_at_call 19; (with_reducible refine (C3.out _).mono ?_); rintro e w4 ⟨rfl, hb4⟩; replace hb4 : Below W0.heap.size W0 w4 := Below.step (by first | assumption | exact Below.refl _ _) hb4; obtain ⟨ma4, mb4, mc4⟩ := HX.out.below hb4) | (go_at_call 26; (with_reducible refine (Ca.out _).mono ?_); rintro e w5 ⟨rfl, hb5⟩; replace hb5 : Below W0.heap.size W0 w5 := Below.step (by first | assumption | exact Below.refl _ _) hb5; obtain ⟨ma5, mb5, mc5⟩ := HX.out.below hb5) | (go_at_call 24; (with_reducible refine (Cr.out _).mono ?_); rintro e w6 ⟨rfl, hb6⟩; replace hb6 : Below W0.heap.size W0 w6 := Below.step (by first | assumption | exact Below.refl _ _) hb6; obtain ⟨ma6, mb6, mc6⟩ := HX.out.below hb6))
          go_roundw
          case rel => exact ⟨j + 1, by omega, by go_num, by assumption⟩
          case measure => simp [intOf]; omega
        | true =>
          cases hal : MM.alt d R C X j with
          | false =>
            rw [hal, alt_no (by rw [alt_mx Hm.out HX'.out HR.out hjk]; exact hal)] at Ca
            rw [hbit] at e1 e5
            rw [hal] at e5
            simp only [Bool.true_and, Bool.not_false, if_true] at e1 e5
            have Ca := hid Ca
            have Cr := hid (iReadMatrix_zero Hm.out d)
            clear hal hbit e3 e4
            generalize MM.clr d R C X k = c at *
            generalize MM.rd d R C 0 = z at *
            go_wp2_with (first | (go_at_call 19; (with_reducible refine (C3.out _).mono ?_); rintro e w4 ⟨rfl, hb4⟩; replace hb4 : Below W0.heap.size W0 w4 := Below.step (by first | assumption | exact Below.refl _ _) hb4; obtain ⟨ma4, mb4, mc4⟩ := HX.out.below hb4) | (go_at_call 26; (with_reducible refine (Ca.out _).mono ?_); rintro e w5 ⟨rfl, hb5⟩; replace hb5 : Below W0.heap.size W0 w5 := Below.step (by first | assumption | exact Below.refl _ _) hb5; obtain ⟨ma5, mb5, mc5⟩ := HX.out.below hb5) | (go_at_call 24; (with_reducible refine (Cr.out _).mono ?_); rintro e w6 ⟨rfl, hb6⟩; replace hb6 : Below W0.heap.size W0 w6 := Below.step (by first | assumption | exact Below.refl _ _) hb6; obtain ⟨ma6, mb6, mc6⟩ := HX.out.below hb6))
            go_roundw
            case rel => exact ⟨j + 1, by omega, by go_num, by assumption⟩
            case measure => simp [intOf]; omega
          | true =>
            rw [hal, altV_mx Hm.out HX'.out HR.out hjk hal] at Ca
            rw [hbit] at e1 e5
            rw [hal] at e5
            simp only [Bool.true_and, Bool.not_true, Bool.false_eq_true, if_false, if_true] at e1 e5
            have Cr := fun w => iReadMatrix_at (d := d) Hm.out e3 w
            rw [alt_is hal] at Cr
            have e6 := alt_rest (d := d) Hm.out HX'.out hjk
            have Ca := hid Ca
            have Cr := hid Cr
            clear hal hbit e3 e4
            generalize MM.clr d R C X k = c at *
            generalize MM.anot X (2 ^ j) = rest at *
            go_wp2_with (first | (go_at_call 19; (with_reducible refine (C3.out _).mono ?_); rintro e w4 ⟨rfl, hb4⟩; replace hb4 : Below W0.heap.size W0 w4 := Below.step (by first | assumption | exact Below.refl _ _) hb4; obtain ⟨ma4, mb4, mc4⟩ := HX.out.below hb4) | (go_at_call 26; (with_reducible refine (Ca.out _).mono ?_); rintro e w5 ⟨rfl, hb5⟩; replace hb5 : Below W0.heap.size W0 w5 := Below.step (by first | assumption | exact Below.refl _ _) hb5; obtain ⟨ma5, mb5, mc5⟩ := HX.out.below hb5) | (go_at_call 24; (with_reducible refine (Cr.out _).mono ?_); rintro e w6 ⟨rfl, hb6⟩; replace hb6 : Below W0.heap.size W0 w6 := Below.step (by first | assumption | exact Below.refl _ _) hb6; obtain ⟨ma6, mb6, mc6⟩ := HX.out.below hb6))
            go_roundw
            case rel => exact ⟨j + 1, by omega, by go_num, by assumption⟩
            case measure => simp [intOf]; omega
      · obtain rfl : j = k := by omega
        go_wp2_with (go_at_call 19; (with_reducible refine (C3.out _).mono ?_); rintro e w4 ⟨rfl, hb4⟩; replace hb4 : Below W0.heap.size W0 w4 := Below.step (by assumption) hb4)
        go_ret
        exact ⟨rfl, Below.via hB0 hb4 hB0.size⟩
end Go.Proofs.Ytmhpepicmnjmgaa
