/- The walks of the laws on drawn matrices: clear keys, readings, accepting. Conditions: none. -/
import Derived.Test.YtmhpepicmnjmgaaMatI
import Derived.Test.YtmhpepicmnjmgaaMatJ
namespace Go.Proofs.Ytmhpepicmnjmgaa
open Go.RowKit
set_option linter.unusedVariables false

/-- What the law is handed: a slice of bytes. -/
def InBytes (w : World) (A : Option Addr) (n : Nat) (zs : List Int) : Prop :=
  zs.length = n ∧ n ≤ maxLen ∧ Reads w w.heap.size 1 A n (zs.map (Value.int .u8)) ∧ ∀ z ∈ zs, (Lit.int .u8 z).wf = true
theorem InBytes.code {w : World} {A : Option Addr} {n : Nat} {zs : List Int} (h : InBytes w A n zs) (hn : n ≤ 1048576) : Code w w.heap.size A n zs :=
  ⟨h.1, h.2.2.1, fun b hb => by have := h.2.2.2 b hb; simpa [Lit.wf, IntKind.min, IntKind.max, IntKind.signed, IntKind.bits] using this, hn⟩
set_option maxRecDepth 100000 in
theorem big_any (A : Option Addr) (n cap : Nat) (w : World) : Calls Try.prog 22 #[.slice A n cap] w fun e w' => e = .returned (.bool (decide (1048576 < n))) ∧ w = w' := by
  go_enter Try.func22, Try.ntmps22
  go_wp2
  go_ret
  exact ⟨ret_bool (by rw [Bool.eq_iff_iff]; simp; omega), rfl⟩
theorem big_yes {A : Option Addr} {n cap : Nat} (h : 1048576 < n) (w : World) : Calls Try.prog 22 #[.slice A n cap] w fun e w' => e = .returned (.bool true) ∧ w = w' := by
  have := big_any A n cap w
  rwa [decide_eq_true h] at this
theorem big_no {A : Option Addr} {n cap : Nat} (h : ¬ 1048576 < n) (w : World) : Calls Try.prog 22 #[.slice A n cap] w fun e w' => e = .returned (.bool false) ∧ w = w' := by
  have := big_any A n cap w
  rwa [decide_eq_false h] at this

theorem count_any (x : Nat) (hx : x < 16777216) (w : World) : Calls Try.prog 34 #[.int .i64 x] w fun e w' => e = .returned (.int .i64 (MM.pop x 40 : Nat)) ∧ w = w' := by
  have hle : ∀ n, MM.pop x n ≤ n := by
    intro n
    induction n with
    | zero => exact Nat.le_refl _
    | succ n ih => rw [MM.pop]; split <;> omega
  have HL := hid hle; clear hle
  go_enter Try.func34, Try.ntmps34
  go_wp2
  go_loop [3, 4] (fun o i => ∃ j : Nat, j ≤ 40 ∧ i = .int .i64 j ∧ o = .int .i64 (MM.pop x j : Nat)) (fun _ i => 40 - (intOf i).toNat)
  case atStart => exact ⟨0, Nat.zero_le _, rfl, rfl⟩
  case round =>
    obtain ⟨j, hj, rfl, rfl⟩ := hrel
    by_cases hj4 : j < 40
    · have e1 := and_one_shr (x : Int) j ⟨by omega, by omega⟩
      rw [tbI_nat] at e1
      have hst : MM.pop x (j + 1) = MM.pop x j + if x.testBit j then 1 else 0 := rfl
      have hl := HL.out j
      generalize MM.pop x j = p at *
      cases hb : x.testBit j
      all_goals
        rw [hb] at e1 hst
        simp only [if_true, Bool.false_eq_true, if_false] at e1 hst
        have HS := hid hst; clear hst
        have HB := hid hb; clear hb
        go_wp2
        go_round
        case rel => exact ⟨j + 1, by omega, by go_num, by rw [HS.out]; go_num⟩
        case measure => simp [intOf]; omega
    · obtain rfl : j = 40 := by omega
      go_wp2
      go_ret
      exact ⟨rfl, rfl⟩

section
variable {R C k X : Nat} {d : Bool} (h : Mx R C k) (hX : X < 2 ^ k) (w : World)
include h hX
theorem iReadMatrix_at : Calls Try.prog 24 #[.agg #[.int .i64 R, .int .i64 C, .bool d], .int .i64 X] w fun e w' => e = .returned (.tuple #[.int .i64 (MM.rd d R C X : Nat), .bool true]) ∧ Below w.heap.size w w' := by
  have := iReadMatrix_any R C d X w
  rwa [rdI_mk h hX, mk_yes h hX] at this
theorem iGhostsOf_at : Calls Try.prog 31 #[.agg #[.int .i64 R, .int .i64 C, .bool d], .int .i64 X] w fun e w' => e = .returned (.tuple #[.int .i64 (MM.anot (MM.rd d R C X) X : Nat), .bool true]) ∧ Below w.heap.size w w' := by
  have := iGhostsOf_any R C d X w
  rwa [ghI_mk h hX, mk_yes h hX] at this
end
section
variable {R C k X : Nat} {d : Bool} (h : Mx R C k) (hX : X < 2 ^ k) (hr : MM.rd d R C X = X) (w : World)
include h hX hr
theorem iIsReading_at : Calls Try.prog 28 #[.agg #[.int .i64 R, .int .i64 C, .bool d], .int .i64 X] w fun e w' => e = .returned (.bool true) ∧ Below w.heap.size w w' := by
  have := iIsReading_any R C d X w
  rwa [rd_yes h hX hr] at this
theorem iClearKeys_at : Calls Try.prog 25 #[.agg #[.int .i64 R, .int .i64 C, .bool d], .int .i64 X] w fun e w' => e = .returned (.int .i64 (MM.clr d R C X k : Nat)) ∧ Below w.heap.size w w' := by
  have := iClearKeys_any R C d X w
  rwa [clrI_mx h hX hr] at this
theorem iAcceptReading_at {O : Nat} (hO : O < 2 ^ k) : Calls Try.prog 36 #[.agg #[.int .i64 R, .int .i64 C, .bool d], .int .i64 O, .int .i64 X] w fun e w' => e = .returned (.tuple #[.int .i64 (X &&& (O ||| MM.clr d R C X k) : Nat), .bool true]) ∧ Below w.heap.size w w' := by
  have := iAcceptReading_any R C d O X w
  obtain ⟨e1, e2⟩ := accV_mx h hX hr hO
  rwa [e1, e2] at this
end
theorem anot_nat {k a b : Nat} (hk : k ≤ 24) (ha : a < 2 ^ k) (hb : b < 2 ^ k) : bits .andNot .i64 (a : Int) (b : Int) = ((MM.anot a b : Nat) : Int) := by
  have h3 : 2 ^ k ≤ 2 ^ 24 := Nat.pow_le_pow_right (by omega) hk
  have h4 : (2 : Nat) ^ 24 = 16777216 := by decide
  exact i64_anot_nat _ _ (by omega) (by omega)
theorem anot_none {k a b : Nat} (hk : k ≤ 24) (ha : a < 2 ^ k) (hb : b < 2 ^ k) (h : MM.Bits a b) : bits .andNot .i64 (a : Int) (b : Int) = 0 := by
  rw [anot_nat hk ha hb, MM.anot_zero.2 h]; rfl
theorem and_sub {k a b : Nat} (hk : k ≤ 24) (ha : a < 2 ^ k) (hb : b < 2 ^ k) (h : MM.Bits b a) : bits .and .i64 (a : Int) (b : Int) = (b : Int) := by
  have h3 : 2 ^ k ≤ 2 ^ 24 := Nat.pow_le_pow_right (by omega) hk
  have h4 : (2 : Nat) ^ 24 = 16777216 := by decide
  rw [i64_and_nat _ _ (by omega) (by omega)]
  congr 1
  apply Nat.eq_of_testBit_eq; intro i
  rw [Nat.testBit_and]
  cases hb : b.testBit i with
  | false => simp
  | true => rw [h i hb]; rfl

set_option maxHeartbeats 1000000 in
theorem walk_FnReadings (A : Option Addr) (n cap : Nat) (zs : List Int) (w : World) (hin : InBytes w A n zs) : Calls Try.prog 12 #[.slice A n cap] w fun e w' => e = .returned (.bool true) ∧ Below w.heap.size w w' := by
  by_cases hbig : 1048576 < n
  · have HB := hid (big_yes (A := A) (cap := cap) hbig)
    clear hin hbig
    go_enter Try.func12, Try.ntmps12
    go_wp2_with (go_at_call 22; (with_reducible refine (HB.out _).mono ?_); rintro e w' ⟨rfl, rfl⟩)
    go_ret
    exact ⟨rfl, by (first | (go_grown; done) | (refine below_drewN ?_ _; go_grown; done) | (refine Below.drew (below_drewN ?_ _); go_grown; done))⟩
  · have HB := hid (big_no (A := A) (cap := cap) hbig)
    have HC := hid (hin.code (by omega))
    clear hin hbig
    go_enter Try.func12, Try.ntmps12
    go_wp2_with (go_at_call 22; (with_reducible refine (HB.out _).mono ?_); rintro e w' ⟨rfl, rfl⟩)
    refine (MakeMatrix_any HC.out).mono ?_
    rintro e w1 ⟨R, C, k, a, b, d, hm, ha, hb, hab, rfl, hb1⟩
    have k24 := hm.k24
    have hmk : R * C = k := hm.k.symm
    have hR4 := hm.r4
    have hC1 := hm.c1
    have hX := rd24 hm ha d
    have hY := rd24 hm hb d
    have ha' : a < 2 ^ (R * C) := by rwa [hmk]
    have hb' : b < 2 ^ (R * C) := by rwa [hmk]
    have hXX := MM.rd_rd (D := d) hR4 hC1 ha'
    have f1 := and_sub k24.1 hX ha (MM.rd_ext (D := d) hC1 ha')
    have f2 := anot_none k24.1 hX hY (MM.rd_mono (D := d) hR4 hC1 hb' hab)
    have f4 := anot_nat k24.1 hX ha
    have C1 := hid (fun w => iReadMatrix_at (d := d) hm ha w)
    have C2 := hid (fun w => iReadMatrix_at (d := d) hm hb w)
    have C3 := iReadMatrix_at (d := d) hm hX
    rw [hXX] at C3
    have C3 := hid C3
    have C4 := hid (fun w => iGhostsOf_at (d := d) hm ha w)
    have C5 := hid (fun w => iIsReading_at (d := d) hm hX hXX w)
    have C6 := hid (count_any a (x24 hm ha))
    have hlast : (d = true ∨ MM.pop a 40 < 3) → MM.rd d R C a = a := by
      rintro (rfl | hp)
      · rfl
      · exact MM.rd_few (n := 40) hC1 ha' (by omega) hp
    clear HC ha hb hm hmk hX hY ha' hb' hXX hab
    generalize MM.anot (MM.rd d R C a) a = G at *
    generalize MM.rd d R C a = X at *
    generalize MM.rd d R C b = Y at *
    generalize MM.pop a 40 = pp at *
    have fin : (d = true ∧ X = a) ∨ (d = false ∧ pp < 3 ∧ X = a) ∨ (d = false ∧ ¬ pp < 3) := by
      cases d with
      | true => exact .inl ⟨rfl, hlast (.inl rfl)⟩
      | false =>
        by_cases hp : pp < 3
        · exact .inr (.inl ⟨rfl, hp, hlast (.inr hp)⟩)
        · exact .inr (.inr ⟨rfl, hp⟩)
    clear hlast


    rcases fin with ⟨rfl, rfl⟩ | ⟨rfl, hp, rfl⟩ | ⟨rfl, hp⟩
    · go_wp2_with fail
      have hbox := BoxM.new w1 R C true 25
      have hB0 : Below w.heap.size w (w1.alloc (.cells #[.int .i64 R, .int .i64 C, .bool true] 25)) := hb1.alloc hb1.size _
      generalize w1.alloc (.cells #[.int .i64 R, .int .i64 C, .bool true] 25) = W0 at *
      have HX := hid hbox
      obtain ⟨m0, m1, m2⟩ := hbox
      go_wp2_with (first | (go_at_call 24; (with_reducible refine (C1.out _).mono ?_); rintro e w2 ⟨rfl, hb2⟩; replace hb2 : Below W0.heap.size W0 w2 := Below.step (by first | assumption | exact Below.refl _ _) hb2; obtain ⟨ma2, mb2, mc2⟩ := HX.out.below hb2) | (go_at_call 24; (with_reducible refine (C2.out _).mono ?_); rintro e w3 ⟨rfl, hb3⟩; replace hb3 : Below W0.heap.size W0 w3 := Below.step (by first | assumption | exact Below.refl _ _) hb3; obtain ⟨ma3, mb3, mc3⟩ := HX.out.below hb3) | (go_at_call 24; (with_reducible refine (C3.out _).mono ?_); rintro e w4 ⟨rfl, hb4⟩; replace hb4 : Below W0.heap.size W0 w4 := Below.step (by first | assumption | exact Below.refl _ _) hb4; obtain ⟨ma4, mb4, mc4⟩ := HX.out.below hb4) | (go_at_call 31; (with_reducible refine (C4.out _).mono ?_); rintro e w5 ⟨rfl, hb5⟩; replace hb5 : Below W0.heap.size W0 w5 := Below.step (by first | assumption | exact Below.refl _ _) hb5; obtain ⟨ma5, mb5, mc5⟩ := HX.out.below hb5) | (go_at_call 28; (with_reducible refine (C5.out _).mono ?_); rintro e w6 ⟨rfl, hb6⟩; replace hb6 : Below W0.heap.size W0 w6 := Below.step (by first | assumption | exact Below.refl _ _) hb6; obtain ⟨ma6, mb6, mc6⟩ := HX.out.below hb6) | (go_at_call 34; (with_reducible refine (C6.out _).mono ?_); rintro e w' ⟨rfl, rfl⟩))
      go_ret
      exact ⟨ret_bool (by simp), Below.via hB0 hb6 hB0.size⟩
    · go_wp2_with fail
      have hbox := BoxM.new w1 R C false 25
      have hB0 : Below w.heap.size w (w1.alloc (.cells #[.int .i64 R, .int .i64 C, .bool false] 25)) := hb1.alloc hb1.size _
      generalize w1.alloc (.cells #[.int .i64 R, .int .i64 C, .bool false] 25) = W0 at *
      have HX := hid hbox
      obtain ⟨m0, m1, m2⟩ := hbox
      go_wp2_with (first | (go_at_call 24; (with_reducible refine (C1.out _).mono ?_); rintro e w2 ⟨rfl, hb2⟩; replace hb2 : Below W0.heap.size W0 w2 := Below.step (by first | assumption | exact Below.refl _ _) hb2; obtain ⟨ma2, mb2, mc2⟩ := HX.out.below hb2) | (go_at_call 24; (with_reducible refine (C2.out _).mono ?_); rintro e w3 ⟨rfl, hb3⟩; replace hb3 : Below W0.heap.size W0 w3 := Below.step (by first | assumption | exact Below.refl _ _) hb3; obtain ⟨ma3, mb3, mc3⟩ := HX.out.below hb3) | (go_at_call 24; (with_reducible refine (C3.out _).mono ?_); rintro e w4 ⟨rfl, hb4⟩; replace hb4 : Below W0.heap.size W0 w4 := Below.step (by first | assumption | exact Below.refl _ _) hb4; obtain ⟨ma4, mb4, mc4⟩ := HX.out.below hb4) | (go_at_call 31; (with_reducible refine (C4.out _).mono ?_); rintro e w5 ⟨rfl, hb5⟩; replace hb5 : Below W0.heap.size W0 w5 := Below.step (by first | assumption | exact Below.refl _ _) hb5; obtain ⟨ma5, mb5, mc5⟩ := HX.out.below hb5) | (go_at_call 28; (with_reducible refine (C5.out _).mono ?_); rintro e w6 ⟨rfl, hb6⟩; replace hb6 : Below W0.heap.size W0 w6 := Below.step (by first | assumption | exact Below.refl _ _) hb6; obtain ⟨ma6, mb6, mc6⟩ := HX.out.below hb6) | (go_at_call 34; (with_reducible refine (C6.out _).mono ?_); rintro e w' ⟨rfl, rfl⟩))
      go_ret
      exact ⟨ret_bool (by simp), Below.via hB0 hb6 hB0.size⟩
    · go_wp2_with fail
      have hbox := BoxM.new w1 R C false 25
      have hB0 : Below w.heap.size w (w1.alloc (.cells #[.int .i64 R, .int .i64 C, .bool false] 25)) := hb1.alloc hb1.size _
      generalize w1.alloc (.cells #[.int .i64 R, .int .i64 C, .bool false] 25) = W0 at *
      have HX := hid hbox
      obtain ⟨m0, m1, m2⟩ := hbox
      go_wp2_with (first | (go_at_call 24; (with_reducible refine (C1.out _).mono ?_); rintro e w2 ⟨rfl, hb2⟩; replace hb2 : Below W0.heap.size W0 w2 := Below.step (by first | assumption | exact Below.refl _ _) hb2; obtain ⟨ma2, mb2, mc2⟩ := HX.out.below hb2) | (go_at_call 24; (with_reducible refine (C2.out _).mono ?_); rintro e w3 ⟨rfl, hb3⟩; replace hb3 : Below W0.heap.size W0 w3 := Below.step (by first | assumption | exact Below.refl _ _) hb3; obtain ⟨ma3, mb3, mc3⟩ := HX.out.below hb3) | (go_at_call 24; (with_reducible refine (C3.out _).mono ?_); rintro e w4 ⟨rfl, hb4⟩; replace hb4 : Below W0.heap.size W0 w4 := Below.step (by first | assumption | exact Below.refl _ _) hb4; obtain ⟨ma4, mb4, mc4⟩ := HX.out.below hb4) | (go_at_call 31; (with_reducible refine (C4.out _).mono ?_); rintro e w5 ⟨rfl, hb5⟩; replace hb5 : Below W0.heap.size W0 w5 := Below.step (by first | assumption | exact Below.refl _ _) hb5; obtain ⟨ma5, mb5, mc5⟩ := HX.out.below hb5) | (go_at_call 28; (with_reducible refine (C5.out _).mono ?_); rintro e w6 ⟨rfl, hb6⟩; replace hb6 : Below W0.heap.size W0 w6 := Below.step (by first | assumption | exact Below.refl _ _) hb6; obtain ⟨ma6, mb6, mc6⟩ := HX.out.below hb6) | (go_at_call 34; (with_reducible refine (C6.out _).mono ?_); rintro e w' ⟨rfl, rfl⟩))
      go_ret
      exact ⟨ret_bool (by simp), Below.via hB0 hb6 hB0.size⟩
end Go.Proofs.Ytmhpepicmnjmgaa
