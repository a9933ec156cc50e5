/- The rows of a mask as the two programs take them. Conditions: a valid matrix, a mask below 2^24. -/
import Derived.Test.YtmhpepicmnjmgaaMatA
import Derived.Test.YtmhpepicmnjmgaaMatMath
import Derived.Deep.RegionHeld3
namespace Go.Proofs.Ytmhpepicmnjmgaa
open Go.RowKit
set_option linter.unusedVariables false

theorem bits_mask (y C : Nat) (hy : y < 4294967296) (hC : C ≤ 24) : bits .and .i64 ((y : Nat) : Int) ((2 : Int) ^ C - 1) = ((y % 2 ^ C : Nat) : Int) := by
  have h1 : (2 : Nat) ^ C ≤ 2 ^ 24 := Nat.pow_le_pow_right (by omega) hC
  have h2 : (2 : Nat) ^ 24 = 16777216 := by decide
  have h3 := Nat.two_pow_pos C
  have e : (2 : Int) ^ C - 1 = ((2 ^ C - 1 : Nat) : Int) := by
    have : (2 : Int) ^ C = ((2 ^ C : Nat) : Int) := by simp
    rw [this]; omega
  rw [e, i64_and_nat _ _ (by omega) (by omega), Nat.and_two_pow_sub_one_eq_mod]
theorem bits_row (x C r : Nat) (hx : x < 16777216) (hC : C ≤ 24) : bits .and .i64 ((x : Int) / 2 ^ (r * C)) ((2 : Int) ^ C - 1) = ((MM.row C x r : Nat) : Int) := by
  have e : ((x : Int) / 2 ^ (r * C)) = ((x / 2 ^ (r * C) : Nat) : Int) := by simp
  have h := Nat.div_le_self x (2 ^ (r * C))
  rw [e, bits_mask _ _ (by omega) hC]
  rfl
theorem l2Row_mx {R C k : Nat} (h : Mx R C k) (d : Bool) (x r : Nat) (hx : x < 16777216) (hr : r < R) (w : World) :
    Calls Try.prog 46 #[.agg #[.int .i64 R, .int .i64 C, .bool d], .int .i64 x, .int .i64 r] w fun e w' => e = .returned (.int .i64 (MM.row C x r : Nat)) ∧ Below w.heap.size w w' := by
  have hC1 := h.c1
  have hC6 := h.c6
  have hrc : r * C ≤ 24 := Nat.le_trans (Nat.mul_le_mul (show r ≤ 4 by have := h.r4; omega) hC6) (by decide)
  have e1 : ((r : Int) * C) = ((r * C : Nat) : Int) := by simp
  have b1 : (r : Int) * C ≤ 24 := by rw [e1]; omega
  have b0 : 0 ≤ (r : Int) * C := by rw [e1]; omega
  have E := hid e1; clear e1
  obtain ⟨p1, p2⟩ := pow_rng (k := C) (by omega)
  have hs := shl_one C (by omega)
  go_enter Try.func46, Try.ntmps46
  go_wp2
  go_quiet (fail)
  go_wp2
  go_ret
  exact ⟨ret_int (bits_row x C r hx (by omega)), by (first | (go_grown; done) | (refine below_drewN ?_ _; go_grown; done) | (refine Below.drew (below_drewN ?_ _); go_grown; done))⟩
theorem sl2Read_D {R C k : Nat} (h : Mx R C k) (x : Nat) (hx : x < 2 ^ k) (w : World) :
    Calls Try.prog 42 #[.agg #[.int .i64 R, .int .i64 C, .bool true], .int .i64 x] w fun e w' => e = .returned (.int .i64 (MM.rd true R C x : Nat)) ∧ Below w.heap.size w w' := by
  have h1 : MM.rd true R C x = x := rfl
  rw [h1]; clear h1
  clear hx
  go_enter Try.func42, Try.ntmps42
  go_wp2
  go_ret
  exact ⟨rfl, by (first | (go_grown; done) | (refine below_drewN ?_ _; go_grown; done) | (refine Below.drew (below_drewN ?_ _); go_grown; done))⟩
theorem l2_and0 {va vb C : Nat} (ha : va < 2 ^ C) (hb : vb < 2 ^ C) (hC : C ≤ 6) (hz : va &&& vb = 0) : bits .and .i64 (va : Int) (vb : Int) = 0 := by
  have h1 : (2 : Nat) ^ C ≤ 2 ^ 6 := Nat.pow_le_pow_right (by omega) hC
  rw [i64_and_nat _ _ (by omega) (by omega), hz]; rfl
theorem l2_and1 {va vb C : Nat} (ha : va < 2 ^ C) (hb : vb < 2 ^ C) (hC : C ≤ 6) (hz : ¬ va &&& vb = 0) : ¬ bits .and .i64 (va : Int) (vb : Int) = 0 := by
  have h1 : (2 : Nat) ^ C ≤ 2 ^ 6 := Nat.pow_le_pow_right (by omega) hC
  rw [i64_and_nat _ _ (by omega) (by omega)]; omega
theorem l2_rc {R C k a : Nat} (h : Mx R C k) (ha : a < R) : 0 ≤ (a : Int) * C ∧ (a : Int) * C ≤ 24 := by
  have hrc : a * C ≤ 24 := Nat.le_trans (Nat.mul_le_mul (show a ≤ 4 by have := h.r4; omega) h.c6) (by decide)
  have e1 : ((a : Int) * C) = ((a * C : Nat) : Int) := by simp
  rw [e1]; omega
theorem l2_or {R C k a o vb : Nat} (ho : o < 16777216) (hb : vb < 2 ^ C) (h : Mx R C k) (ha : a < R) : 0 ≤ (vb : Int) * 2 ^ (a * C) ∧ (vb : Int) * 2 ^ (a * C) ≤ 16777216 ∧ bits .or .i64 (o : Int) ((vb : Int) * 2 ^ (a * C)) = ((o ||| vb <<< (a * C) : Nat) : Int) := by
  have e : (vb : Int) * 2 ^ (a * C) = ((vb * 2 ^ (a * C) : Nat) : Int) := by simp
  have h1 : vb * 2 ^ (a * C) < 2 ^ 24 := by
    have h2 : vb * 2 ^ (a * C) < 2 ^ C * 2 ^ (a * C) := Nat.mul_lt_mul_of_pos_right hb (Nat.two_pow_pos _)
    have h3 : 2 ^ C * 2 ^ (a * C) ≤ 2 ^ 24 := by
      rw [← Nat.pow_add]
      refine Nat.pow_le_pow_right (by omega) ?_
      have h5 : (a + 1) * C ≤ R * C := Nat.mul_le_mul_right _ (by omega)
      have h6 := h.k24
      rw [h.k] at h6
      rw [Nat.add_mul] at h5
      omega
    omega
  have h4 : (2 : Nat) ^ 24 = 16777216 := by decide
  rw [e, Nat.shiftLeft_eq, i64_or_nat _ _ (by omega) (by omega)]
  exact ⟨by omega, by omega, rfl⟩
/-- A matrix in a box. -/
def BoxM (w : World) (b : Nat) (R C : Nat) (d : Bool) : Prop :=
  w.cell? ⟨b, 0, none⟩ = some (.int .i64 R) ∧ w.cell? ⟨b, 1, none⟩ = some (.int .i64 C) ∧ w.cell? ⟨b, 2, none⟩ = some (.bool d)
theorem BoxM.lt {w : World} {b R C : Nat} {d : Bool} (h : BoxM w b R C d) : b < w.heap.size := World.block_lt_of_cell? _ _ h.1
theorem BoxM.below {w w' : World} {b R C : Nat} {d : Bool} (h : BoxM w b R C d) (hb : Below w.heap.size w w') : BoxM w' b R C d :=
  ⟨(hb.cell (p := ⟨b, 0, none⟩) h.lt).trans h.1, (hb.cell (p := ⟨b, 1, none⟩) h.lt).trans h.2.1, (hb.cell (p := ⟨b, 2, none⟩) h.lt).trans h.2.2⟩
theorem BoxM.drewN {w : World} {b R C : Nat} {d : Bool} (h : BoxM w b R C d) (n : Nat) : BoxM (w.drewN n) b R C d := h
theorem BoxM.new (w : World) (R C : Nat) (d : Bool) (t : TypeId) : BoxM (w.alloc (.cells #[.int .i64 R, .int .i64 C, .bool d] t)) w.heap.size R C d :=
  ⟨(Blk.new w t _).cell 0, (Blk.new w t _).cell 1, (Blk.new w t _).cell 2⟩

set_option maxHeartbeats 1000000 in
theorem sl2Read_N {R C k : Nat} (h : Mx R C k) (x : Nat) (hx : x < 2 ^ k) (w : World) :
    Calls Try.prog 42 #[.agg #[.int .i64 R, .int .i64 C, .bool false], .int .i64 x] w fun e w' => e = .returned (.int .i64 (MM.rd false R C x : Nat)) ∧ Below w.heap.size w w' := by
  have hR1 := h.r1
  have hR4 := h.r4
  have hC1 := h.c1
  have hC6 := h.c6
  have Hx := hid hx; clear hx
  have HM := hid h; clear h
  have hfin : MM.rd false R C x = MM.enc C (MM.inN R (MM.row C x) R) R := rfl
  have hstart : MM.enc C (MM.inN R (MM.row C x) 0) R = x := MM.enc_row hC1 (by have := Hx.out; rwa [HM.out.k] at this)
  have hlt : ∀ f : Nat → Nat, (∀ r, f r < 2 ^ C) → MM.enc C f R < 16777216 := fun f hf => by
    have h1 := MM.enc_lt C f hf R
    have h2 := HM.out.k24
    rw [HM.out.k] at h2
    have h3 : 2 ^ (R * C) ≤ 2 ^ 24 := Nat.pow_le_pow_right (by omega) h2.1
    have h4 : (2 : Nat) ^ 24 = 16777216 := by decide
    omega
  have hfl : ∀ r, MM.row C x r < 2 ^ C := MM.row_lt C x
  generalize MM.row C x = f at hfin hstart hfl
  have HF := hid hfin; clear hfin
  have HS := hid hstart; clear hstart
  have HL := hid hlt; clear hlt
  have HP := hid hfl; clear hfl
  go_enter Try.func42, Try.ntmps42
  go_wp2
  go_loopw [5, 6] (fun o n wr => ∃ j : Nat, j ≤ R ∧ n = .int .i64 j ∧ o = .int .i64 (MM.enc C (MM.inN R f j) R : Nat) ∧ BoxM wr w.heap.size R C false ∧ Below w.heap.size w wr) (fun _ n _ => R - (intOf n).toNat)
  case atStart => exact ⟨0, Nat.zero_le _, rfl, by rw [HS.out], BoxM.new w R C false _, by (first | (go_grown; done) | (refine below_drewN ?_ _; go_grown; done) | (refine Below.drew (below_drewN ?_ _); go_grown; done))⟩
  case round =>
    obtain ⟨j, hj, rfl, rfl, hbox, hbel⟩ := hrel
    obtain ⟨m0, m1, m2⟩ := hbox
    by_cases hjR : j < R
    · go_wp2
      obtain ⟨wo, rfl⟩ : ∃ wo : World, wo = wr := ⟨_, rfl⟩
      go_loopw [5, 7] (fun o n wr => ∃ a : Nat, a ≤ R ∧ n = .int .i64 a ∧ o = .int .i64 (MM.enc C (MM.inA R (MM.inN R f j) a) R : Nat) ∧ BoxM wr w.heap.size R C false ∧ Below w.heap.size w wr) (fun _ n _ => R - (intOf n).toNat)
      case atStart => exact ⟨0, Nat.zero_le _, rfl, rfl, ⟨m0, m1, m2⟩, hbel⟩
      case round =>
        clear m0 m1 m2
        obtain ⟨a, ha, rfl, rfl, hbox, hbel⟩ := hrel
        obtain ⟨m0, m1, m2⟩ := hbox
        by_cases haR : a < R
        · go_wp2
          obtain ⟨wa, rfl⟩ : ∃ wa : World, wa = wr := ⟨_, rfl⟩
          go_loopw [5, 8] (fun o n wr => ∃ b : Nat, b ≤ R ∧ n = .int .i64 b ∧ o = .int .i64 (MM.enc C (MM.inB (MM.inA R (MM.inN R f j) a) a b) R : Nat) ∧ BoxM wr w.heap.size R C false ∧ Below w.heap.size w wr) (fun _ n _ => R - (intOf n).toNat)
          case atStart => exact ⟨0, Nat.zero_le _, rfl, rfl, ⟨m0, m1, m2⟩, hbel⟩
          case round =>
            clear m0 m1 m2
            obtain ⟨b, hb, rfl, rfl, hbox, hbel⟩ := hrel
            by_cases hbR : b < R
            · have hgl : ∀ r, MM.inB (MM.inA R (MM.inN R f j) a) a b r < 2 ^ C := MM.inB_lt (f := MM.inA R (MM.inN R f j) a) (MM.inA_lt (f := MM.inN R f j) (R := R) (MM.inN_lt (f := f) (R := R) HP.out j) a) a b
              have hol := HL.out _ hgl
              have hnext := MM.enc_join (R := R) hC1 hgl haR hbR
              clear hgl
              change MM.enc C (MM.inB (MM.inA R (MM.inN R f j) a) a (b + 1)) R = _ at hnext
              generalize MM.enc C (MM.inB (MM.inA R (MM.inN R f j) a) a b) R = o at hol hnext
              have hA := MM.row_lt C o a
              have hV := MM.row_lt C o b
              have H1 := hid (fun w => l2Row_mx HM.out false o a hol haR w)
              have H2 := hid (fun w => l2Row_mx HM.out false o b hol hbR w)
              generalize MM.row C o a = va at hA hnext H1
              generalize MM.row C o b = vb at hV hnext H2
              have HN := hid hnext; clear hnext
              have HA := hid hA; clear hA
              have HV := hid hV; clear hV
              by_cases hz : va &&& vb = 0
              · have e0 := l2_and0 HA.out HV.out (by omega) hz
                have HZ := hid hz; clear hz
                have hbox0 := hid hbox
                obtain ⟨m0, m1, m2⟩ := hbox
                go_wp2
                go_region_held3 (fun w' => w'.cell? ⟨w.heap.size, 0, none⟩ = some (.int .i64 R) ∧ w'.cell? ⟨w.heap.size, 1, none⟩ = some (.int .i64 C) ∧ w'.cell? ⟨w.heap.size, 2, none⟩ = some (.bool false) ∧ Below w.heap.size w w') (and_intros <;> first | assumption | (exact Below.drew (by assumption)) | (simp (maxDischargeDepth := 20) [*]; done) | (simp [*, go_sem]; done)) (first | (go_at_call 46; (with_reducible refine (H1.out _).mono ?_); rintro e w1 ⟨rfl, hb1⟩; obtain ⟨hc1, hf1, hz1, hd1⟩ := bcell hb1; replace hb1 := Below.step (by first | assumption | exact Below.drew (by assumption)) hb1) | (go_at_call 46; (with_reducible refine (H2.out _).mono ?_); rintro e w2 ⟨rfl, hb2⟩; obtain ⟨hc2, hf2, hz2, hd2⟩ := bcell hb2; replace hb2 := Below.step (by first | assumption | exact Below.drew (by assumption)) hb2))
                go_wp2
                go_roundw
                case rel => exact ⟨b + 1, by omega, by go_num, by rw [HN.out, if_pos HZ.out], ⟨by (first | assumption | (simp (maxDischargeDepth := 20) [*]; done)), by (first | assumption | (simp (maxDischargeDepth := 20) [*]; done)), by (first | assumption | (simp (maxDischargeDepth := 20) [*]; done))⟩, by assumption⟩
                case measure => simp [intOf]; omega
              · have e0 := l2_and1 HA.out HV.out (by omega) hz
                have e1 : (bits .and .i64 (va : Int) (vb : Int) != 0) = true := by simpa using e0
                obtain ⟨q0, q1, q2⟩ := l2_or hol HV.out HM.out haR
                have HQ := hid q2; clear q2
                have HE := hid e0; clear e0
                have HZ := hid hz; clear hz
                have hrc : 0 ≤ (a : Int) * C ∧ (a : Int) * C ≤ 24 := l2_rc HM.out haR
                obtain ⟨r0, r1⟩ := hrc
                have r2 : (a : Int) * C ≤ 64 := by omega
                have t1 : IntKind.i64.wrap ((a : Int) * C) = (a : Int) * C := IntWalk.i64_in _ ⟨by omega, by omega⟩
                have t2 : ((a : Int) * C).toNat = a * C := by rw [show ((a : Int) * C) = ((a * C : Nat) : Int) from by simp]; exact Int.toNat_natCast _
                have t3 : IntKind.i64.wrap ((vb : Int) * 2 ^ (a * C)) = (vb : Int) * 2 ^ (a * C) := IntWalk.i64_in _ ⟨by omega, by omega⟩
                obtain ⟨m0, m1, m2⟩ := hbox
                go_wp2
                go_region_held3 (fun w' => w'.cell? ⟨w.heap.size, 0, none⟩ = some (.int .i64 R) ∧ w'.cell? ⟨w.heap.size, 1, none⟩ = some (.int .i64 C) ∧ w'.cell? ⟨w.heap.size, 2, none⟩ = some (.bool false) ∧ Below w.heap.size w w') (and_intros <;> first | assumption | (exact Below.drew (by assumption)) | (simp (maxDischargeDepth := 20) [*]; done) | (simp [*, go_sem]; done)) (first | (go_at_call 46; (with_reducible refine (H1.out _).mono ?_); rintro e w1 ⟨rfl, hb1⟩; obtain ⟨hc1, hf1, hz1, hd1⟩ := bcell hb1; replace hb1 := Below.step (by first | assumption | exact Below.drew (by assumption)) hb1) | (go_at_call 46; (with_reducible refine (H2.out _).mono ?_); rintro e w2 ⟨rfl, hb2⟩; obtain ⟨hc2, hf2, hz2, hd2⟩ := bcell hb2; replace hb2 := Below.step (by first | assumption | exact Below.drew (by assumption)) hb2))
                go_wp2
                go_region_held3 (fun w' => w'.cell? ⟨w.heap.size, 0, none⟩ = some (.int .i64 R) ∧ w'.cell? ⟨w.heap.size, 1, none⟩ = some (.int .i64 C) ∧ w'.cell? ⟨w.heap.size, 2, none⟩ = some (.bool false) ∧ Below w.heap.size w w') (and_intros <;> first | assumption | (exact Below.drew (by assumption)) | (simp (maxDischargeDepth := 20) [*]; done) | (simp [*, go_sem]; done)) (first | (go_at_call 46; (with_reducible refine (H2.out _).mono ?_); rintro e w3 ⟨rfl, hb3⟩; obtain ⟨hc3, hf3, hz3, hd3⟩ := bcell hb3; replace hb3 := Below.step (by first | assumption | exact Below.drew (by assumption)) hb3))
                go_wp2
                go_roundw
                case rel => exact ⟨b + 1, by omega, by go_num, by rw [HN.out, if_neg HZ.out]; exact congrArg _ HQ.out, ⟨by (first | assumption | (simp (maxDischargeDepth := 20) [*]; done)), by (first | assumption | (simp (maxDischargeDepth := 20) [*]; done)), by (first | assumption | (simp (maxDischargeDepth := 20) [*]; done))⟩, by assumption⟩
                case measure => simp [intOf]; omega
            · obtain ⟨m0, m1, m2⟩ := hbox
              obtain rfl : b = R := by omega
              go_wp2
              go_roundw
              case rel => exact ⟨a + 1, by omega, by go_num, rfl, ⟨m0, m1, m2⟩, hbel⟩
              case measure => simp [intOf]; omega
        · obtain rfl : a = R := by omega
          go_wp2
          go_roundw
          case rel => exact ⟨j + 1, by omega, by go_num, rfl, ⟨m0, m1, m2⟩, hbel⟩
          case measure => simp [intOf]; omega
    · obtain rfl : j = R := by omega
      go_wp2
      go_ret
      exact ⟨ret_int (by rw [HF.out]), hbel⟩
end Go.Proofs.Ytmhpepicmnjmgaa
