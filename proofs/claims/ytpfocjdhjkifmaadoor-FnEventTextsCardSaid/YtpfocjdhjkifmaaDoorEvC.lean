/- Events checked, the keys that are held: by contract in both programs. Conditions: none. -/
import Derived.Test.YtpfocjdhjkifmaaDoorEvB
namespace Go.Proofs.YtpfocjdhjkifmaaDoor
open Go.RowKit Go.BigFrame
open Go.Sort (grow)
set_option linter.unusedVariables false

theorem evs_at {l : List EV.Ev} (h : EV.isEvs l = true) {j : Nat} (hj : j ≤ l.length) : ∃ d, EV.fw l j = some d := by
  cases e : EV.fw l j with
  | some d => exact ⟨d, rfl⟩
  | none =>
    have := (EV.isEvs_fw h).2
    rw [EV.fw_none l e _ hj] at this
    cases this
theorem good_at {l : List EV.Ev} (h : EV.isEvs l = true) {j d : Nat} (hj : j < l.length) (hd : EV.fw l j = some d) : EV.good l j d = true := by
  obtain ⟨d', h2⟩ := evs_at h (j := j + 1) hj
  rw [fw_step hd] at h2
  cases e : EV.good l j d with
  | true => rfl
  | false => rw [e] at h2; simp at h2
set_option maxRecDepth 100000 in
theorem iIsEvents_any {w : World} {A : Option Addr} {n cap : Nat} {l : List EV.Ev} (h : RdE w A n l) (hmx : n ≤ maxLen) :
    Calls Tryd.prog 49 #[.slice A n cap] w fun e w' => e = .returned (.bool (EV.isEvs l)) ∧ Below w.heap.size w w' := by
  have H := hid (iFollow_any (cap := cap) h hmx)
  clear h
  go_enter Tryd.func49, Tryd.ntmps49
  go_wp2_with (go_at_call 64; (with_reducible refine H.out.mono ?_); rintro e w1 ⟨rfl, hb1⟩)
  go_ret
  exact ⟨rfl, hb1⟩
set_option maxRecDepth 100000 in
theorem iHeldAfter_any {w : World} {A : Option Addr} {n cap : Nat} {l : List EV.Ev} (h : RdE w A n l) (hmx : n ≤ maxLen) :
    Calls Tryd.prog 34 #[.slice A n cap] w fun e w' => e = .returned (.int .i64 (EV.heldAfter l : Nat)) ∧ Below w.heap.size w w' := by
  have H := hid (iFollow_any (cap := cap) h hmx)
  clear h
  go_enter Tryd.func34, Tryd.ntmps34
  go_wp2_with (go_at_call 64; (with_reducible refine H.out.mono ?_); rintro e w1 ⟨rfl, hb1⟩)
  go_ret
  exact ⟨rfl, hb1⟩
set_option maxRecDepth 100000 in
set_option maxHeartbeats 2000000 in
theorem sIsEvents_any {w : World} {A : Option Addr} {n cap : Nat} {l : List EV.Ev} (h : RdE w A n l) (hmx : n ≤ maxLen) :
    Calls Tryd.prog 46 #[.slice A n cap] w fun e w' => e = .returned (.bool (EV.isEvs l)) ∧ Below w.heap.size w w' := by
  have hl := h.1
  unfold maxLen at hmx
  have HR := hid h; clear h
  have HL := hid hl; clear hl
  have HE := hid sIsEvent_any
  go_enter Tryd.func46, Tryd.ntmps46
  go_wp2_with fail
  go_loopw [3, 4] (fun q i wr => ∃ j d : Nat, j ≤ n ∧ i = .int .i64 j ∧ q = .int .i64 d ∧ EV.fw l j = some d ∧ Below w.heap.size w wr) (fun _ i _ => n - (intOf i).toNat)
  case atStart => exact ⟨0, 0, Nat.zero_le _, rfl, rfl, rfl, Below.refl _ _⟩
  case round =>
    obtain ⟨j, d, hj, rfl, rfl, hfw, hbel⟩ := hrel
    have hd32 := EV.fw_lt l j d hfw
    have HF := hid hfw; clear hfw
    by_cases hlt : j < n
    · obtain ⟨ad, rfl, a0, a1, a2, hab⟩ := (HR.out.below hbel).at3 hlt
      have hg := good_eq l j d
      obtain ⟨ev, hev⟩ : ∃ ev, l.getD j evD = ev := ⟨_, rfl⟩
      rw [hev] at hg a0 a1 a2
      have HEV := hid hev; clear hev
      obtain ⟨t, k, dn⟩ := ev
      simp only at hg a0 a1 a2
      have hlt2 : (j : Int) < (n : Int) := by omega
      have H1 := hid (HE.out t k dn)
      cases hie : isEv t k
      · rw [hie] at H1 hg
        have HNO := hid (evs_no HF.out (by rw [HL.out]; exact hlt) (by rw [hg]; rfl))
        clear hg hie
        have hbW := hbel
        have y0 := fun d os => cell_regrown a0 d os
        have y1 := fun d os => cell_regrown a1 d os
        have y2 := fun d os => cell_regrown a2 d os
        go_wp2_with fail
        have cE := fun d os => Calls.regrown_of (w := wr) (d := d) (os := os) (H1.out _)
        (refine wp_region_quiet_below (by kernel_rfl) (by kernel_rfl) ?_); (repeat (go_big_quiet_step (first | exact cE _ _))); (refine wpQuiet_nil ?_); intro _ hw'; obtain ⟨⟨dq, osq⟩, hw''⟩ := hw'; subst hw''
        have hb7 := below_regrown wr dq osq
        generalize grow (redrawn wr dq) osq = wq at *
        clear cE y0 y1 y2
        go_wp2
        go_ret
        exact ⟨ret_bool HNO.out.1.symm, Below.step hbW hb7⟩
      · rw [hie] at H1 hg
        obtain ⟨hk0, hk1, ht0, ht1⟩ := isEv_out hie
        obtain ⟨K, rfl⟩ := Int.eq_ofNat_of_zero_le hk0
        clear hie hk0
        have e1 := and_one_shr (d : Int) K (by omega)
        rw [tbI_nat] at e1
        rw [Int.toNat_natCast, Bool.true_and] at hg
        by_cases hj0 : j = 0
        · rw [decide_eq_true hj0, Bool.true_or, Bool.true_and] at hg
          have hd0 : decide (0 < j) = false := by simp; omega
          have HJ := hid hj0; clear hj0
          cases hdn : (dn != d.testBit K)
          · rw [hdn] at hg
            have HNO := hid (evs_no HF.out (by rw [HL.out]; exact hlt) hg)
            have hdq : d.testBit K = dn := by revert hdn; cases dn <;> cases d.testBit K <;> simp
            rw [hdq] at e1
            clear hg hdn hdq
            replace e1 : bits .and .i64 ((d : Int) / 2 ^ K) 1 = b2i dn := e1
            have q1 : (b2i dn == (1 : Int)) = dn := by cases dn <;> rfl
            have hbW := hbel
            have y0 := fun d os => cell_regrown a0 d os
            have y1 := fun d os => cell_regrown a1 d os
            have y2 := fun d os => cell_regrown a2 d os
            go_wp2_with fail
            have cE := fun d os => Calls.regrown_of (w := wr) (d := d) (os := os) (H1.out _)
            (refine wp_region_quiet_below (by kernel_rfl) (by kernel_rfl) ?_); (repeat (go_big_quiet_step (first | exact cE _ _))); (refine wpQuiet_nil ?_); intro _ hw'; obtain ⟨⟨dq, osq⟩, hw''⟩ := hw'; subst hw''
            have hb7 := below_regrown wr dq osq
            generalize grow (redrawn wr dq) osq = wq at *
            clear cE y0 y1 y2
            go_wp2
            go_ret
            exact ⟨ret_bool HNO.out.1.symm, Below.step hbW hb7⟩
          · rw [hdn] at hg
            have hst := fw_step HF.out
            rw [hg, HEV.out] at hst
            have HST : Hid (EV.fw l (j + 1) = some (d ^^^ 2 ^ K)) := hid (by simpa using hst)
            have hdq : d.testBit K = !dn := by revert hdn; cases dn <;> cases d.testBit K <;> simp
            rw [hdq] at e1
            clear hg hdn hdq hst
            replace e1 : bits .and .i64 ((d : Int) / 2 ^ K) 1 = b2i (!dn) := e1
            have q1 : (b2i (!dn) == (1 : Int)) = !dn := by cases dn <;> rfl
            have q2 : (dn == !dn) = false := by cases dn <;> rfl
            have hbW := hbel
            have y0 := fun d os => cell_regrown a0 d os
            have y1 := fun d os => cell_regrown a1 d os
            have y2 := fun d os => cell_regrown a2 d os
            go_wp2_with fail
            have cE := fun d os => Calls.regrown_of (w := wr) (d := d) (os := os) (H1.out _)
            (refine wp_region_quiet_below (by kernel_rfl) (by kernel_rfl) ?_); (repeat (go_big_quiet_step (first | exact cE _ _))); (refine wpQuiet_nil ?_); intro _ hw'; obtain ⟨⟨dq, osq⟩, hw''⟩ := hw'; subst hw''
            have hb7 := below_regrown wr dq osq
            generalize grow (redrawn wr dq) osq = wq at *
            clear cE y0 y1 y2
            have k1 := keep_cell a1 hb7
            have hxs := xor_shl d K (by omega) (by omega)
            clear a0 a1 a2
            go_wp2
            go_roundw
            case rel => exact ⟨j + 1, d ^^^ 2 ^ K, by omega, by go_num, rfl, HST.out, Below.step hbW hb7⟩
            case measure => simp [intOf]; omega
        · obtain ⟨p, hp⟩ : ∃ p, j = p + 1 := ⟨j - 1, by omega⟩
          obtain ⟨ad', e', p0, _, _, _⟩ := (HR.out.below hbel).at3 (show p < n by omega)
          injection e' with e'
          subst e'
          rw [decide_eq_false hj0, Bool.false_or, show j - 1 = p by omega] at hg
          generalize (l.getD p evD).time = pt at *
          have hd0 : decide (0 < j) = true := by simp; omega
          have hd1 : (0 : Int) < (j : Int) := by omega
          have hjp : (j : Int) - 1 = (p : Int) := by omega
          have hpn : (p : Int) < (n : Int) := by omega
          have HJ := hid hj0; clear hj0
          have HP := hid hp; clear hp
          cases hpt : decide (pt ≤ t)
          · rw [hpt, Bool.false_and] at hg
            have hpt2 : t < pt := by have := of_decide_eq_false hpt; omega
            have HNO := hid (evs_no HF.out (by rw [HL.out]; exact hlt) hg)
            clear hg hpt
            have hbW := hbel
            have y0 := fun d os => cell_regrown a0 d os
            have y1 := fun d os => cell_regrown a1 d os
            have y2 := fun d os => cell_regrown a2 d os
            have y3 := fun d os => cell_regrown p0 d os
            go_wp2_with fail
            have cE := fun d os => Calls.regrown_of (w := wr) (d := d) (os := os) (H1.out _)
            (refine wp_region_quiet_below (by kernel_rfl) (by kernel_rfl) ?_); (repeat (go_big_quiet_step (first | exact cE _ _))); (refine wpQuiet_nil ?_); intro _ hw'; obtain ⟨⟨dq, osq⟩, hw''⟩ := hw'; subst hw''
            have hb7 := below_regrown wr dq osq
            generalize grow (redrawn wr dq) osq = wq at *
            clear cE y0 y1 y2 y3
            go_wp2
            go_ret
            exact ⟨ret_bool HNO.out.1.symm, Below.step hbW hb7⟩
          · rw [hpt, Bool.true_and] at hg
            have hpt2 : decide (t < pt) = false := by have := of_decide_eq_true hpt; simp; omega
            clear hpt
            cases hdn : (dn != d.testBit K)
            · rw [hdn] at hg
              have HNO := hid (evs_no HF.out (by rw [HL.out]; exact hlt) hg)
              have hdq : d.testBit K = dn := by revert hdn; cases dn <;> cases d.testBit K <;> simp
              rw [hdq] at e1
              clear hg hdn hdq
              replace e1 : bits .and .i64 ((d : Int) / 2 ^ K) 1 = b2i dn := e1
              have q1 : (b2i dn == (1 : Int)) = dn := by cases dn <;> rfl
              have hbW := hbel
              have y0 := fun d os => cell_regrown a0 d os
              have y1 := fun d os => cell_regrown a1 d os
              have y2 := fun d os => cell_regrown a2 d os
              have y3 := fun d os => cell_regrown p0 d os
              go_wp2_with fail
              have cE := fun d os => Calls.regrown_of (w := wr) (d := d) (os := os) (H1.out _)
              (refine wp_region_quiet_below (by kernel_rfl) (by kernel_rfl) ?_); (repeat (go_big_quiet_step (first | exact cE _ _))); (refine wpQuiet_nil ?_); intro _ hw'; obtain ⟨⟨dq, osq⟩, hw''⟩ := hw'; subst hw''
              have hb7 := below_regrown wr dq osq
              generalize grow (redrawn wr dq) osq = wq at *
              clear cE y0 y1 y2 y3
              go_wp2
              go_ret
              exact ⟨ret_bool HNO.out.1.symm, Below.step hbW hb7⟩
            · rw [hdn] at hg
              have hst := fw_step HF.out
              rw [hg, HEV.out] at hst
              have HST : Hid (EV.fw l (j + 1) = some (d ^^^ 2 ^ K)) := hid (by simpa using hst)
              have hdq : d.testBit K = !dn := by revert hdn; cases dn <;> cases d.testBit K <;> simp
              rw [hdq] at e1
              clear hg hdn hdq hst
              replace e1 : bits .and .i64 ((d : Int) / 2 ^ K) 1 = b2i (!dn) := e1
              have q1 : (b2i (!dn) == (1 : Int)) = !dn := by cases dn <;> rfl
              have q2 : (dn == !dn) = false := by cases dn <;> rfl
              have hbW := hbel
              have y0 := fun d os => cell_regrown a0 d os
              have y1 := fun d os => cell_regrown a1 d os
              have y2 := fun d os => cell_regrown a2 d os
              have y3 := fun d os => cell_regrown p0 d os
              go_wp2_with fail
              have cE := fun d os => Calls.regrown_of (w := wr) (d := d) (os := os) (H1.out _)
              (refine wp_region_quiet_below (by kernel_rfl) (by kernel_rfl) ?_); (repeat (go_big_quiet_step (first | exact cE _ _))); (refine wpQuiet_nil ?_); intro _ hw'; obtain ⟨⟨dq, osq⟩, hw''⟩ := hw'; subst hw''
              have hb7 := below_regrown wr dq osq
              generalize grow (redrawn wr dq) osq = wq at *
              clear cE y0 y1 y2 y3
              have k1 := keep_cell a1 hb7
              have hxs := xor_shl d K (by omega) (by omega)
              clear a0 a1 a2
              go_wp2
              go_roundw
              case rel => exact ⟨j + 1, d ^^^ 2 ^ K, by omega, by go_num, rfl, HST.out, Below.step hbW hb7⟩
              case measure => simp [intOf]; omega
    · obtain ⟨m, hm⟩ : ∃ m, n = m := ⟨_, rfl⟩
      obtain rfl : j = n := by omega
      have hfin : EV.isEvs l = decide ((j : Int) ≤ 64) := by
        unfold EV.isEvs
        rw [HL.out, HF.out, Option.isSome_some, Bool.and_true, Bool.eq_iff_iff]; simp; omega
      have HFIN := hid hfin; clear hfin
      go_wp2
      go_ret
      refine ⟨ret_bool ?_, hbel⟩
      rw [HFIN.out]
      first | rfl | (rw [Bool.eq_iff_iff]; simp; done) | (rw [Bool.eq_iff_iff]; simp; omega)
end Go.Proofs.YtpfocjdhjkifmaaDoor
