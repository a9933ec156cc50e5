/- Events followed one by one: by contract in both programs. Conditions: none. -/
import Derived.Test.YtpfocjdhjkifmaaDoorSlEvents
import Derived.Deep.DeepCutAuto
import Derived.Lib.QuietBelow
namespace Go.Proofs.YtpfocjdhjkifmaaDoor
open Go.RowKit Go.BigFrame
open Go.Sort (grow)
set_option linter.unusedVariables false

theorem fw_step {l : List EV.Ev} {j d : Nat} (h : EV.fw l j = some d) : EV.fw l (j + 1) = if EV.good l j d then some (d ^^^ 2 ^ (l.getD j evD).key.toNat) else none := by
  rw [EV.fw, h]
theorem evs_no {l : List EV.Ev} {j d : Nat} (h : EV.fw l j = some d) (hj : j < l.length) (hg : EV.good l j d = false) : EV.isEvs l = false ∧ EV.heldAfter l = 0 := by
  have h1 : EV.fw l (j + 1) = none := by rw [fw_step h, hg]; rfl
  have h2 : EV.isEvs l = false := by unfold EV.isEvs; rw [EV.fw_none l h1 _ hj]; simp
  exact ⟨h2, by unfold EV.heldAfter; rw [h2]; rfl⟩
theorem evs_long {l : List EV.Ev} (h : 64 < l.length) : EV.isEvs l = false ∧ EV.heldAfter l = 0 := by
  have h2 : EV.isEvs l = false := by unfold EV.isEvs; rw [decide_eq_false (by omega)]; rfl
  exact ⟨h2, by unfold EV.heldAfter; rw [h2]; rfl⟩
theorem evs_yes {l : List EV.Ev} {d : Nat} (h : EV.fw l l.length = some d) (hl : l.length ≤ 64) : EV.isEvs l = true ∧ EV.heldAfter l = d := by
  have h2 : EV.isEvs l = true := by unfold EV.isEvs; rw [h, decide_eq_true hl]; rfl
  refine ⟨h2, ?_⟩
  unfold EV.heldAfter
  rw [h2, EV.fw_xo l _ d (Nat.le_refl _) h, List.take_length]; rfl
/-- A step's test, by its parts. -/
theorem good_eq (l : List EV.Ev) (j d : Nat) : EV.good l j d = (isEv (l.getD j evD).time (l.getD j evD).key && (decide (j = 0) || decide ((l.getD (j - 1) evD).time ≤ (l.getD j evD).time)) && ((l.getD j evD).down != d.testBit (l.getD j evD).key.toNat)) := by
  unfold EV.good isEv
  simp only []
  congr 2
  rw [Bool.eq_iff_iff]; simp [and_assoc]
theorem isEv_out {t k : Int} (h : isEv t k = true) : 0 ≤ k ∧ k ≤ 31 ∧ 0 ≤ t ∧ t ≤ 1000000 := by unfold isEv at h; simp at h; omega
/-- What stands in the box of a round. -/
structure FoI (w W : World) (B : Nat) (t k : Int) (d : Bool) : Prop where
  c0 : W.cell? ⟨B, 0, none⟩ = some (.int .i64 t)
  c1 : W.cell? ⟨B, 1, none⟩ = some (.int .i64 k)
  c2 : W.cell? ⟨B, 2, none⟩ = some (.bool d)
  b : Below w.heap.size w W

set_option maxRecDepth 100000 in
set_option maxHeartbeats 2000000 in
theorem iFollow_any {w : World} {A : Option Addr} {n cap : Nat} {l : List EV.Ev} (h : RdE w A n l) (hmx : n ≤ maxLen) :
    Calls Tryd.prog 64 #[.slice A n cap, .int .i64 0] w fun e w' => e = .returned (.tuple #[.int .i64 (EV.heldAfter l : Nat), .bool (EV.isEvs l)]) ∧ Below w.heap.size w w' := by
  have hl := h.1
  unfold maxLen at hmx
  by_cases hbig : 64 < n
  · obtain ⟨e1, e2⟩ := evs_long (l := l) (by omega)
    rw [e1, e2]
    clear e1 e2 h hl
    go_enter Tryd.func64, Tryd.ntmps64
    go_wp2
    go_ret2
    exact ⟨rfl, Below.refl _ _⟩
  · have HR := hid h; clear h
    have HL := hid hl; clear hl
    have HE := hid iIsEvent_any
    have HB := hid (fun (d K : Nat) (hd : d < 2 ^ 32) (hK : K ≤ 31) => bit_any (d : Int) K (by unfold rng; omega) (by omega))
    have hb2 : ¬ (64 : Int) < (n : Int) := by omega
    go_enter Tryd.func64, Tryd.ntmps64
    go_wp2_with fail
    go_loopw [1, 6, 7, 13] (fun q _ _ i wr => ∃ j d : Nat, j ≤ n ∧ i = .int .i64 j ∧ q = .int .i64 d ∧ EV.fw l j = some d ∧ Below w.heap.size w wr) (fun _ _ _ i _ => n - (intOf i).toNat)
    case atStart => exact ⟨0, 0, Nat.zero_le _, rfl, rfl, rfl, Below.refl _ _⟩
    case round =>
      obtain ⟨j, d, hj, rfl, rfl, hfw, hbel⟩ := hrel
      have hd32 := EV.fw_lt l j d hfw
      have HF := hid hfw; clear hfw
      by_cases hlt : j < n
      · obtain ⟨ad, rfl, a0, a1, a2, hab⟩ := (HR.out.below hbel).at3 hlt
        have hg := good_eq l j d
        obtain ⟨ev, hev⟩ : ∃ ev, l.getD j evD = ev := ⟨_, rfl⟩
        rw [hev] at hg a0 a1 a2
        have HEV := hid hev; clear hev
        obtain ⟨t, k, dn⟩ := ev
        simp only at hg a0 a1 a2
        have hlt2 : (j : Int) < (n : Int) := by omega
        have H1 := hid (HE.out t k dn)
        cases hie : isEv t k
        · rw [hie] at H1 hg
          have HNO := hid (evs_no HF.out (by rw [HL.out]; exact hlt) (by rw [hg]; rfl))
          clear hg hie
          go_wp2_with fail
          have hy0 := (Blk.new wr 47 #[.int .i64 t, .int .i64 k, .bool dn]).cell 0
          have hy1 := (Blk.new wr 47 #[.int .i64 t, .int .i64 k, .bool dn]).cell 1
          have hy2 := (Blk.new wr 47 #[.int .i64 t, .int .i64 k, .bool dn]).cell 2
          simp only [List.getElem?_toArray, List.getElem?_cons_zero, List.getElem?_cons_succ] at hy0 hy1 hy2
          have hbW := hbel.alloc hbel.size (.cells #[.int .i64 t, .int .i64 k, .bool dn] 47)
          generalize wr.alloc (.cells #[.int .i64 t, .int .i64 k, .bool dn] 47) = W at *
          clear hbel a0 a1 a2 hab
          generalize wr.heap.size = B at *
          have y0 := fun d os => cell_regrown hy0 d os
          have y1 := fun d os => cell_regrown hy1 d os
          have y2 := fun d os => cell_regrown hy2 d os
          have cE := fun d os => Calls.regrown_of (w := W) (d := d) (os := os) (H1.out _)
          (refine wp_region_quiet_below (by kernel_rfl) (by kernel_rfl) ?_); (repeat (go_big_quiet_step (first | exact cE _ _))); (refine wpQuiet_nil ?_); intro _ hw'; obtain ⟨⟨dq, osq⟩, hw''⟩ := hw'; subst hw''
          have hb7 := below_regrown W dq osq
          generalize grow (redrawn W dq) osq = wq at *
          clear cE y0 y1 y2
          go_wp2
          go_ret2
          rw [HNO.out.1, HNO.out.2]
          exact ⟨rfl, Below.step hbW hb7⟩
        · rw [hie] at H1 hg
          obtain ⟨hk0, hk1, ht0, ht1⟩ := isEv_out hie
          obtain ⟨K, rfl⟩ := Int.eq_ofNat_of_zero_le hk0
          clear hie hk0
          have H2 := hid (HB.out d K hd32 (by omega))
          rw [tbI_nat] at H2
          rw [Int.toNat_natCast, Bool.true_and] at hg
          by_cases hj0 : j = 0
          · rw [decide_eq_true hj0, Bool.true_or, Bool.true_and] at hg
            have hd0 : decide (0 < j) = false := by simp; omega
            have HJ := hid hj0; clear hj0
            cases hdn : (dn != d.testBit K)
            · rw [hdn] at hg
              have HNO := hid (evs_no HF.out (by rw [HL.out]; exact hlt) hg)
              have hdq : d.testBit K = dn := by revert hdn; cases dn <;> cases d.testBit K <;> simp
              rw [hdq] at H2
              clear hg hdn hdq
              have q1 : (b2i dn == (1 : Int)) = dn := by cases dn <;> rfl
              go_wp2_with fail
              have hy0 := (Blk.new wr 47 #[.int .i64 t, .int .i64 (K : Int), .bool dn]).cell 0
              have hy1 := (Blk.new wr 47 #[.int .i64 t, .int .i64 (K : Int), .bool dn]).cell 1
              have hy2 := (Blk.new wr 47 #[.int .i64 t, .int .i64 (K : Int), .bool dn]).cell 2
              simp only [List.getElem?_toArray, List.getElem?_cons_zero, List.getElem?_cons_succ] at hy0 hy1 hy2
              have hbW := hbel.alloc hbel.size (.cells #[.int .i64 t, .int .i64 (K : Int), .bool dn] 47)
              generalize wr.alloc (.cells #[.int .i64 t, .int .i64 (K : Int), .bool dn] 47) = W at *
              clear hbel a0 a1 a2 hab
              generalize wr.heap.size = B at *
              have y0 := fun d os => cell_regrown hy0 d os
              have y1 := fun d os => cell_regrown hy1 d os
              have y2 := fun d os => cell_regrown hy2 d os
              have cE := fun d os => Calls.regrown_of (w := W) (d := d) (os := os) (H1.out _)
              have cB := fun d os => Calls.regrown_of (w := W) (d := d) (os := os) ((H2.out _).mono (fun e w' h => ⟨h.1, h.2 ▸ Below.refl _ _⟩))
              (refine wp_region_quiet_below (by kernel_rfl) (by kernel_rfl) ?_); (repeat (go_big_quiet_step (first | exact cE _ _ | exact cB _ _))); (refine wpQuiet_nil ?_); intro _ hw'; obtain ⟨⟨dq, osq⟩, hw''⟩ := hw'; subst hw''
              have hb7 := below_regrown W dq osq
              generalize grow (redrawn W dq) osq = wq at *
              clear cE y0 y1 y2 cB
              go_wp2
              go_ret2
              rw [HNO.out.1, HNO.out.2]
              exact ⟨rfl, Below.step hbW hb7⟩
            · rw [hdn] at hg
              have hst := fw_step HF.out
              rw [hg, HEV.out] at hst
              have HST : Hid (EV.fw l (j + 1) = some (d ^^^ 2 ^ K)) := hid (by simpa using hst)
              have hdq : d.testBit K = !dn := by revert hdn; cases dn <;> cases d.testBit K <;> simp
              rw [hdq] at H2
              clear hg hdn hdq hst
              have q1 : (b2i (!dn) == (1 : Int)) = !dn := by cases dn <;> rfl
              have q2 : (dn == !dn) = false := by cases dn <;> rfl
              go_wp2_with fail
              have hy0 := (Blk.new wr 47 #[.int .i64 t, .int .i64 (K : Int), .bool dn]).cell 0
              have hy1 := (Blk.new wr 47 #[.int .i64 t, .int .i64 (K : Int), .bool dn]).cell 1
              have hy2 := (Blk.new wr 47 #[.int .i64 t, .int .i64 (K : Int), .bool dn]).cell 2
              simp only [List.getElem?_toArray, List.getElem?_cons_zero, List.getElem?_cons_succ] at hy0 hy1 hy2
              have hbW := hbel.alloc hbel.size (.cells #[.int .i64 t, .int .i64 (K : Int), .bool dn] 47)
              generalize wr.alloc (.cells #[.int .i64 t, .int .i64 (K : Int), .bool dn] 47) = W at *
              clear hbel a0 a1 a2 hab
              generalize wr.heap.size = B at *
              have y0 := fun d os => cell_regrown hy0 d os
              have y1 := fun d os => cell_regrown hy1 d os
              have y2 := fun d os => cell_regrown hy2 d os
              have cE := fun d os => Calls.regrown_of (w := W) (d := d) (os := os) (H1.out _)
              have cB := fun d os => Calls.regrown_of (w := W) (d := d) (os := os) ((H2.out _).mono (fun e w' h => ⟨h.1, h.2 ▸ Below.refl _ _⟩))
              (refine wp_region_quiet_below (by kernel_rfl) (by kernel_rfl) ?_); (repeat (go_big_quiet_step (first | exact cE _ _ | exact cB _ _))); (refine wpQuiet_nil ?_); intro _ hw'; obtain ⟨⟨dq, osq⟩, hw''⟩ := hw'; subst hw''
              have hb7 := below_regrown W dq osq
              generalize grow (redrawn W dq) osq = wq at *
              clear cE y0 y1 y2 cB
              have k1 := keep_cell hy1 hb7
              have hxs := xor_shl d K (by omega) (by omega)
              clear hy0 hy1 hy2
              go_wp2
              go_roundw
              case rel => exact ⟨j + 1, d ^^^ 2 ^ K, by omega, by go_num, rfl, HST.out, Below.step hbW hb7⟩
              case measure => simp [intOf]; omega
          · obtain ⟨p, hp⟩ : ∃ p, j = p + 1 := ⟨j - 1, by omega⟩
            obtain ⟨ad', e', p0, _, _, _⟩ := (HR.out.below hbel).at3 (show p < n by omega)
            injection e' with e'
            subst e'
            rw [decide_eq_false hj0, Bool.false_or, show j - 1 = p by omega] at hg
            generalize (l.getD p evD).time = pt at *
            have hd0 : decide (0 < j) = true := by simp; omega
            have hd1 : (0 : Int) < (j : Int) := by omega
            have hjp : (j : Int) - 1 = (p : Int) := by omega
            have hpn : (p : Int) < (n : Int) := by omega
            have HJ := hid hj0; clear hj0
            have HP := hid hp; clear hp
            cases hpt : decide (pt ≤ t)
            · rw [hpt, Bool.false_and] at hg
              have hpt2 : t < pt := by have := of_decide_eq_false hpt; omega
              have HNO := hid (evs_no HF.out (by rw [HL.out]; exact hlt) hg)
              clear hg hpt
              go_wp2_with fail
              have hy0 := (Blk.new wr 47 #[.int .i64 t, .int .i64 (K : Int), .bool dn]).cell 0
              have hy1 := (Blk.new wr 47 #[.int .i64 t, .int .i64 (K : Int), .bool dn]).cell 1
              have hy2 := (Blk.new wr 47 #[.int .i64 t, .int .i64 (K : Int), .bool dn]).cell 2
              simp only [List.getElem?_toArray, List.getElem?_cons_zero, List.getElem?_cons_succ] at hy0 hy1 hy2
              have hbW := hbel.alloc hbel.size (.cells #[.int .i64 t, .int .i64 (K : Int), .bool dn] 47)
              have hp0 : (wr.alloc (.cells #[.int .i64 t, .int .i64 (K : Int), .bool dn] 47)).cell? (ad.add (p * 3)) = some (.int .i64 pt) := keep_cell p0 ((Below.refl _ _).alloc (Nat.le_refl _) _)
              generalize wr.alloc (.cells #[.int .i64 t, .int .i64 (K : Int), .bool dn] 47) = W at *
              clear hbel a0 a1 a2 hab
              generalize wr.heap.size = B at *
              have y0 := fun d os => cell_regrown hy0 d os
              have y1 := fun d os => cell_regrown hy1 d os
              have y2 := fun d os => cell_regrown hy2 d os
              have y3 := fun d os => cell_regrown hp0 d os
              have cE := fun d os => Calls.regrown_of (w := W) (d := d) (os := os) (H1.out _)
              (refine wp_region_quiet_below (by kernel_rfl) (by kernel_rfl) ?_); (repeat (go_big_quiet_step (first | exact cE _ _))); (refine wpQuiet_nil ?_); intro _ hw'; obtain ⟨⟨dq, osq⟩, hw''⟩ := hw'; subst hw''
              have hb7 := below_regrown W dq osq
              generalize grow (redrawn W dq) osq = wq at *
              clear cE y0 y1 y2 y3
              go_wp2
              go_ret2
              rw [HNO.out.1, HNO.out.2]
              exact ⟨rfl, Below.step hbW hb7⟩
            · rw [hpt, Bool.true_and] at hg
              have hpt2 : decide (t < pt) = false := by have := of_decide_eq_true hpt; simp; omega
              clear hpt
              cases hdn : (dn != d.testBit K)
              · rw [hdn] at hg
                have HNO := hid (evs_no HF.out (by rw [HL.out]; exact hlt) hg)
                have hdq : d.testBit K = dn := by revert hdn; cases dn <;> cases d.testBit K <;> simp
                rw [hdq] at H2
                clear hg hdn hdq
                have q1 : (b2i dn == (1 : Int)) = dn := by cases dn <;> rfl
                go_wp2_with fail
                have hy0 := (Blk.new wr 47 #[.int .i64 t, .int .i64 (K : Int), .bool dn]).cell 0
                have hy1 := (Blk.new wr 47 #[.int .i64 t, .int .i64 (K : Int), .bool dn]).cell 1
                have hy2 := (Blk.new wr 47 #[.int .i64 t, .int .i64 (K : Int), .bool dn]).cell 2
                simp only [List.getElem?_toArray, List.getElem?_cons_zero, List.getElem?_cons_succ] at hy0 hy1 hy2
                have hbW := hbel.alloc hbel.size (.cells #[.int .i64 t, .int .i64 (K : Int), .bool dn] 47)
                have hp0 : (wr.alloc (.cells #[.int .i64 t, .int .i64 (K : Int), .bool dn] 47)).cell? (ad.add (p * 3)) = some (.int .i64 pt) := keep_cell p0 ((Below.refl _ _).alloc (Nat.le_refl _) _)
                generalize wr.alloc (.cells #[.int .i64 t, .int .i64 (K : Int), .bool dn] 47) = W at *
                clear hbel a0 a1 a2 hab
                generalize wr.heap.size = B at *
                have y0 := fun d os => cell_regrown hy0 d os
                have y1 := fun d os => cell_regrown hy1 d os
                have y2 := fun d os => cell_regrown hy2 d os
                have y3 := fun d os => cell_regrown hp0 d os
                have cE := fun d os => Calls.regrown_of (w := W) (d := d) (os := os) (H1.out _)
                have cB := fun d os => Calls.regrown_of (w := W) (d := d) (os := os) ((H2.out _).mono (fun e w' h => ⟨h.1, h.2 ▸ Below.refl _ _⟩))
                (refine wp_region_quiet_below (by kernel_rfl) (by kernel_rfl) ?_); (repeat (go_big_quiet_step (first | exact cE _ _ | exact cB _ _))); (refine wpQuiet_nil ?_); intro _ hw'; obtain ⟨⟨dq, osq⟩, hw''⟩ := hw'; subst hw''
                have hb7 := below_regrown W dq osq
                generalize grow (redrawn W dq) osq = wq at *
                clear cE y0 y1 y2 y3 cB
                go_wp2
                go_ret2
                rw [HNO.out.1, HNO.out.2]
                exact ⟨rfl, Below.step hbW hb7⟩
              · rw [hdn] at hg
                have hst := fw_step HF.out
                rw [hg, HEV.out] at hst
                have HST : Hid (EV.fw l (j + 1) = some (d ^^^ 2 ^ K)) := hid (by simpa using hst)
                have hdq : d.testBit K = !dn := by revert hdn; cases dn <;> cases d.testBit K <;> simp
                rw [hdq] at H2
                clear hg hdn hdq hst
                have q1 : (b2i (!dn) == (1 : Int)) = !dn := by cases dn <;> rfl
                have q2 : (dn == !dn) = false := by cases dn <;> rfl
                go_wp2_with fail
                have hy0 := (Blk.new wr 47 #[.int .i64 t, .int .i64 (K : Int), .bool dn]).cell 0
                have hy1 := (Blk.new wr 47 #[.int .i64 t, .int .i64 (K : Int), .bool dn]).cell 1
                have hy2 := (Blk.new wr 47 #[.int .i64 t, .int .i64 (K : Int), .bool dn]).cell 2
                simp only [List.getElem?_toArray, List.getElem?_cons_zero, List.getElem?_cons_succ] at hy0 hy1 hy2
                have hbW := hbel.alloc hbel.size (.cells #[.int .i64 t, .int .i64 (K : Int), .bool dn] 47)
                have hp0 : (wr.alloc (.cells #[.int .i64 t, .int .i64 (K : Int), .bool dn] 47)).cell? (ad.add (p * 3)) = some (.int .i64 pt) := keep_cell p0 ((Below.refl _ _).alloc (Nat.le_refl _) _)
                generalize wr.alloc (.cells #[.int .i64 t, .int .i64 (K : Int), .bool dn] 47) = W at *
                clear hbel a0 a1 a2 hab
                generalize wr.heap.size = B at *
                have y0 := fun d os => cell_regrown hy0 d os
                have y1 := fun d os => cell_regrown hy1 d os
                have y2 := fun d os => cell_regrown hy2 d os
                have y3 := fun d os => cell_regrown hp0 d os
                have cE := fun d os => Calls.regrown_of (w := W) (d := d) (os := os) (H1.out _)
                have cB := fun d os => Calls.regrown_of (w := W) (d := d) (os := os) ((H2.out _).mono (fun e w' h => ⟨h.1, h.2 ▸ Below.refl _ _⟩))
                (refine wp_region_quiet_below (by kernel_rfl) (by kernel_rfl) ?_); (repeat (go_big_quiet_step (first | exact cE _ _ | exact cB _ _))); (refine wpQuiet_nil ?_); intro _ hw'; obtain ⟨⟨dq, osq⟩, hw''⟩ := hw'; subst hw''
                have hb7 := below_regrown W dq osq
                generalize grow (redrawn W dq) osq = wq at *
                clear cE y0 y1 y2 y3 cB
                have k1 := keep_cell hy1 hb7
                have hxs := xor_shl d K (by omega) (by omega)
                clear hy0 hy1 hy2
                go_wp2
                go_roundw
                case rel => exact ⟨j + 1, d ^^^ 2 ^ K, by omega, by go_num, rfl, HST.out, Below.step hbW hb7⟩
                case measure => simp [intOf]; omega
      · obtain ⟨m, hm⟩ : ∃ m, n = m := ⟨_, rfl⟩
        obtain rfl : j = n := by omega
        have hyes := evs_yes (l := l) (d := d) (by rw [HL.out]; exact HF.out) (by rw [HL.out]; omega)
        have HY := hid hyes; clear hyes
        go_wp2
        go_ret2
        rw [HY.out.1, HY.out.2]
        exact ⟨rfl, hbel⟩
end Go.Proofs.YtpfocjdhjkifmaaDoor
