/- Events written as texts: by contract in the program. Conditions: the library's table as it is laid. -/
import Derived.Test.YtpfocjdhjkifmaaDoorEvC
import Derived.Test.YtpfocjdhjkifmaaDoorPevM
import Derived.Test.YtpfocjdhjkifmaaDoorJoinA
import Derived.Deep.DeepCutAuto
import Derived.Deep.RegionWith
namespace Go.Proofs.YtpfocjdhjkifmaaDoor
open Go.RowKit
set_option linter.unusedVariables false

theorem st3' (a : List UInt8) (x : UInt8) (b : List UInt8) : st a ++ ByteArray.mk #[x] ++ st b = st (a ++ x :: b) := by
  have : ByteArray.mk #[x] = st [x] := rfl
  rw [this, st_append, st_append]; simp
theorem evs_rng {l : List EV.Ev} (h : EV.isEvs l = true) {j : Nat} (hj : j < l.length) {t k : Int} {d : Bool} (he : l.getD j evD = ⟨t, k, d⟩) : (-9223372036854775808 ≤ t ∧ t ≤ 9223372036854775807) ∧ (-9223372036854775808 ≤ k ∧ k ≤ 9223372036854775807) := by
  have := isEvs_mem h hj
  rw [show (⟨0, 0, false⟩ : EV.Ev) = evD from rfl, he] at this
  simp only at this
  omega
/-- The texts of the first events. -/
def tx (l : List EV.Ev) : List ByteArray := l.map fun e => st (evT e)
theorem tx_succ {l : List EV.Ev} {j : Nat} (h : j < l.length) {t k : Int} {d : Bool} (he : l.getD j evD = ⟨t, k, d⟩) {X Y : List UInt8} (hX : Lib.itoa t = X) (hY : Lib.itoa k = Y) {b : UInt8} (hb : (if d then 43 else 45) = b) :
    (tx (l.take j)).map sV ++ [sV (st X ++ ByteArray.mk #[b] ++ st Y)] = (tx (l.take (j + 1))).map sV := by
  have e : l[j] = ⟨t, k, d⟩ := by rw [← he, List.getD_eq_getElem?_getD, List.getElem?_eq_getElem h]; rfl
  unfold tx
  rw [List.take_succ_eq_append_getElem h, List.map_append, List.map_append, e, st3']
  simp only [List.map_cons, List.map_nil]
  unfold evT
  simp only
  rw [hX, hY, hb]
theorem tx_len (l : List EV.Ev) : (tx l).length = l.length := by unfold tx; simp
theorem sumT_tx {l : List EV.Ev} (h : EV.isEvs l = true) : ∀ j, j ≤ l.length → sumT (tx l) j ≤ j * 43
  | 0, _ => by unfold sumT; simp
  | j + 1, hj => by
    have ih := sumT_tx h j (by omega)
    obtain ⟨⟨t, k, d⟩, hev⟩ : ∃ e, l.getD j evD = e := ⟨_, rfl⟩
    obtain ⟨hx0, hx1⟩ := evs_rng h (by omega) hev
    have e : (tx l).getD j ByteArray.empty = st (evT ⟨t, k, d⟩) := by
      rw [List.getD_eq_getElem?_getD, List.getElem?_eq_getElem (by omega)] at hev
      simp only [Option.getD_some] at hev
      unfold tx
      rw [List.getD_eq_getElem?_getD, List.getElem?_map, List.getElem?_eq_getElem (by omega), hev]
      rfl
    rw [sumT_succ _ _ (by rw [tx_len]; omega), e, st_size]
    have g1 := Lib.itoa_length_le t hx0.1 hx0.2
    have g2 := Lib.itoa_length_le k hx1.1 hx1.2
    have : (evT ⟨t, k, d⟩).length ≤ 43 := by unfold evT; simp; omega
    omega
theorem join_tx (l : List EV.Ev) : st (Lib.join ((tx l).map (fun s => s.data.toList)) (ByteArray.mk #[32]).data.toList) = st (Lib.join (l.map evT) [32]) := by
  unfold tx
  rw [List.map_map]
  congr 2
set_option maxRecDepth 100000 in
set_option maxHeartbeats 1000000 in
theorem iFormatEvents_any {w : World} {A : Option Addr} {n cap : Nat} {l : List EV.Ev} (h : RdE w A n l) (hmx : n ≤ maxLen) (hp : Pow10 w) :
    Calls Tryd.prog 21 #[.slice A n cap] w fun e w' => e = .returned (.string (st (feL l))) ∧ Below w.heap.size w w' := by
  have hl := h.1
  have HE := hid (iIsEvents_any (cap := cap) h hmx)
  have HR := hid h
  have HP := hid hp
  have HL := hid hl
  clear h hp hl
  cases hev : EV.isEvs l
  · have e : feL l = [] := by unfold feL; rw [hev]; rfl
    rw [e]
    rw [hev] at HE
    clear e hev
    go_enter Tryd.func21, Tryd.ntmps21
    go_wp2_with fail
    refine HE.out.mono ?_
    rintro e w1 ⟨rfl, hb1⟩
    go_wp2
    go_ret
    exact ⟨rfl, hb1⟩
  · have e : feL l = Lib.join (l.map evT) [32] := by unfold feL; rw [hev]; rfl
    rw [e, ← join_tx]
    rw [hev] at HE
    have HEV := hid hev
    clear e hev
    obtain ⟨i0, hi, hz0, hz1, hz2⟩ := info_parts string_info
    have HI0 := hid (And.intro hi (And.intro hz0 (And.intro hz1 hz2))); clear hi hz0 hz1 hz2
    have hn64 : n ≤ 64 := by have := (EV.isEvs_fw HEV.out).1; have := HL.out; omega
    go_enter Tryd.func21, Tryd.ntmps21
    go_wp2_with fail
    refine HE.out.mono ?_
    rintro e w1 ⟨rfl, hb1⟩
    have HB1 := hid hb1
    clear hb1
    go_wp2_with fail
    go_loopw [3, 5, 6, 12] (fun o _ _ i wr => ∃ (j : Nat) (A' : Option Addr) (c' : Nat), j ≤ n ∧ i = .int .i64 j ∧ o = .slice A' j c' ∧
      wr.ownsRow w.heap.size 9 1 (.slice A' j c') j ((tx (l.take j)).map sV) ∧ Below w.heap.size w wr) (fun _ _ _ i _ => n - (intOf i).toNat)
    case atStart => exact ⟨0, none, 0, Nat.zero_le _, rfl, rfl, World.ownsRow_nil _ _ _ _, HB1.out⟩
    case round =>
      obtain ⟨j, A0, c, hj, rfl, rfl, hown, hbel⟩ := hrel
      by_cases hlt : j < n
      · obtain ⟨ad, rfl, p0, p1, p2, hab⟩ := (HR.out.below hbel).at3 hlt
        obtain ⟨ev, hevj⟩ : ∃ ev, l.getD j evD = ev := ⟨_, rfl⟩
        rw [hevj] at p0 p1 p2
        have HEJ := hid hevj
        have HOwn := hid hown
        have HPW := hid (TabIs_below HP.out hbel)
        clear hevj hown
        obtain ⟨t, k, d⟩ := ev
        simp only at p0 p1 p2
        have hlt2 : (j : Int) < (n : Int) := by omega
        obtain ⟨hx0, hx1⟩ := evs_rng HEV.out (by rw [HL.out]; exact hlt) HEJ.out
        have HT := hid (fun (W : World) (hp : Pow10 W) => iFormatInt_any t hx0.1 hx0.2 hp)
        have HK := hid (fun (W : World) (hp : Pow10 W) => iFormatInt_any k hx1.1 hx1.2 hp)
        have g1 := Lib.itoa_length_le t hx0.1 hx0.2
        have g2 := Lib.itoa_length_le k hx1.1 hx1.2
        obtain ⟨X, hX⟩ : ∃ X, Lib.itoa t = X := ⟨_, rfl⟩
        obtain ⟨Y, hY⟩ : ∃ Y, Lib.itoa k = Y := ⟨_, rfl⟩
        rw [hX] at HT g1
        rw [hY] at HK g2
        have HXY := hid (And.intro hX hY)
        clear hX hY
        have hbx := Blk.new wr 47 #[.int .i64 t, .int .i64 k, .bool d]
        have r0 := hbx.cell 0
        have r1 := hbx.cell 1
        have r2 := hbx.cell 2
        simp only [List.getElem?_toArray, List.getElem?_cons_zero, List.getElem?_cons_succ] at r0 r1 r2
        have HPX := hid (TabIs_below HPW.out ((Below.refl wr.heap.size wr).alloc (Nat.le_refl _) (.cells #[.int .i64 t, .int .i64 k, .bool d] 47)))
        have HOX := hid (HOwn.out.alloc (.cells #[.int .i64 t, .int .i64 k, .bool d] 47))
        have HBL := hid (hbel.alloc hbel.size (.cells #[.int .i64 t, .int .i64 k, .bool d] 47))
        clear hbx hbel HOwn HPW hx0 hx1
        cases d
        · have HN := hid (tx_succ (by rw [HL.out]; exact hlt) HEJ.out HXY.out.1 HXY.out.2 (show (if false then (43 : UInt8) else 45) = 45 from rfl))
          have s1 : ¬ ((st X).size + (ByteArray.mk #[45]).size > 9223372036854775807) := by rw [st_size]; have : (ByteArray.mk #[45]).size = 1 := rfl; omega
          have s3 : ¬ ((st X).size + (ByteArray.mk #[45]).size + (st Y).size > 9223372036854775807) := by rw [st_size, st_size]; have : (ByteArray.mk #[45]).size = 1 := rfl; omega
          have s5 : ¬ (9223372036854775807 < (st X).size + 1) := by rw [st_size]; omega
          have s6 : ¬ (9223372036854775807 < (st X).size + 1 + (st Y).size) := by rw [st_size, st_size]; omega
          go_upto_region 10 with (fail)
          have hne : (Value.slice A0 j c).ownBlock ≠ some wr.heap.size := own_blk_ne HOX.out (Blk.new wr 47 #[.int .i64 t, .int .i64 k, .bool false]) (by decide)
          generalize wr.alloc (.cells #[.int .i64 t, .int .i64 k, .bool false] 47) = WB at *
          generalize wr.heap.size = B at *
          have hz4 : 0 < 1 := by omega
          have hwb := Below.refl WB.heap.size WB
          have hbl := HBL.out
          have HR0 := hid r0
          have HR1 := hid r1
          have HNE := hid (Ne.symm hne)
          clear hne
          have hz1 : j + 1 ≤ maxLen := by unfold maxLen; omega
          have hz2 : (j + 1) * 16 ≤ 140737488355328 := by omega
          have h2 : ∀ u ∈ [sV (st X ++ ByteArray.mk #[45] ++ st Y)], u.oneCell' = true := by intro u hu; simp at hu; subst hu; rfl
          go_region_held3 (fun w' => w'.cell? ⟨B, 0, none⟩ = some (.int .i64 t) ∧ w'.cell? ⟨B, 1, none⟩ = some (.int .i64 k) ∧ Below w.heap.size w w') (and_intros <;> first | assumption | (exact Below.drew (by assumption)) | (exact RdS.drew (by assumption)) | (simp (maxDischargeDepth := 20) [*]; done)) (first | (go_at_call 13; (with_reducible refine (HT.out _ (TabIs_below HPX.out (by first | assumption | (exact Below.drew (by assumption)) | (exact Below.drew (Below.refl _ _)) | (exact Below.refl _ _)))).mono ?_); rintro e w3 ⟨rfl, hb3⟩; have hq3 : Below WB.heap.size WB w3 := Below.step (a := WB) (by first | assumption | (exact Below.drew (by assumption)) | (exact Below.drew (Below.refl _ _)) | (exact Below.refl _ _)) hb3; have HQ3 := hid hq3; have hbl3 := Below.step hbl hq3; obtain ⟨hc3, hf3, hz3, hd3⟩ := bcell hb3; clear hb3) | (go_at_call 13; (with_reducible refine (HK.out _ (TabIs_below HPX.out (by first | assumption | (exact Below.drew (by assumption)) | (exact Below.drew (Below.refl _ _)) | (exact Below.refl _ _)))).mono ?_); rintro e w4 ⟨rfl, hb4⟩; have hq4 : Below WB.heap.size WB w4 := Below.step (a := WB) (by first | assumption | (exact Below.drew (by assumption)) | (exact Below.drew (Below.refl _ _)) | (exact Below.refl _ _)) hb4; have HQ4 := hid hq4; have hbl4 := Below.step hbl hq4; have hqa := hq4.alloc hq4.size (.cells #[sV (st X ++ ByteArray.mk #[45] ++ st Y)] 9); have hbla := Below.step hbl hqa; have ka0 := keep_cell HR0.out hqa; have ka1 := keep_cell HR1.out hqa; clear hqa; have HK0 := hid ka0; have HK1 := hid ka1; have HOD := hid ((ownsRow_below HOX.out hq4).alloc (.cells #[sV (st X ++ ByteArray.mk #[45] ++ st Y)] 9)); have HRD := hid (reads_new w4 #[sV (st X ++ ByteArray.mk #[45] ++ st Y)] 9 (size := 1) (n := 1) rfl); have hz5 : w.heap.size ≤ ((w4.alloc (.cells #[sV (st X ++ ByteArray.mk #[45] ++ st Y)] 9))).heap.size := (by have := hq4.size; have := HBL.out.size; simp; omega); obtain ⟨hc4, hf4, hz6, hd4⟩ := bcell hb4; clear hb4) | (refine step_append_any _ rfl (.tmp 18) (.tmp 28) 57 rfl w.heap.size 9 i0 (.string ByteArray.empty) 1 16 Tryd.underlying57 HI0.out.1 HI0.out.2.1 HI0.out.2.2.1 HI0.out.2.2.2 rfl hz4 (.slice A0 j c) j ((tx (l.take j)).map sV) rfl HOD.out (w4.heap.size + 1) (some ⟨w4.heap.size, 0, none⟩) 1 1 [sV (st X ++ ByteArray.mk #[45] ++ st Y)] rfl HRD.out h2 hz1 hz2 hz5 ?_); intro v' w2 hown1 hg1 hat1; obtain ⟨A', c', rfl⟩ := ownsRow_form hown1; have hb2 := below_app (Below.step HBL.out HQ4.out) (ownsRow_below HOX.out HQ4.out) (Nat.le_refl _) hg1; have HOw2 := hid hown1; have kb0 := hg1.cell HK0.out HNE.out; have kb1 := hg1.cell HK1.out HNE.out; clear hown1 hg1 hat1)
          all_goals
            go_wp2
            go_roundw
            case rel => exact ⟨j + 1, A', c', by omega, by go_num, rfl, by have h3 := HOw2.out; rw [HN.out] at h3; exact h3, hb2⟩
            case measure => simp [intOf]; omega
        · have HN := hid (tx_succ (by rw [HL.out]; exact hlt) HEJ.out HXY.out.1 HXY.out.2 (show (if true then (43 : UInt8) else 45) = 43 from rfl))
          have s1 : ¬ ((st X).size + (ByteArray.mk #[43]).size > 9223372036854775807) := by rw [st_size]; have : (ByteArray.mk #[43]).size = 1 := rfl; omega
          have s3 : ¬ ((st X).size + (ByteArray.mk #[43]).size + (st Y).size > 9223372036854775807) := by rw [st_size, st_size]; have : (ByteArray.mk #[43]).size = 1 := rfl; omega
          have s5 : ¬ (9223372036854775807 < (st X).size + 1) := by rw [st_size]; omega
          have s6 : ¬ (9223372036854775807 < (st X).size + 1 + (st Y).size) := by rw [st_size, st_size]; omega
          go_upto_region 10 with (fail)
          have hne : (Value.slice A0 j c).ownBlock ≠ some wr.heap.size := own_blk_ne HOX.out (Blk.new wr 47 #[.int .i64 t, .int .i64 k, .bool true]) (by decide)
          generalize wr.alloc (.cells #[.int .i64 t, .int .i64 k, .bool true] 47) = WB at *
          generalize wr.heap.size = B at *
          have hz4 : 0 < 1 := by omega
          have hwb := Below.refl WB.heap.size WB
          have hbl := HBL.out
          have HR0 := hid r0
          have HR1 := hid r1
          have HNE := hid (Ne.symm hne)
          clear hne
          have hz1 : j + 1 ≤ maxLen := by unfold maxLen; omega
          have hz2 : (j + 1) * 16 ≤ 140737488355328 := by omega
          have h2 : ∀ u ∈ [sV (st X ++ ByteArray.mk #[43] ++ st Y)], u.oneCell' = true := by intro u hu; simp at hu; subst hu; rfl
          go_region_held3 (fun w' => w'.cell? ⟨B, 0, none⟩ = some (.int .i64 t) ∧ w'.cell? ⟨B, 1, none⟩ = some (.int .i64 k) ∧ Below w.heap.size w w') (and_intros <;> first | assumption | (exact Below.drew (by assumption)) | (exact RdS.drew (by assumption)) | (simp (maxDischargeDepth := 20) [*]; done)) (first | (go_at_call 13; (with_reducible refine (HT.out _ (TabIs_below HPX.out (by first | assumption | (exact Below.drew (by assumption)) | (exact Below.drew (Below.refl _ _)) | (exact Below.refl _ _)))).mono ?_); rintro e w3 ⟨rfl, hb3⟩; have hq3 : Below WB.heap.size WB w3 := Below.step (a := WB) (by first | assumption | (exact Below.drew (by assumption)) | (exact Below.drew (Below.refl _ _)) | (exact Below.refl _ _)) hb3; have HQ3 := hid hq3; have hbl3 := Below.step hbl hq3; obtain ⟨hc3, hf3, hz3, hd3⟩ := bcell hb3; clear hb3) | (go_at_call 13; (with_reducible refine (HK.out _ (TabIs_below HPX.out (by first | assumption | (exact Below.drew (by assumption)) | (exact Below.drew (Below.refl _ _)) | (exact Below.refl _ _)))).mono ?_); rintro e w4 ⟨rfl, hb4⟩; have hq4 : Below WB.heap.size WB w4 := Below.step (a := WB) (by first | assumption | (exact Below.drew (by assumption)) | (exact Below.drew (Below.refl _ _)) | (exact Below.refl _ _)) hb4; have HQ4 := hid hq4; have hbl4 := Below.step hbl hq4; have hqa := hq4.alloc hq4.size (.cells #[sV (st X ++ ByteArray.mk #[43] ++ st Y)] 9); have hbla := Below.step hbl hqa; have ka0 := keep_cell HR0.out hqa; have ka1 := keep_cell HR1.out hqa; clear hqa; have HK0 := hid ka0; have HK1 := hid ka1; have HOD := hid ((ownsRow_below HOX.out hq4).alloc (.cells #[sV (st X ++ ByteArray.mk #[43] ++ st Y)] 9)); have HRD := hid (reads_new w4 #[sV (st X ++ ByteArray.mk #[43] ++ st Y)] 9 (size := 1) (n := 1) rfl); have hz5 : w.heap.size ≤ ((w4.alloc (.cells #[sV (st X ++ ByteArray.mk #[43] ++ st Y)] 9))).heap.size := (by have := hq4.size; have := HBL.out.size; simp; omega); obtain ⟨hc4, hf4, hz6, hd4⟩ := bcell hb4; clear hb4) | (refine step_append_any _ rfl (.tmp 18) (.tmp 28) 57 rfl w.heap.size 9 i0 (.string ByteArray.empty) 1 16 Tryd.underlying57 HI0.out.1 HI0.out.2.1 HI0.out.2.2.1 HI0.out.2.2.2 rfl hz4 (.slice A0 j c) j ((tx (l.take j)).map sV) rfl HOD.out (w4.heap.size + 1) (some ⟨w4.heap.size, 0, none⟩) 1 1 [sV (st X ++ ByteArray.mk #[43] ++ st Y)] rfl HRD.out h2 hz1 hz2 hz5 ?_); intro v' w2 hown1 hg1 hat1; obtain ⟨A', c', rfl⟩ := ownsRow_form hown1; have hb2 := below_app (Below.step HBL.out HQ4.out) (ownsRow_below HOX.out HQ4.out) (Nat.le_refl _) hg1; have HOw2 := hid hown1; have kb0 := hg1.cell HK0.out HNE.out; have kb1 := hg1.cell HK1.out HNE.out; clear hown1 hg1 hat1)
          all_goals
            go_wp2
            go_roundw
            case rel => exact ⟨j + 1, A', c', by omega, by go_num, rfl, by have h3 := HOw2.out; rw [HN.out] at h3; exact h3, hb2⟩
            case measure => simp [intOf]; omega
      · obtain rfl : j = n := by omega
        have hs := sumT_tx HEV.out j (by rw [HL.out]; exact Nat.le_refl _)
        have hq : l.take j = l := by rw [← HL.out, List.take_length]
        rw [hq] at hown
        have HJ := hid (iJoinText_any (cap := c) (w := wr) (base := w.heap.size) (A := A0) (n := j) (xs := tx l) ⟨by rw [tx_len]; exact HL.out, hown⟩ (ByteArray.mk #[32]) (by rw [show (ByteArray.mk #[32]).size = 1 from rfl]; omega) (by omega))
        have HBL := hid hbel
        clear hown hq hs hbel
        go_wp2_with fail
        refine HJ.out.mono ?_
        rintro e w9 ⟨rfl, hb9⟩
        go_wp2
        go_ret
        exact ⟨rfl, Below.step HBL.out hb9⟩
end Go.Proofs.YtpfocjdhjkifmaaDoor
