/- Events written as texts: by contract in the reference. Conditions: none. -/
import Derived.Test.YtpfocjdhjkifmaaDoorEvT
namespace Go.Proofs.YtpfocjdhjkifmaaDoor
open Go.RowKit
set_option linter.unusedVariables false

theorem join_nil0 : st (Lib.join (([] : List ByteArray).map (fun s => s.data.toList)) (ByteArray.mk #[32]).data.toList) = st [] := rfl
set_option maxRecDepth 100000 in
set_option maxHeartbeats 1000000 in
theorem sFormatEvents_any {w : World} {A : Option Addr} {n cap : Nat} {l : List EV.Ev} (h : RdE w A n l) (hmx : n ≤ maxLen) :
    Calls Tryd.prog 19 #[.slice A n cap] w fun e w' => e = .returned (.string (st (feL l))) ∧ Below w.heap.size w w' := by
  have hl := h.1
  have HE := hid (fun (W : World) (hr : RdE W A n l) => sIsEvents_any (cap := cap) hr hmx)
  have HR := hid h
  have HL := hid hl
  clear h hl
  cases hev : EV.isEvs l
  · have e : feL l = [] := by unfold feL; rw [hev]; rfl
    have hn0 : (0 : Int) < (n : Int) := by
      rcases Nat.eq_zero_or_pos n with h0 | h0
      · have hl0 : l = [] := List.eq_nil_of_length_eq_zero (by rw [HL.out, h0])
        rw [hl0] at hev; cases hev
      · omega
    rw [e]
    rw [hev] at HE
    clear e hev
    go_enter Tryd.func19, Tryd.ntmps19
    go_wp2_with fail
    go_loopw [3, 4, 5] (fun o i _ wr => i = .int .i64 0 ∧ (∃ A', o = .slice A' 0 0 ∧ wr.ownsRow w.heap.size 9 1 (.slice A' 0 0) 0 []) ∧ Below w.heap.size w wr) (fun _ _ _ _ => 0)
    case atStart => exact ⟨rfl, ⟨_, rfl, own_litG w _ 1⟩, (Below.refl _ _).alloc (Nat.le_refl _) _⟩
    case round =>
      obtain ⟨rfl, ⟨A', rfl, hown⟩, hbel⟩ := hrel
      have HBL := hid hbel
      have HOwn := hid hown
      clear hown hbel
      go_wp2_with (go_at_call 46; (with_reducible refine (HE.out _ (HR.out.below HBL.out)).mono ?_); rintro e w5 ⟨rfl, hb5⟩; have HB5 := hid hb5; clear hb5)
      have hj := sJoinText_any (cap := 0) (w := w5) (A := A') (n := 0) (xs := []) (RdG.nil_ _ _ _) (ByteArray.mk #[32]) (by rw [show (ByteArray.mk #[32]).size = 1 from rfl]; unfold sumT; simp) (by rw [show (ByteArray.mk #[32]).size = 1 from rfl]; omega) (by omega)
      rw [join_nil0] at hj
      have HJ := hid hj
      clear hj
      go_wp2_with fail
      refine HJ.out.mono ?_
      rintro e w9 ⟨rfl, hb9⟩
      go_wp2
      go_ret
      exact ⟨rfl, Below.step (Below.step HBL.out HB5.out) hb9⟩
  · have e : feL l = Lib.join (l.map evT) [32] := by unfold feL; rw [hev]; rfl
    rw [e, ← join_tx]
    rw [hev] at HE
    have HEV := hid hev
    clear e hev
    obtain ⟨i0, hi, hz0, hz1, hz2⟩ := info_parts string_info
    have HI0 := hid (And.intro hi (And.intro hz0 (And.intro hz1 hz2))); clear hi hz0 hz1 hz2
    have hn64 : n ≤ 64 := by have := (EV.isEvs_fw HEV.out).1; have := HL.out; omega
    go_enter Tryd.func19, Tryd.ntmps19
    go_wp2_with fail
    go_loopw [3, 4, 5] (fun o i _ wr => ∃ (j : Nat) (A' : Option Addr) (c' : Nat), j ≤ n ∧ i = .int .i64 j ∧ o = .slice A' j c' ∧
      wr.ownsRow w.heap.size 9 1 (.slice A' j c') j ((tx (l.take j)).map sV) ∧ Below w.heap.size w wr) (fun _ i _ _ => n - (intOf i).toNat)
    case atStart => exact ⟨0, _, 0, Nat.zero_le _, rfl, rfl, own_litG w _ 1, (Below.refl _ _).alloc (Nat.le_refl _) _⟩
    case round =>
      obtain ⟨j, A0, c, hj, rfl, rfl, hown, hbel⟩ := hrel
      by_cases hlt : j < n
      · obtain ⟨ad, rfl, p0, p1, p2, hab⟩ := HR.out.at3 hlt
        obtain ⟨ev, hevj⟩ : ∃ ev, l.getD j evD = ev := ⟨_, rfl⟩
        rw [hevj] at p0 p1 p2
        have HEJ := hid hevj
        have HOwn := hid hown
        clear hevj hown
        obtain ⟨t, k, d⟩ := ev
        simp only at p0 p1 p2
        have hlt2 : (j : Int) < (n : Int) := by omega
        obtain ⟨hx0, hx1⟩ := evs_rng HEV.out (by rw [HL.out]; exact hlt) HEJ.out
        have HT := hid (fun (W : World) => sFormatInt_any (w := W) t hx0.1 hx0.2)
        have HK := hid (fun (W : World) => sFormatInt_any (w := W) k hx1.1 hx1.2)
        have g1 := Lib.itoa_length_le t hx0.1 hx0.2
        have g2 := Lib.itoa_length_le k hx1.1 hx1.2
        obtain ⟨X, hX⟩ : ∃ X, Lib.itoa t = X := ⟨_, rfl⟩
        obtain ⟨Y, hY⟩ : ∃ Y, Lib.itoa k = Y := ⟨_, rfl⟩
        rw [hX] at HT g1
        rw [hY] at HK g2
        have HXY := hid (And.intro hX hY)
        have P0 := hid p0
        have P1 := hid p1
        have P2 := hid p2
        have HBL := hid hbel
        clear hX hY p0 p1 p2 hbel hx0 hx1
        cases d
        · have HN := hid (tx_succ (by rw [HL.out]; exact hlt) HEJ.out HXY.out.1 HXY.out.2 (show (if false then (43 : UInt8) else 45) = 45 from rfl))
          have s1 : ¬ ((st X).size + (ByteArray.mk #[45]).size > 9223372036854775807) := by rw [st_size]; have : (ByteArray.mk #[45]).size = 1 := rfl; omega
          have s3 : ¬ ((st X).size + (ByteArray.mk #[45]).size + (st Y).size > 9223372036854775807) := by rw [st_size, st_size]; have : (ByteArray.mk #[45]).size = 1 := rfl; omega
          have s5 : ¬ (9223372036854775807 < (st X).size + 1) := by rw [st_size]; omega
          have s6 : ¬ (9223372036854775807 < (st X).size + 1 + (st Y).size) := by rw [st_size, st_size]; omega
          go_upto_region 3 with (fail)
          go_wp2_with (go_at_call 46; (with_reducible refine (HE.out _ (HR.out.below HBL.out)).mono ?_); rintro e w5 ⟨rfl, hb5⟩; have HB5 := hid hb5; clear hb5; have hbl := Below.step HBL.out HB5.out; have HBl := hid hbl; have HOX := hid (ownsRow_below HOwn.out HB5.out); have p0 := keep_cell P0.out hbl; have p1 := keep_cell P1.out hbl; have p2 := keep_cell P2.out hbl)
          have hz4 : 0 < 1 := by omega
          have hwb := Below.refl w5.heap.size w5
          have hz1 : j + 1 ≤ maxLen := by unfold maxLen; omega
          have hz2 : (j + 1) * 16 ≤ 140737488355328 := by omega
          have h2 : ∀ u ∈ [sV (st X ++ ByteArray.mk #[45] ++ st Y)], u.oneCell' = true := by intro u hu; simp at hu; subst hu; rfl
          go_region_held3 (fun w' => w'.cell? (ad.add (j * 3)) = some (.int .i64 t) ∧ w'.cell? ⟨(ad.add (j * 3)).block, (ad.add (j * 3)).off + 1, none⟩ = some (.int .i64 k) ∧ Below w.heap.size w w') (and_intros <;> first | assumption | (exact Below.drew (by assumption)) | (exact RdS.drew (by assumption)) | (simp (maxDischargeDepth := 20) [*]; done)) (first | (go_at_call 12; (with_reducible refine (HT.out _).mono ?_); rintro e w3 ⟨rfl, hb3⟩; have hq3 : Below w5.heap.size w5 w3 := Below.step (a := w5) (by first | assumption | (exact Below.drew (by assumption)) | (exact Below.drew (Below.refl _ _)) | (exact Below.refl _ _)) hb3; have HQ3 := hid hq3; have hbl3 := Below.step hbl hq3; have c30 := keep_cell P0.out hbl3; have c31 := keep_cell P1.out hbl3; clear hb3) | (go_at_call 12; (with_reducible refine (HK.out _).mono ?_); rintro e w4 ⟨rfl, hb4⟩; have hq4 : Below w5.heap.size w5 w4 := Below.step (a := w5) (by first | assumption | (exact Below.drew (by assumption)) | (exact Below.drew (Below.refl _ _)) | (exact Below.refl _ _)) hb4; have HQ4 := hid hq4; have hbl4 := Below.step hbl hq4; have hqa := hq4.alloc hq4.size (.cells #[sV (st X ++ ByteArray.mk #[45] ++ st Y)] 9); have hbla := Below.step hbl hqa; have c40 := keep_cell P0.out hbl4; have c41 := keep_cell P1.out hbl4; have ka0 := keep_cell P0.out hbla; have ka1 := keep_cell P1.out hbla; clear hqa; have HOD := hid ((ownsRow_below HOX.out hq4).alloc (.cells #[sV (st X ++ ByteArray.mk #[45] ++ st Y)] 9)); have HRD := hid (reads_new w4 #[sV (st X ++ ByteArray.mk #[45] ++ st Y)] 9 (size := 1) (n := 1) rfl); have hz5 : w.heap.size ≤ ((w4.alloc (.cells #[sV (st X ++ ByteArray.mk #[45] ++ st Y)] 9))).heap.size := (by have := hq4.size; have := HBl.out.size; simp; omega); clear hb4) | (refine step_append_any _ rfl (.tmp 22) (.tmp 38) 57 rfl w.heap.size 9 i0 (.string ByteArray.empty) 1 16 Tryd.underlying57 HI0.out.1 HI0.out.2.1 HI0.out.2.2.1 HI0.out.2.2.2 rfl hz4 (.slice A0 j c) j ((tx (l.take j)).map sV) rfl HOD.out (w4.heap.size + 1) (some ⟨w4.heap.size, 0, none⟩) 1 1 [sV (st X ++ ByteArray.mk #[45] ++ st Y)] rfl HRD.out h2 hz1 hz2 hz5 ?_); intro v' w2 hown1 hg1 hat1; obtain ⟨A', c', rfl⟩ := ownsRow_form hown1; have hb2 := below_app (Below.step HBl.out HQ4.out) (ownsRow_below HOX.out HQ4.out) (Nat.le_refl _) hg1; have HOw2 := hid hown1; have kb0 := keep_cell P0.out hb2; have kb1 := keep_cell P1.out hb2; clear hown1 hg1 hat1)
          all_goals
            go_wp2
            go_roundw
            case rel => exact ⟨j + 1, A', c', by omega, by go_num, rfl, by have h3 := HOw2.out; rw [HN.out] at h3; exact h3, hb2⟩
            case measure => simp [intOf]; omega
        · have HN := hid (tx_succ (by rw [HL.out]; exact hlt) HEJ.out HXY.out.1 HXY.out.2 (show (if true then (43 : UInt8) else 45) = 43 from rfl))
          have s1 : ¬ ((st X).size + (ByteArray.mk #[43]).size > 9223372036854775807) := by rw [st_size]; have : (ByteArray.mk #[43]).size = 1 := rfl; omega
          have s3 : ¬ ((st X).size + (ByteArray.mk #[43]).size + (st Y).size > 9223372036854775807) := by rw [st_size, st_size]; have : (ByteArray.mk #[43]).size = 1 := rfl; omega
          have s5 : ¬ (9223372036854775807 < (st X).size + 1) := by rw [st_size]; omega
          have s6 : ¬ (9223372036854775807 < (st X).size + 1 + (st Y).size) := by rw [st_size, st_size]; omega
          go_upto_region 3 with (fail)
          go_wp2_with (go_at_call 46; (with_reducible refine (HE.out _ (HR.out.below HBL.out)).mono ?_); rintro e w5 ⟨rfl, hb5⟩; have HB5 := hid hb5; clear hb5; have hbl := Below.step HBL.out HB5.out; have HBl := hid hbl; have HOX := hid (ownsRow_below HOwn.out HB5.out); have p0 := keep_cell P0.out hbl; have p1 := keep_cell P1.out hbl; have p2 := keep_cell P2.out hbl)
          have hz4 : 0 < 1 := by omega
          have hwb := Below.refl w5.heap.size w5
          have hz1 : j + 1 ≤ maxLen := by unfold maxLen; omega
          have hz2 : (j + 1) * 16 ≤ 140737488355328 := by omega
          have h2 : ∀ u ∈ [sV (st X ++ ByteArray.mk #[43] ++ st Y)], u.oneCell' = true := by intro u hu; simp at hu; subst hu; rfl
          go_region_held3 (fun w' => w'.cell? (ad.add (j * 3)) = some (.int .i64 t) ∧ w'.cell? ⟨(ad.add (j * 3)).block, (ad.add (j * 3)).off + 1, none⟩ = some (.int .i64 k) ∧ Below w.heap.size w w') (and_intros <;> first | assumption | (exact Below.drew (by assumption)) | (exact RdS.drew (by assumption)) | (simp (maxDischargeDepth := 20) [*]; done)) (first | (go_at_call 12; (with_reducible refine (HT.out _).mono ?_); rintro e w3 ⟨rfl, hb3⟩; have hq3 : Below w5.heap.size w5 w3 := Below.step (a := w5) (by first | assumption | (exact Below.drew (by assumption)) | (exact Below.drew (Below.refl _ _)) | (exact Below.refl _ _)) hb3; have HQ3 := hid hq3; have hbl3 := Below.step hbl hq3; have c30 := keep_cell P0.out hbl3; have c31 := keep_cell P1.out hbl3; clear hb3) | (go_at_call 12; (with_reducible refine (HK.out _).mono ?_); rintro e w4 ⟨rfl, hb4⟩; have hq4 : Below w5.heap.size w5 w4 := Below.step (a := w5) (by first | assumption | (exact Below.drew (by assumption)) | (exact Below.drew (Below.refl _ _)) | (exact Below.refl _ _)) hb4; have HQ4 := hid hq4; have hbl4 := Below.step hbl hq4; have hqa := hq4.alloc hq4.size (.cells #[sV (st X ++ ByteArray.mk #[43] ++ st Y)] 9); have hbla := Below.step hbl hqa; have c40 := keep_cell P0.out hbl4; have c41 := keep_cell P1.out hbl4; have ka0 := keep_cell P0.out hbla; have ka1 := keep_cell P1.out hbla; clear hqa; have HOD := hid ((ownsRow_below HOX.out hq4).alloc (.cells #[sV (st X ++ ByteArray.mk #[43] ++ st Y)] 9)); have HRD := hid (reads_new w4 #[sV (st X ++ ByteArray.mk #[43] ++ st Y)] 9 (size := 1) (n := 1) rfl); have hz5 : w.heap.size ≤ ((w4.alloc (.cells #[sV (st X ++ ByteArray.mk #[43] ++ st Y)] 9))).heap.size := (by have := hq4.size; have := HBl.out.size; simp; omega); clear hb4) | (refine step_append_any _ rfl (.tmp 22) (.tmp 38) 57 rfl w.heap.size 9 i0 (.string ByteArray.empty) 1 16 Tryd.underlying57 HI0.out.1 HI0.out.2.1 HI0.out.2.2.1 HI0.out.2.2.2 rfl hz4 (.slice A0 j c) j ((tx (l.take j)).map sV) rfl HOD.out (w4.heap.size + 1) (some ⟨w4.heap.size, 0, none⟩) 1 1 [sV (st X ++ ByteArray.mk #[43] ++ st Y)] rfl HRD.out h2 hz1 hz2 hz5 ?_); intro v' w2 hown1 hg1 hat1; obtain ⟨A', c', rfl⟩ := ownsRow_form hown1; have hb2 := below_app (Below.step HBl.out HQ4.out) (ownsRow_below HOX.out HQ4.out) (Nat.le_refl _) hg1; have HOw2 := hid hown1; have kb0 := keep_cell P0.out hb2; have kb1 := keep_cell P1.out hb2; clear hown1 hg1 hat1)
          all_goals
            go_wp2
            go_roundw
            case rel => exact ⟨j + 1, A', c', by omega, by go_num, rfl, by have h3 := HOw2.out; rw [HN.out] at h3; exact h3, hb2⟩
            case measure => simp [intOf]; omega
      · obtain rfl : j = n := by omega
        have hs := sumT_tx HEV.out j (by rw [HL.out]; exact Nat.le_refl _)
        have hq : l.take j = l := by rw [← HL.out, List.take_length]
        rw [hq] at hown
        have HJ := hid (sJoinText_any (cap := c) (w := wr) (A := A0) (n := j) (xs := tx l) (OwnG.rd (t := 9) (base := w.heap.size) (cap := c) ⟨by rw [tx_len]; exact HL.out, hown⟩) (ByteArray.mk #[32]) (by rw [show (ByteArray.mk #[32]).size = 1 from rfl]; omega) (by rw [show (ByteArray.mk #[32]).size = 1 from rfl]; omega) (by omega))
        have HBL := hid hbel
        clear hown hq hs hbel
        go_wp2_with fail
        refine HJ.out.mono ?_
        rintro e w9 ⟨rfl, hb9⟩
        go_wp2
        go_ret
        exact ⟨rfl, Below.step HBL.out hb9⟩
end Go.Proofs.YtpfocjdhjkifmaaDoor
