/- The law that events are read from their texts, and all keys are up behind the ups that are missing. Conditions: the library's table as it is laid, ErrSyntax some error. -/
import Derived.Test.YtpfocjdhjkifmaaDoorEvZ
import Derived.Deep.DeepCutAuto
namespace Go.Proofs.YtpfocjdhjkifmaaDoor
open Go.RowKit
set_option linter.unusedVariables false

theorem feL_len {l : List EV.Ev} (h : EV.isEvs l = true) : (feL l).length ≤ 1048576 := by
  have hl := (EV.isEvs_fw h).1
  have hm : (tx l).map (fun s => s.data.toList) = l.map evT := by unfold tx; rw [List.map_map]; rfl
  have h1 := joT_len (tx l) (ByteArray.mk #[32]) l.length (by rw [tx_len]; exact Nat.le_refl _)
  have h2 := sumT_tx h l.length (Nat.le_refl _)
  have h3 := joT_all (tx l) (ByteArray.mk #[32])
  rw [tx_len, hm] at h3
  rw [h3, show (ByteArray.mk #[32]).size = 1 from rfl] at h1
  have h4 : feL l = Lib.join (l.map evT) (ByteArray.mk #[32]).data.toList := by unfold feL; rw [if_pos h]
  rw [h4]
  omega
theorem ra_facts {l : List EV.Ev} {y : Nat} {t : Int} (hd : EvDr l y 120) (hy : y < 64) (hl : l.length ≤ 12) (h0 : 0 ≤ t) (h1 : t ≤ 1000000) (hx : ∀ e ∈ l, e.time ≤ t) :
    raB l t = true ∧ raL l t = l ++ EV.evB y 0 t 32 ∧ (EV.evB y 0 t 32).length = cntB y 40 ∧ EV.heldAfter (l ++ EV.evB y 0 t 32) = 0 ∧ cntB y 40 ≤ 40 := by
  obtain ⟨e1, e2⟩ := evs_yes hd.fw (by omega)
  have h32 : y < 2 ^ 32 := Nat.lt_of_lt_of_le hy (by decide)
  have hm := EV.fw_evB hd.fw 0 t ⟨h0, h1⟩ hx 32 (Nat.le_refl _)
  rw [EV.mix_all h32 (by decide)] at hm
  have hln := EV.evB_length_le y 0 t 32
  obtain ⟨e3, e4⟩ := evs_yes hm (by rw [List.length_append]; omega)
  have hro : raO l t = l ++ EV.evB y 0 t 32 := by unfold raO; rw [e2]
  have hlast : (decide (l.length = 0) || decide (lastT l ≤ t)) = true := by
    by_cases hz : l.length = 0
    · rw [decide_eq_true hz]; rfl
    · have hmem : l.getD (l.length - 1) evD ∈ l := by
        rw [List.getD_eq_getElem?_getD, List.getElem?_eq_getElem (by omega)]; exact List.getElem_mem _
      have := hx _ hmem
      rw [decide_eq_true (show lastT l ≤ t from this), Bool.or_true]
  have hb : raB l t = true := by
    unfold raB
    rw [e1, hro, e3, hlast, decide_eq_true h0, decide_eq_true h1]; rfl
  exact ⟨hb, by rw [ra_yes hb, hro], by rw [evB_cnt, cntB_high hy 32 (by omega), cntB_high hy 40 (by omega)], e4, cntB_le y 40⟩
theorem RdE.pre {w : World} {A : Option Addr} {n m : Nat} {l M : List EV.Ev} (h : RdE w A (n + m) (l ++ M)) (hl : l.length = n) : RdE w A n l := by
  refine ⟨hl, by rw [evCs_length, hl], fun hn => ?_⟩
  obtain ⟨ad, e, hb, hc⟩ := h.2.2 (by omega)
  refine ⟨ad, e, hb, fun j u hu => hc j u ?_⟩
  rw [evCs_append, List.getElem?_append_left (List.getElem?_eq_some_iff.1 hu).1]
  exact hu
theorem own_cap {w : World} {base size n c : Nat} {e : TypeId} {A : Option Addr} {xs : List Value} (h : w.ownsRow base e size (.slice A n c) n xs) : n ≤ c := by
  rcases h.2 with ⟨h1, h2⟩ | ⟨g, cap, cur, h1, _, _, h3, _⟩
  · cases h1; omega
  · cases h1; exact h3
/-- The last of right events is the latest. -/
theorem evs_mono {l : List EV.Ev} : ∀ (k y : Nat), k ≤ l.length → EV.fw l k = some y → ∀ i j, i ≤ j → j < k → (l.getD i evD).time ≤ (l.getD j evD).time
  | 0, _, _, _, i, j, _, hj => by omega
  | k + 1, y, hk, h, i, j, hij, hj => by
    rw [EV.fw] at h
    split at h
    · cases h
    · rename_i d hd
      by_cases hg : EV.good l k d = true
      · have ih := evs_mono k d (by omega) hd
        by_cases hjk : j < k
        · exact ih i j hij hjk
        · obtain rfl : j = k := by omega
          by_cases hi : i = j
          · subst hi; exact Int.le_refl _
          · unfold EV.good at hg
            simp only [Bool.and_eq_true, Bool.or_eq_true, decide_eq_true_eq] at hg
            rcases hg.1.2 with h0 | h0
            · omega
            · have h2 := ih i (j - 1) (by omega) (by omega)
              exact Int.le_trans h2 h0
      · rw [if_neg hg] at h; cases h
theorem evs_last {l : List EV.Ev} {y : Nat} (h : EV.fw l l.length = some y) (hl : 0 < l.length) : ∀ e ∈ l, e.time ≤ (l.getD (l.length - 1) evD).time := by
  intro e he
  obtain ⟨i, hi, e1⟩ := List.getElem_of_mem he
  have := evs_mono l.length y (Nat.le_refl _) h i (l.length - 1) (by omega) (by omega)
  rw [List.getD_eq_getElem?_getD (l := l) (i := i), List.getElem?_eq_getElem hi, Option.getD_some, e1] at this
  exact this
set_option maxRecDepth 100000 in
set_option maxHeartbeats 4000000 in
theorem walk_FnEventTexts {w : World} (A : Option Addr) (n cap : Nat) (bs : List Int) (hin : InBytes w A n bs) (hp : Pow10 w) (he : ErrS w) :
    Calls Tryd.prog 9 #[.slice A n cap] w fun e w' => e = .returned (.bool true) ∧ Below w.heap.size w w' := by
  by_cases hbig : n ≤ 1048576
  · have HG := hid (big_no (A := A) (cap := cap) (show ¬ 1048576 < n by omega))
    have HCD := hid (hin.code hbig)
    have HP := hid hp
    have HE := hid he
    clear hin hp he hbig
    go_enter Tryd.func9, Tryd.ntmps9
    go_wp2_with (go_at_call 28; (with_reducible refine (HG.out _).mono ?_); rintro e w' ⟨rfl, rfl⟩)
    refine (MakeEvents_any HCD.out).mono ?_
    rintro e w1 ⟨l, y, A1, c1, hd, hy, hl, rfl, hr1, hb1⟩
    obtain ⟨e1, e2⟩ := evs_yes hd.fw (by omega)
    have HD := hid hd
    have HR1 := hid hr1
    have HB1 := hid hb1
    have HH := hid e2
    have HEV := hid e1
    have hFE := iFormatEvents_any (cap := c1) HR1.out (by unfold maxLen; omega) (TabIs_below HP.out HB1.out)
    have HFE := hid hFE
    have HPE := hid (fun (W : World) (hp : Pow10 W) (he : ErrS W) => show Calls Tryd.prog 30 #[.string (st (feL l))] W (MadeE2 W l true) from by
      have h := iParseEvents_any hp he (st (feL l)) (by rw [st_size]; exact feL_len HEV.out)
      rw [show (st (feL l)).data.toList = feL l from rfl, peL_feL HEV.out] at h
      exact h)
    obtain ⟨N, hN⟩ : ∃ N, l.length = N := ⟨_, rfl⟩
    have hRA := fun (t : Int) (h0 : 0 ≤ t) (h1 : t ≤ 1000000) (hx : ∀ e ∈ l, e.time ≤ t) => ra_facts hd hy hl h0 h1 hx
    unfold MadeE2 at HPE
    rw [hN] at HR1 HFE HPE hl ⊢
    have HN := hid hN
    have HRA := hid hRA
    clear hd hr1 hb1 e1 e2 hFE hN hRA
    go_upto_if 21 with (first | (go_at_call 21; (with_reducible refine HFE.out.mono ?_); rintro e w2 ⟨rfl, hb2⟩; have HB2 := hid (Below.step HB1.out hb2); have HR2 := hid (HR1.out.below hb2); clear hb2) | (go_at_call 30; (with_reducible refine (HPE.out _ (TabIs_below HP.out HB2.out) (HE.out.below HB2.out)).mono ?_); rintro e w3 ⟨A3, c3, rfl, ho3, hb3⟩; have HX3 := hid ho3.rd; have HB3 := hid (Below.step HB2.out hb3); have HR3 := hid (HR2.out.below hb3); clear ho3 hb3))
    go_cut [6] (fun s6 wx => ∃ t : Int, s6 = .int .i64 t ∧ 0 ≤ t ∧ t ≤ 1000000 ∧ (∀ e ∈ l, e.time ≤ t) ∧ Below w3.heap.size w3 wx)
    case first =>
      by_cases hz : N = 0
      · have hN0 : ¬ (0 : Int) < (N : Int) := by omega
        have HZ := hid hz
        clear hz
        go_wp2_with fail
        go_meet
        exact ⟨0, rfl, by omega, by omega, fun e he => (by rw [List.eq_nil_of_length_eq_zero (HN.out.trans HZ.out)] at he; cases he), Below.refl _ _⟩
      · obtain ⟨p, hpz⟩ : ∃ p, N = p + 1 := ⟨N - 1, by omega⟩
        obtain ⟨ad, hA1, p0, p1, p2, hab⟩ := HR3.out.at3 (show p < N by omega)
        subst hA1
        obtain ⟨ev, hev⟩ : ∃ ev, l.getD p evD = ev := ⟨_, rfl⟩
        rw [hev] at p0
        have hmem : ev ∈ l := by
          rw [← hev, List.getD_eq_getElem?_getD, List.getElem?_eq_getElem (by rw [HN.out]; omega)]; exact List.getElem_mem _
        have hti := HD.out.time ev hmem
        have hall : ∀ e ∈ l, e.time ≤ ev.time := by
          intro e hme
          have := evs_last HD.out.fw (by rw [HN.out]; omega) e hme
          rw [show l.length - 1 = p by rw [HN.out]; omega, hev] at this
          exact this
        obtain ⟨tl, htl⟩ : ∃ tl, ev.time = tl := ⟨_, rfl⟩
        rw [htl] at p0 hti hall
        have hN0 : (0 : Int) < (N : Int) := by omega
        have hjp : (N : Int) - 1 = (p : Int) := by omega
        have hp0 : (0 : Int) ≤ (p : Int) := by omega
        have hpn : (p : Int) < (N : Int) := by omega
        have HALL := hid hall
        have HCD3 := hid (show Code w3 w3.heap.size A n bs from (HCD.out.below HB3.out).more HB3.out.size)
        have hw3 := Below.refl w3.heap.size w3
        have HP0 := hid p0
        have hwr : IntKind.i64.wrap ((N : Int) - 1) = (p : Int) := by rw [hjp]; exact IntWalk.i64_in _ ⟨by omega, by omega⟩
        have HPZ := hid hpz
        clear p1 p2 hev hmem htl hall hpz hz hjp
        go_wp2_with fail
        go_region_held3 (fun w' => w'.cell? (ad.add (p * 3)) = some (.int .i64 tl) ∧ Below w3.heap.size w3 w') (and_intros <;> first | (with_reducible assumption) | assumption | (exact Below.drew (by assumption)) | (simp [*]; done)) ((go_at_call 31; (with_reducible refine (MakeNumber_any ((HCD3.out.below (B := w3.heap.size) (by first | assumption | (exact Below.drew (by assumption)) | (exact Below.drew (Below.refl _ _)) | (exact Below.refl _ _))).more (Below.size (B := w3.heap.size) (w := w3) (by first | assumption | (exact Below.drew (by assumption)) | (exact Below.drew (Below.refl _ _)) | (exact Below.refl _ _))))).mono ?_); rintro e w4 ⟨x, ⟨x0, x1⟩, rfl, hb4⟩; have hb44 : Below w3.heap.size w3 w4 := Below.step (a := w3) (by first | assumption | (exact Below.drew (by assumption)) | (exact Below.drew (Below.refl _ _)) | (exact Below.refl _ _)) hb4; have HB4 := hid hb44; have hsum : IntKind.i64.wrap (tl + x) = tl + x := IntWalk.i64_in _ ⟨by omega, by omega⟩; have k4 := keep_cell HP0.out hb44; clear hb4))
        all_goals
          go_wp2
          go_meet
          exact ⟨tl + x, rfl, by omega, by omega, fun e he => by have := HALL.out e he; omega, HB4.out⟩
    case rest =>
      obtain ⟨t, rfl, ht0, ht1, hx, hbx⟩ := hcut
      obtain ⟨ra1, ra2, ra3, ra4, ra5⟩ := HRA.out t ht0 ht1 hx
      obtain ⟨C, hC⟩ : ∃ C, cntB y 40 = C := ⟨_, rfl⟩
      obtain ⟨M, hM⟩ : ∃ M, EV.evB y 0 t 32 = M := ⟨_, rfl⟩
      obtain ⟨K, hK⟩ : ∃ K, (l ++ M).length = K := ⟨_, rfl⟩
      rw [hM] at ra2 ra3 ra4
      have hKN : K = N + C := by rw [← hK, List.length_append, HN.out, ra3, hC]
      have HBc := hid (Below.step HB3.out hbx)
      have HRc := hid (HR3.out.below hbx)
      have HXc := hid (HX3.out.below hbx)
      have hrl := iReleaseAll_any (cap := c1) HRc.out (by omega) t
      rw [ra1, ra2] at hrl
      unfold MadeE2 at hrl
      rw [hK] at hrl
      have HRL := hid hrl
      have HCT := hid (fun (W : World) => (by have h := count_any y hy W; rw [hC] at h; exact h : Calls Tryd.prog 35 #[.int .i64 y] W fun e w' => e = .returned (.int .i64 C) ∧ W = w'))
      have HHL := hid (fun (W : World) (h : RdE W A1 N l) => (by have h2 := iHeldAfter_any (cap := c1) h (by unfold maxLen; omega); rw [HH.out] at h2; exact h2 : Calls Tryd.prog 34 #[.slice A1 N c1] W fun e w' => e = .returned (.int .i64 (y : Nat)) ∧ Below W.heap.size W w'))
      have HHY := hid (fun (W : World) (A5 : Option Addr) (c5 : Nat) (h : RdE W A5 K (l ++ M)) => (by have h2 := iHeldAfter_any (cap := c5) h (by unfold maxLen; omega); rw [ra4] at h2; exact h2 : Calls Tryd.prog 34 #[.slice A5 K c5] W fun e w' => e = .returned (.int .i64 0) ∧ Below W.heap.size W w'))
      have HSE := hid (fun (W : World) (A B : Option Addr) (c d : Nat) (h : RdE W A N l) (h' : RdE W B N l) => sameEvents_same (c := c) (d := d) h h' (by omega))
      have HPR := hid (fun (W : World) (A5 : Option Addr) (h : RdE W A5 K (l ++ M)) => RdE.pre (n := N) (m := C) (by rw [← hKN]; exact h) HN.out)
      have hC40 : C ≤ 40 := by omega
      have hke : ((K : Int) == (N : Int) + (C : Int)) = true := by rw [beq_iff_eq]; omega
      have HKN := hid hKN
      clear ra1 ra2 ra3 ra4 ra5 hx hbx hC hM hK hKN hrl HRA HCD HFE HPE HR1 HR3 HX3
      go_wp2_with (first | (go_at_call 32; (with_reducible refine HRL.out.mono ?_); rintro e w5 ⟨A5, c5, rfl, ho5, hb5⟩; have HY5 := hid ho5.rd; have HB5 := hid (Below.step HBc.out hb5); have HR5 := hid (HRc.out.below hb5); have HX5 := hid (HXc.out.below hb5); have hcap := own_cap ho5.2; have hNc : (N : Int) ≤ (c5 : Int) := (by have := HKN.out; omega); clear ho5 hb5) | (go_at_call 33; (with_reducible refine (HSE.out _ A3 A1 _ _ HX5.out HR5.out).mono ?_); rintro e w6 ⟨rfl, hb6⟩; have HB6 := hid (Below.step HB5.out hb6); have HR6 := hid (HR5.out.below hb6); have HY6 := hid (HY5.out.below hb6); clear hb6) | (go_at_call 34; (with_reducible refine (HHY.out _ A5 c5 HY6.out).mono ?_); rintro e w7 ⟨rfl, hb7⟩; have HB7 := hid (Below.step HB6.out hb7); have HR7 := hid (HR6.out.below hb7); have HY7 := hid (HY6.out.below hb7); clear hb7) | (go_at_call 34; (with_reducible refine (HHL.out _ HR7.out).mono ?_); rintro e w8 ⟨rfl, hb8⟩; have HB8 := hid (Below.step HB7.out hb8); have HR8 := hid (HR7.out.below hb8); have HY8 := hid (HY7.out.below hb8); clear hb8) | (go_at_call 35; (with_reducible refine (HCT.out _).mono ?_); rintro e w' ⟨rfl, rfl⟩) | (go_at_call 33; (with_reducible refine (HSE.out _ A5 A1 _ _ (HPR.out _ _ HY8.out) HR8.out).mono ?_); rintro e w9 ⟨rfl, hb9⟩; have HB9 := hid (Below.step HB8.out hb9); clear hb9))
      go_ret
      exact ⟨rfl, HB9.out⟩
  · have HG := hid (big_yes (A := A) (cap := cap) (show 1048576 < n by omega))
    clear hin hp he
    go_enter Tryd.func9, Tryd.ntmps9
    go_wp2_with (go_at_call 28; (with_reducible refine (HG.out _).mono ?_); rintro e w' ⟨rfl, rfl⟩)
    go_ret
    exact ⟨rfl, Below.refl _ _⟩
end Go.Proofs.YtpfocjdhjkifmaaDoor
