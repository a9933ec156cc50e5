/- Numbers read from texts: the reference, and the law. Conditions: as XPin's. -/
import Derived.Test.YtpfocjdhjkifmaaDoorPin
namespace Go.Proofs.YtpfocjdhjkifmaaDoor
open Go.RowKit
set_option linter.unusedVariables false

theorem dig_yes {b : UInt8} {c : Nat} (hb : b.toNat = c) (h : 48 ≤ c ∧ c ≤ 57) : Lib.digitVal b = some (c - 48) := by unfold Lib.digitVal; rw [hb, if_pos h]
theorem dig_no {b : UInt8} {c : Nat} (hb : b.toNat = c) (h : ¬ (48 ≤ c ∧ c ≤ 57)) : Lib.digitVal b = none := by unfold Lib.digitVal; rw [hb, if_neg h]
theorem bare_le (l : List UInt8) : (bare l).length ≤ l.length := by
  cases l with
  | nil => exact Nat.le_refl _
  | cons b r => rw [bare_cons]; split <;> simp
set_option maxRecDepth 100000 in
set_option maxHeartbeats 1000000 in
theorem sParseInt_any {w : World} (s : ByteArray) (hsz : s.size ≤ maxLen) : Calls Tryd.prog 23 #[.string s] w fun e w' => e = .returned (.tuple #[.int .i64 (piN s.data.toList), .bool (piB s.data.toList)]) ∧ Below w.heap.size w w' := by
  unfold maxLen at hsz
  have hL : s.data.toList.length = s.size := by rw [Array.length_toList]; rfl
  obtain ⟨l, hl⟩ : ∃ l, s.data.toList = l := ⟨_, rfl⟩
  rw [hl] at hL ⊢
  have hle := bare_le l
  have HS := hid hl
  have HF := hid (fun (n : Int) (h : -999999999 ≤ n ∧ n ≤ 999999999) (W : World) => sFormatInt_any (w := W) n (by omega) (by omega))
  obtain ⟨T, hT⟩ : ∃ T, bare l = T := ⟨_, rfl⟩
  have hbad := piO_bad (l := l)
  have hshort := piO_short (l := l)
  have hat := fun v => atoi_bare (l := l) (v := v)
  have hsm := fun v => sgn_small (l := l) (v := v)
  have hsg : ∀ v, sgn l v = if (bare l).length < l.length then -(v : Int) else (v : Int) := fun v => rfl
  rw [hT] at hbad hshort hat hsm hle hsg
  rcases (show l = [] ∨ (∃ r, l = 45 :: r) ∨ (∃ b r, l = b :: r ∧ b ≠ 45) by
    cases l with
    | nil => exact .inl rfl
    | cons b r =>
      by_cases hb : b = 45
      · exact .inr (.inl ⟨r, by rw [hb]⟩)
      · exact .inr (.inr ⟨b, r, rfl, hb⟩)) with h0 | ⟨r, hr⟩ | ⟨b, r, hr, hb⟩
  · have h1 : T = [] := by rw [← hT, h0]; rfl
    obtain ⟨h2, h3⟩ := pin_none (hshort (by rw [h1]; simp))
    rw [h2, h3]
    have hs0 : s.size = 0 := by rw [← hL, h0]; rfl
    have hs1 : ¬ (0 : Int) < (s.size : Int) := by omega
    have hs2 : (s.size : Int) < 1 := by omega
    clear hbad hshort hat hsm hsg hT hl hle h1 h2 h3 h0 hL hs0
    go_enter Tryd.func23, Tryd.ntmps23
    go_wp2
    go_ret2
    exact ⟨rfl, Below.refl _ _⟩
  · have h0 : 0 < s.size := by rw [← hL, hr]; simp
    have p1 : (0 : Int) < (s.size : Int) := by omega
    have p3 : (1 : Int) ≤ (s.size : Int) := by omega
    have hxx := bytes_get s 0 h0
    have hgg : s.data.toList[0]'(by rw [hl, hr]; simp) = 45 := by simp [hl, hr]
    rw [hgg] at hxx
    have hxx2 : (s[0]'h0).toNat = 45 := by rw [hxx]; rfl
    have hTr : T = r := by rw [← hT, hr]; rfl
    have hex : s.extract 1 s.size = st T := by
      rw [extract_st, hl, hr, List.drop_one, List.tail_cons, List.take_of_length_le (by rw [← hL, hr]; simp), hTr]
    have ht1 := st_size T
    obtain ⟨t, ht⟩ : ∃ t, st T = t := ⟨_, rfl⟩
    have ht2 : t.data.toList = T := by rw [← ht]; rfl
    rw [ht] at ht1 hex
    clear hxx hgg hTr hr ht
    by_cases h9 : 1 ≤ T.length ∧ T.length ≤ 9
    · have HBAD := hid hbad
      have HAT := hid (fun v => hat v h9.1)
      have HSM := hid (fun v => hsm v h9.2)
      have HSG := hid hsg
      have HT2 := hid ht2
      have HL := hid hl
      have k1 : ¬ (t.size : Int) < 1 := by omega
      have k2 : ¬ (9 : Int) < (t.size : Int) := by omega
      have HT1 := hid ht1
      have hTs : t.size ≤ 9 := by omega
      rw [hL] at hsg
      clear hbad hshort hat hsm hsg ht2 hT hl h9 hle
      go_enter Tryd.func23, Tryd.ntmps23
      go_wp2_with fail
      go_loopw [5, 6] (fun x i wr => ∃ j v : Nat, j ≤ t.size ∧ i = .int .i64 j ∧ x = .int .i64 v ∧ Lib.decFrom 0 (T.take j) = some v ∧ w = wr) (fun _ i _ => t.size - (intOf i).toNat)
      case atStart => exact ⟨0, 0, Nat.zero_le _, rfl, rfl, rfl, rfl⟩
      case round =>
        obtain ⟨j, v, hj, rfl, rfl, hd, rfl⟩ := hrel
        have hv := decFrom_lt _ _ _ hd
        have hv2 : v < 10 ^ 9 := Nat.lt_of_lt_of_le hv (by rw [Nat.zero_add, Nat.one_mul]; exact Nat.pow_le_pow_right (by omega) (by rw [List.length_take]; omega))
        have HD := hid hd
        clear hd hv
        by_cases hlt : j < t.size
        · have hjT : j < T.length := by rw [← HT1.out]; exact hlt
          have hx := bytes_get t j hlt
          have hg : t.data.toList[j]'(by rw [HT2.out]; exact hjT) = T[j] := by simp only [HT2.out]
          rw [hg] at hx
          obtain ⟨b, hb⟩ : ∃ b, T[j] = b := ⟨_, rfl⟩
          have hb2 : T[j]? = some b := by rw [List.getElem?_eq_getElem hjT, hb]
          rw [hb] at hx
          obtain ⟨c, hc⟩ : ∃ c, b.toNat = c := ⟨_, rfl⟩
          have hx2 : (t[j]'hlt).toNat = c := by rw [hx, hc]
          have hc256 : c ≤ 255 := by have := b.toNat_lt; omega
          have hlt2 : (j : Int) < (t.size : Int) := by omega
          by_cases hdig : 48 ≤ c ∧ c ≤ 57
          · have HN := hid (Lib.decFrom_take T j 0 v b (c - 48) HD.out hb2 (dig_yes hc hdig))
            have hd1 : ¬ (c : Int) < 48 := by omega
            have hd2 : ¬ (57 : Int) < (c : Int) := by omega
            clear hx hg hb hb2 hc hdig
            go_wp2
            go_roundw
            case rel => exact ⟨j + 1, v * 10 + (c - 48), by omega, by go_num, by go_num, HN.out, by first | rfl | trivial⟩
            case measure => simp [intOf]; omega
          · have hno : Lib.decFrom 0 T = none := by
              cases e : Lib.decFrom 0 T with
              | none => rfl
              | some u =>
                obtain ⟨d, hd⟩ := Lib.digit_of_decFrom T 0 u e j b hb2
                rw [dig_no hc hdig] at hd; cases hd
            obtain ⟨h1, h2⟩ := pin_none (HBAD.out hno)
            have HR := hid (And.intro h1 h2)
            rcases (show (c : Int) < 48 ∨ (¬ (c : Int) < 48 ∧ (57 : Int) < (c : Int)) by omega) with h3 | ⟨h3, h4⟩
            all_goals
              clear hx hg hb hb2 hc hdig hno h1 h2
              go_wp2
              go_ret2
              rw [HR.out.1, HR.out.2]
              exact ⟨rfl, Below.refl _ _⟩
        · obtain rfl : j = t.size := by omega
          have hall : Lib.decFrom 0 T = some v := by
            have := HD.out
            rwa [HT1.out, List.take_length] at this
          obtain ⟨s1, s2, s3⟩ := HSM.out v hall
          have ha := HAT.out v hall
          have hsv := HSG.out v
          obtain ⟨z, hz⟩ : ∃ z, sgn l v = z := ⟨_, rfl⟩
          rw [hz] at s2 s3 ha hsv
          rw [← HT1.out, hL] at hsv
          have HF1 := hid (HF.out z ⟨s2, s3⟩)
          have hq := st_beq (Lib.itoa z) s
          rw [HL.out] at hq
          have HZ : Hid (piN l = (if Lib.itoa z = l then z else 0) ∧ piB l = decide (Lib.itoa z = l)) := hid (by
            by_cases hi : Lib.itoa z = l
            · obtain ⟨h1, h2⟩ := pin_some (piO_yes ha ⟨s2, s3⟩ hi)
              rw [if_pos hi, decide_eq_true hi]; exact ⟨h1, h2⟩
            · obtain ⟨h1, h2⟩ := pin_none (piO_no ha (fun h => hi h.2))
              rw [if_neg hi, decide_eq_false hi]; exact ⟨h1, h2⟩)
          clear ha hz hall HD
          generalize Lib.itoa z = I at *
          by_cases hi : I = l
          all_goals
            first | rw [if_pos hi, decide_eq_true hi] at HZ | rw [if_neg hi, decide_eq_false hi] at HZ
            first | rw [decide_eq_true hi] at hq | rw [decide_eq_false hi] at hq
            clear hi
            by_cases hng : t.size < s.size
            · rw [if_pos hng] at hsv
              have hng2 : (t.size : Int) < (s.size : Int) := by omega
              subst hsv
              clear hng
              go_wp2_with (go_at_call 12; (with_reducible refine (HF1.out _).mono ?_); rintro e w2 ⟨rfl, hb2⟩; have HB2 := hid hb2; clear hb2)
              go_ret2
              rw [HZ.out.1, HZ.out.2]
              exact ⟨rfl, HB2.out⟩
            · rw [if_neg hng] at hsv
              have hng2 : ¬ (t.size : Int) < (s.size : Int) := by omega
              subst hsv
              clear hng
              go_wp2_with (go_at_call 12; (with_reducible refine (HF1.out _).mono ?_); rintro e w2 ⟨rfl, hb2⟩; have HB2 := hid hb2; clear hb2)
              go_ret2
              rw [HZ.out.1, HZ.out.2]
              exact ⟨rfl, HB2.out⟩
    · obtain ⟨h1, h2⟩ := pin_none (hshort h9)
      have HR := hid (And.intro h1 h2)
      rcases (show (t.size : Int) < 1 ∨ (¬ (t.size : Int) < 1 ∧ (9 : Int) < (t.size : Int)) by omega) with h3 | ⟨h3, h4⟩
      all_goals
        clear h1 h2 hbad hshort hat hsm hsg ht2 hT hl h9 hle
        go_enter Tryd.func23, Tryd.ntmps23
        go_wp2
        go_ret2
        rw [HR.out.1, HR.out.2]
        exact ⟨rfl, Below.refl _ _⟩
  · have h0 : 0 < s.size := by rw [← hL, hr]; simp
    have p1 : (0 : Int) < (s.size : Int) := by omega
    have hxx := bytes_get s 0 h0
    have hgg : s.data.toList[0]'(by rw [hl, hr]; simp) = b := by simp [hl, hr]
    rw [hgg] at hxx
    have hxx2 : ¬ (s[0]'h0).toNat = 45 := by rw [hxx]; intro h; exact hb (UInt8.toNat_inj.1 h)
    have hTl : T = l := by rw [← hT, hr, bare_cons, if_neg (by simpa using hb)]
    have ht1 : s.size = T.length := by rw [hTl, hL]
    have ht2 : s.data.toList = T := by rw [hTl, hl]
    clear hxx hgg hTl hr hb
    by_cases h9 : 1 ≤ T.length ∧ T.length ≤ 9
    · have HBAD := hid hbad
      have HAT := hid (fun v => hat v h9.1)
      have HSM := hid (fun v => hsm v h9.2)
      have HSG := hid hsg
      have HT2 := hid ht2
      have HL := hid hl
      have k1 : ¬ (s.size : Int) < 1 := by omega
      have k2 : ¬ (9 : Int) < (s.size : Int) := by omega
      have HT1 := hid ht1
      have hTs : s.size ≤ 9 := by omega
      rw [hL] at hsg
      clear hbad hshort hat hsm hsg ht2 hT hl h9 hle
      go_enter Tryd.func23, Tryd.ntmps23
      go_wp2_with fail
      go_loopw [5, 6] (fun x i wr => ∃ j v : Nat, j ≤ s.size ∧ i = .int .i64 j ∧ x = .int .i64 v ∧ Lib.decFrom 0 (T.take j) = some v ∧ w = wr) (fun _ i _ => s.size - (intOf i).toNat)
      case atStart => exact ⟨0, 0, Nat.zero_le _, rfl, rfl, rfl, rfl⟩
      case round =>
        obtain ⟨j, v, hj, rfl, rfl, hd, rfl⟩ := hrel
        have hv := decFrom_lt _ _ _ hd
        have hv2 : v < 10 ^ 9 := Nat.lt_of_lt_of_le hv (by rw [Nat.zero_add, Nat.one_mul]; exact Nat.pow_le_pow_right (by omega) (by rw [List.length_take]; omega))
        have HD := hid hd
        clear hd hv
        by_cases hlt : j < s.size
        · have hjT : j < T.length := by rw [← HT1.out]; exact hlt
          have hx := bytes_get s j hlt
          have hg : s.data.toList[j]'(by rw [HT2.out]; exact hjT) = T[j] := by simp only [HT2.out]
          rw [hg] at hx
          obtain ⟨b, hb⟩ : ∃ b, T[j] = b := ⟨_, rfl⟩
          have hb2 : T[j]? = some b := by rw [List.getElem?_eq_getElem hjT, hb]
          rw [hb] at hx
          obtain ⟨c, hc⟩ : ∃ c, b.toNat = c := ⟨_, rfl⟩
          have hx2 : (s[j]'hlt).toNat = c := by rw [hx, hc]
          have hc256 : c ≤ 255 := by have := b.toNat_lt; omega
          have hlt2 : (j : Int) < (s.size : Int) := by omega
          by_cases hdig : 48 ≤ c ∧ c ≤ 57
          · have HN := hid (Lib.decFrom_take T j 0 v b (c - 48) HD.out hb2 (dig_yes hc hdig))
            have hd1 : ¬ (c : Int) < 48 := by omega
            have hd2 : ¬ (57 : Int) < (c : Int) := by omega
            clear hx hg hb hb2 hc hdig
            go_wp2
            go_roundw
            case rel => exact ⟨j + 1, v * 10 + (c - 48), by omega, by go_num, by go_num, HN.out, by first | rfl | trivial⟩
            case measure => simp [intOf]; omega
          · have hno : Lib.decFrom 0 T = none := by
              cases e : Lib.decFrom 0 T with
              | none => rfl
              | some u =>
                obtain ⟨d, hd⟩ := Lib.digit_of_decFrom T 0 u e j b hb2
                rw [dig_no hc hdig] at hd; cases hd
            obtain ⟨h1, h2⟩ := pin_none (HBAD.out hno)
            have HR := hid (And.intro h1 h2)
            rcases (show (c : Int) < 48 ∨ (¬ (c : Int) < 48 ∧ (57 : Int) < (c : Int)) by omega) with h3 | ⟨h3, h4⟩
            all_goals
              clear hx hg hb hb2 hc hdig hno h1 h2
              go_wp2
              go_ret2
              rw [HR.out.1, HR.out.2]
              exact ⟨rfl, Below.refl _ _⟩
        · obtain rfl : j = s.size := by omega
          have hall : Lib.decFrom 0 T = some v := by
            have := HD.out
            rwa [HT1.out, List.take_length] at this
          obtain ⟨s1, s2, s3⟩ := HSM.out v hall
          have ha := HAT.out v hall
          have hsv := HSG.out v
          obtain ⟨z, hz⟩ : ∃ z, sgn l v = z := ⟨_, rfl⟩
          rw [hz] at s2 s3 ha hsv
          rw [← HT1.out, hL] at hsv
          have HF1 := hid (HF.out z ⟨s2, s3⟩)
          have hq := st_beq (Lib.itoa z) s
          rw [HL.out] at hq
          have HZ : Hid (piN l = (if Lib.itoa z = l then z else 0) ∧ piB l = decide (Lib.itoa z = l)) := hid (by
            by_cases hi : Lib.itoa z = l
            · obtain ⟨h1, h2⟩ := pin_some (piO_yes ha ⟨s2, s3⟩ hi)
              rw [if_pos hi, decide_eq_true hi]; exact ⟨h1, h2⟩
            · obtain ⟨h1, h2⟩ := pin_none (piO_no ha (fun h => hi h.2))
              rw [if_neg hi, decide_eq_false hi]; exact ⟨h1, h2⟩)
          clear ha hz hall HD
          generalize Lib.itoa z = I at *
          by_cases hi : I = l
          all_goals
            first | rw [if_pos hi, decide_eq_true hi] at HZ | rw [if_neg hi, decide_eq_false hi] at HZ
            first | rw [decide_eq_true hi] at hq | rw [decide_eq_false hi] at hq
            clear hi
            by_cases hng : s.size < s.size
            · omega
            · rw [if_neg hng] at hsv
              have hng2 : ¬ (s.size : Int) < (s.size : Int) := by omega
              subst hsv
              clear hng
              go_wp2_with (go_at_call 12; (with_reducible refine (HF1.out _).mono ?_); rintro e w2 ⟨rfl, hb2⟩; have HB2 := hid hb2; clear hb2)
              go_ret2
              rw [HZ.out.1, HZ.out.2]
              exact ⟨rfl, HB2.out⟩
    · obtain ⟨h1, h2⟩ := pin_none (hshort h9)
      have HR := hid (And.intro h1 h2)
      have h4 : (9 : Int) < (s.size : Int) := by omega
      have h3 : ¬ (s.size : Int) < 1 := by omega
      clear h1 h2 hbad hshort hat hsm hsg ht2 hT hl h9 hle
      go_enter Tryd.func23, Tryd.ntmps23
      go_wp2
      go_ret2
      rw [HR.out.1, HR.out.2]
      exact ⟨rfl, Below.refl _ _⟩
theorem walk_FnExactParseInt {w : World} (s : ByteArray) (wf : s.size ≤ maxLen) (hp : Pow10 w) (he : ErrS w) : Calls Tryd.prog 7 #[.string s] w fun e w' => e = .returned (.bool true) ∧ Below w.heap.size w w' := by
  have HS := hid (fun (W : World) => sParseInt_any (w := W) s wf)
  have HI := hid (fun (W : World) (hp : Pow10 W) (he : ErrS W) => iParseInt_any hp he s)
  have HP := hid hp
  have HE := hid he
  clear hp he
  generalize piN s.data.toList = x at *
  generalize piB s.data.toList = b at *
  by_cases h : 1048576 < s.size
  · unfold maxLen at wf
    clear HS HI
    go_enter Tryd.func7, Tryd.ntmps7
    go_wp2
    go_ret
    exact ⟨rfl, Below.refl _ _⟩
  · go_enter Tryd.func7, Tryd.ntmps7
    go_wp2_with fail
    refine (HS.out _).mono ?_
    rintro e w1 ⟨rfl, hb1⟩
    have HP1 := hid (TabIs_below HP.out hb1)
    have HE1 := hid (HE.out.below hb1)
    have HB1 := hid hb1
    clear hb1
    go_wp2_with fail
    refine (HI.out _ HP1.out HE1.out).mono ?_
    rintro e w2 ⟨rfl, hb2⟩
    have HB2 := hid (Below.step HB1.out hb2)
    clear hb2
    cases b
    all_goals
      go_wp2
      go_ret
      exact ⟨rfl, HB2.out⟩
end Go.Proofs.YtpfocjdhjkifmaaDoor
