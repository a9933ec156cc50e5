/- Events read from texts: by contract in the program. Conditions: the library's table as it is laid, ErrSyntax some error. -/
import Derived.Test.YtpfocjdhjkifmaaDoorPevR
import Derived.Test.YtpfocjdhjkifmaaDoorEvT
import Derived.Test.YtpfocjdhjkifmaaDoorEvP0
import Derived.Test.YtpfocjdhjkifmaaDoorIdxA
import Derived.Test.YtpfocjdhjkifmaaDoorPinS
import Derived.Deep.DeepCutAuto
namespace Go.Proofs.YtpfocjdhjkifmaaDoor
open Go.RowKit
set_option linter.unusedVariables false

theorem idx_sg (l : List UInt8) : Lib.indexAny l [43, 45] = if sgI l < l.length then (sgI l : Int) else -1 := by
  have hc : ∀ b : UInt8, ([43, 45] : List UInt8).contains b = isSg b := by
    intro b; unfold isSg; rw [Bool.eq_iff_iff]; simp
  have hno : ∀ i, i ≤ sgI l → Lib.NoAny l [43, 45] i := by
    intro i hi j b hj hb
    rw [hc]
    have hjl : j < l.length := (List.getElem?_eq_some_iff.1 hb).1
    have h2 := List.not_of_lt_findIdx (p := isSg) (xs := l) (i := j) (by unfold sgI at hi; omega)
    have h3 : l[j] = b := (List.getElem?_eq_some_iff.1 hb).2
    rw [h3] at h2
    simpa using h2
  by_cases h : sgI l < l.length
  · rw [if_pos h]
    refine Lib.indexAny_hit (x := l.getD (sgI l) 0) (hno _ (Nat.le_refl _)) ?_ ?_
    · rw [List.getD_eq_getElem?_getD, List.getElem?_eq_getElem h]; rfl
    · rw [hc]; exact sgI_at h
  · rw [if_neg h]
    exact Lib.indexAny_none (hno _ (by omega))
theorem litP_beq (s : ByteArray) (l : List UInt8) : (s.toList == l) = decide (s.data.toList = l) := by
  rw [ByteArray.toList_eq, Bool.eq_iff_iff]; simp
theorem pinP_any {w : World} (hp : Pow10 w) (he : ErrS w) (l : List UInt8) : Calls Tryd.prog 24 #[.string (st l)] w fun e w' => e = .returned (.tuple #[.int .i64 (piN l), .bool (piB l)]) ∧ Below w.heap.size w w' := iParseInt_any hp he (st l)
theorem part_len {b : UInt8} {l p : List UInt8} (h : p ∈ TX.parts b l) : p.length ≤ l.length := by
  have hj := TX.join_parts b l
  have h2 : ∀ (xs : List (List UInt8)), p ∈ xs → p.length ≤ (Lib.join xs [b]).length := by
    intro xs
    induction xs with
    | nil => intro h; cases h
    | cons a r ih =>
      intro hp
      cases r with
      | nil => rw [Lib.join_one]; rcases List.mem_cons.1 hp with rfl | hp
               · exact Nat.le_refl _
               · cases hp
      | cons c r =>
        have e : Lib.join (a :: c :: r) [b] = a ++ b :: Lib.join (c :: r) [b] := by rw [Lib.join_cons, Lib.join_cons]; simp [Lib.joinTail]
        rw [e, List.length_append, List.length_cons]
        rcases List.mem_cons.1 hp with rfl | hp
        · omega
        · have := ih hp; omega
  have := h2 _ h
  rwa [hj] at this
theorem getD_mem {xs : List (List UInt8)} {j : Nat} (h : j < xs.length) : xs.getD j [] ∈ xs := by
  rw [List.getD_eq_getElem?_getD, List.getElem?_eq_getElem h]; exact List.getElem_mem _
theorem map_st_getD (xs : List (List UInt8)) {j : Nat} (h : j < xs.length) : (xs.map st).getD j ByteArray.empty = st (xs.getD j []) := by
  rw [List.getD_eq_getElem?_getD, List.getD_eq_getElem?_getD, List.getElem?_map, List.getElem?_eq_getElem h]; rfl
/-- One more event read. -/
theorem pe_succ {xs : List (List UInt8)} {j : Nat} (h : j < xs.length) {e : EV.Ev} (he : peO (xs.getD j []) = some e) : evCs ((xs.take j).map peE) ++ [.int .i64 e.time, .int .i64 e.key, .bool e.down] = evCs ((xs.take (j + 1)).map peE) := by
  have e1 : xs.getD j [] = xs[j] := by rw [List.getD_eq_getElem?_getD, List.getElem?_eq_getElem h]; rfl
  rw [List.take_succ_eq_append_getElem h, List.map_append, evCs_append, ← e1]
  simp only [List.map_cons, List.map_nil]
  unfold peE
  rw [he]
  rfl
theorem pe_out {q : List UInt8} (h : sgI q < q.length) : (piB (q.take (sgI q)) = false ∨ piB (q.drop (sgI q + 1)) = false → peB q = false) ∧
    (piB (q.take (sgI q)) = true → piB (q.drop (sgI q + 1)) = true → peO q = some ⟨piN (q.take (sgI q)), piN (q.drop (sgI q + 1)), q.getD (sgI q) 0 == 43⟩) := by
  constructor
  · intro h2
    unfold peB
    rw [peO_bad]; rfl
    rcases h2 with h2 | h2
    · exact Or.inl (by unfold piB at h2; simpa using h2)
    · exact Or.inr (by unfold piB at h2; simpa using h2)
  · intro h1 h2
    unfold piB at h1 h2
    obtain ⟨t, ht⟩ := Option.isSome_iff_exists.1 h1
    obtain ⟨k, hk⟩ := Option.isSome_iff_exists.1 h2
    rw [peO_some h ht hk]
    unfold piN
    rw [ht, hk]; rfl
/-- What is handed back where the text is none of events. -/
theorem madeNo {w W : World} {L : List UInt8} (h : peL L = none) (hb : Below w.heap.size w W) : MadeE2 w ((peL L).getD []) (peL L).isSome (.returned (.tuple #[.slice none 0 0, .bool false])) W := by
  rw [h]; exact ⟨none, 0, rfl, OwnE.nil_ _ _, hb⟩
set_option maxRecDepth 100000 in
set_option maxHeartbeats 4000000 in
theorem iParseEvents_any {w : World} (hp : Pow10 w) (he : ErrS w) (s : ByteArray) (hs : s.size ≤ 1048576) : Calls Tryd.prog 30 #[.string s] w (MadeE2 w ((peL s.data.toList).getD []) (peL s.data.toList).isSome) := by
  have qz := litP_beq s []
  by_cases h0 : s.data.toList = []
  · rw [decide_eq_true h0] at qz
    rw [h0, peL_nil]
    clear hp he h0
    go_enter Tryd.func30, Tryd.ntmps30
    go_wp2
    go_ret2
    exact ⟨none, 0, rfl, OwnE.nil_ _ _, Below.refl _ _⟩
  · rw [decide_eq_false h0] at qz
    obtain ⟨i0, hi, hz0, hz1, hz2⟩ := info_parts ev_info
    have HI0 := hid (And.intro hi (And.intro hz0 (And.intro hz1 hz2))); clear hi hz0 hz1 hz2
    have HSP := hid (fun (W : World) => show Calls Tryd.prog 61 #[.string s, .int .u8 32] W (MadeT W ((TX.parts 32 s.data.toList).map st)) from iSplitText_any s 32 32 rfl (by omega) W)
    have hLs : s.data.toList.length = s.size := Array.length_toList
    have hqs := st_beq (feL ((TX.parts 32 s.data.toList).map peE)) s
    have hpm := fun p (h : p ∈ TX.parts 32 s.data.toList) => part_len h
    obtain ⟨L, hL⟩ : ∃ L, s.data.toList = L := ⟨_, rfl⟩
    rw [hL] at HSP h0 hLs hqs hpm ⊢
    obtain ⟨ps, hps⟩ : ∃ ps, TX.parts 32 L = ps := ⟨_, rfl⟩
    obtain ⟨N, hN⟩ : ∃ N, (ps.map st).length = N := ⟨_, rfl⟩
    have hN2 : ps.length = N := by rw [List.length_map] at hN; exact hN
    rw [hps] at HSP hqs hpm
    unfold MadeT MadeG at HSP
    rw [hN] at HSP
    have H0 := hid h0
    have HL := hid hL
    have HPS := hid hps
    have HN := hid hN2
    have HQS := hid hqs
    have HPM := hid hpm
    have HP := hid hp
    have HE := hid he
    have HLS := hid hLs
    clear h0 hL hps hN hN2 hqs hpm hp he hLs
    go_enter Tryd.func30, Tryd.ntmps30
    go_wp2_with (go_at_call 61; (with_reducible refine (HSP.out _).mono ?_); rintro e w1 ⟨A1, c1, rfl, ho1, hb1⟩; have HR1 := hid ho1.rd; have HB1 := hid hb1; clear ho1 hb1)
    go_loopw [4, 6, 7, 8, 9, 10, 11, 17] (fun o _ _ _ _ _ _ i wr => ∃ (j : Nat) (A' : Option Addr) (c' : Nat), j ≤ N ∧ j ≤ 64 ∧ i = .int .i64 j ∧ o = .slice A' j c' ∧ (∀ p, p < j → peB (ps.getD p []) = true) ∧
      wr.ownsRow w1.heap.size 47 3 (.slice A' j c') j (evCs ((ps.take j).map peE)) ∧ Below w1.heap.size w1 wr) (fun _ _ _ _ _ _ _ i _ => N - (intOf i).toNat)
    case atStart => exact ⟨0, none, 0, Nat.zero_le _, by omega, rfl, rfl, fun p hp => by omega, World.ownsRow_nil _ _ _ _, Below.refl _ _⟩
    case round =>
      obtain ⟨j, A0, c, hj, hj64, rfl, rfl, hall, hown, hbel⟩ := hrel
      have HALL := hid hall; clear hall
      have HOwn := hid hown; clear hown
      have HBL := hid (Below.step HB1.out hbel)
      by_cases hlt : j < N
      · obtain ⟨ad, rfl, hc⟩ := (HR1.out.below hbel).at_ ByteArray.empty hlt
        rw [map_st_getD ps (by rw [HN.out]; exact hlt)] at hc
        simp only [sV] at hc
        have hlt2 : (j : Int) < (N : Int) := by omega
        obtain ⟨q, hq⟩ : ∃ q, ps.getD j [] = q := ⟨_, rfl⟩
        have hqm : q ∈ ps := by rw [← hq]; exact getD_mem (by rw [HN.out]; exact hlt)
        have hql : q.length ≤ 1048576 := by have := HPM.out q hqm; have := HLS.out; omega
        rw [hq] at hc
        have hbad : peB q = false → peL L = none := fun h => peL_bad H0.out (by rw [HPS.out]; exact hqm) h
        have HIX := hid (fun (W : World) => (show Calls Tryd.prog 62 #[.string (st q), .string (ByteArray.mk #[43, 45])] W fun e w' => e = .returned (.int .i64 (Lib.indexAny q [43, 45])) ∧ Below W.heap.size W w' from idxAny_any (st q) (by rw [st_size]; exact hql) W))
        rw [idx_sg] at HIX
        have HQ := hid hq
        clear hqm
        by_cases hsg : sgI q < q.length
        · rw [if_pos hsg] at HIX
          obtain ⟨po1, po2⟩ := pe_out hsg
          have hx1 := extract_st (st q) 0 (sgI q)
          have hx2 := extract_st (st q) (sgI q + 1) (st q).size
          rw [show (st q).data.toList = q from rfl, List.drop_zero, Nat.sub_zero] at hx1
          rw [show (st q).data.toList = q from rfl, st_size, List.take_of_length_le (by rw [List.length_drop]; omega)] at hx2
          have hsz := st_size q
          have hgb := bytes_get (st q) (sgI q) (by rw [st_size]; exact hsg)
          obtain ⟨T, hT⟩ : ∃ T, q.take (sgI q) = T := ⟨_, rfl⟩
          obtain ⟨K, hK⟩ : ∃ K, q.drop (sgI q + 1) = K := ⟨_, rfl⟩
          rw [hT] at hx1 po1 po2
          rw [hK] at hx2 po1 po2
          have HT := hid (fun (W : World) (hp : Pow10 W) (he : ErrS W) => pinP_any hp he T)
          have HK := hid (fun (W : World) (hp : Pow10 W) (he : ErrS W) => pinP_any hp he K)
          obtain ⟨x, hx⟩ : ∃ x, (st q)[sgI q]'(by rw [st_size]; exact hsg) = x := ⟨_, rfl⟩
          rw [hx] at hgb
          have hdd : ((x.toNat : Int) == 43) = (q.getD (sgI q) 0 == 43) := by
            have e1 : q.getD (sgI q) 0 = x := by
              rw [hgb, List.getD_eq_getElem?_getD, List.getElem?_eq_getElem hsg]; rfl
            rw [e1, Bool.eq_iff_iff, beq_iff_eq, beq_iff_eq, ← UInt8.toNat_inj]
            show (x.toNat : Int) = 43 ↔ x.toNat = 43
            omega
          generalize hd : (q.getD (sgI q) 0 == 43) = d at *
          have HPO := hid (And.intro po1 po2)
          obtain ⟨k, hk⟩ : ∃ k, sgI q = k := ⟨_, rfl⟩
          simp only [hk] at hx hx1 hx2 hsg HIX
          have hk0 : (0 : Int) ≤ (k : Int) := by omega
          have hk1 : (k : Int) < ((st q).size : Int) := by omega
          have hk2 : (k : Int) ≤ ((st q).size : Int) := by omega
          have hk3 : (k : Int) + 1 ≤ ((st q).size : Int) := by omega
          have hk4 : ¬ (k : Int) < 0 := by omega
          have HBW := hid hbel
          obtain ⟨tn, htn⟩ : ∃ tn, piN T = tn := ⟨_, rfl⟩
          obtain ⟨kn, hkn⟩ : ∃ kn, piN K = kn := ⟨_, rfl⟩
          obtain ⟨tb, htb⟩ : ∃ tb, piB T = tb := ⟨_, rfl⟩
          obtain ⟨kb, hkb⟩ : ∃ kb, piB K = kb := ⟨_, rfl⟩
          rw [htn, htb] at HPO HT
          rw [hkn, hkb] at HPO HK
          have HBAD := hid hbad
          clear hbad po1 po2 hT hK hgb hd htn hkn htb hkb hsg
          cases tb
          · have HNO := hid (HBAD.out (HPO.out.1 (Or.inl rfl)))
            go_wp2_with (first | (go_at_call 62; (with_reducible refine (HIX.out _).mono ?_); rintro e w2 ⟨rfl, hb2⟩; have HB2 := hid (Below.step HBL.out hb2); have HC2 := hid (Below.step HBW.out hb2); clear hb2) | (go_at_call 24; (with_reducible refine (HT.out _ (TabIs_below HP.out HB2.out) (HE.out.below HB2.out)).mono ?_); rintro e w3 ⟨rfl, hb3⟩; have HB3 := hid (Below.step HB2.out hb3); have HC3 := hid (Below.step HC2.out hb3); clear hb3) | (go_at_call 24; (with_reducible refine (HK.out _ (TabIs_below HP.out HB3.out) (HE.out.below HB3.out)).mono ?_); rintro e w4 ⟨rfl, hb4⟩; have HB4 := hid (Below.step HB3.out hb4); have HC4 := hid (Below.step HC3.out hb4); clear hb4))
            go_ret2
            exact madeNo HNO.out HB4.out
          · cases kb
            · have HNO := hid (HBAD.out (HPO.out.1 (Or.inr rfl)))
              go_wp2_with (first | (go_at_call 62; (with_reducible refine (HIX.out _).mono ?_); rintro e w2 ⟨rfl, hb2⟩; have HB2 := hid (Below.step HBL.out hb2); have HC2 := hid (Below.step HBW.out hb2); clear hb2) | (go_at_call 24; (with_reducible refine (HT.out _ (TabIs_below HP.out HB2.out) (HE.out.below HB2.out)).mono ?_); rintro e w3 ⟨rfl, hb3⟩; have HB3 := hid (Below.step HB2.out hb3); have HC3 := hid (Below.step HC2.out hb3); clear hb3) | (go_at_call 24; (with_reducible refine (HK.out _ (TabIs_below HP.out HB3.out) (HE.out.below HB3.out)).mono ?_); rintro e w4 ⟨rfl, hb4⟩; have HB4 := hid (Below.step HB3.out hb4); have HC4 := hid (Below.step HC3.out hb4); clear hb4))
              go_ret2
              exact madeNo HNO.out HB4.out
            · have HPE := hid (HPO.out.2 rfl rfl)
              by_cases h64 : j < 64
              · have h641 : ¬ (64 : Int) ≤ (j : Int) := by omega
                have h1 := ev_one ⟨tn, kn, d⟩
                simp only at h1
                go_wp2_with (first | (go_at_call 62; (with_reducible refine (HIX.out _).mono ?_); rintro e w2 ⟨rfl, hb2⟩; have HB2 := hid (Below.step HBL.out hb2); have HR2 := hid hb2; have HC2 := hid (Below.step HBW.out hb2); clear hb2) | (go_at_call 24; (with_reducible refine (HT.out _ (TabIs_below HP.out HB2.out) (HE.out.below HB2.out)).mono ?_); rintro e w3 ⟨rfl, hb3⟩; have HB3 := hid (Below.step HB2.out hb3); have HR3 := hid (Below.step HR2.out hb3); have HC3 := hid (Below.step HC2.out hb3); clear hb3) | (go_at_call 24; (with_reducible refine (HK.out _ (TabIs_below HP.out HB3.out) (HE.out.below HB3.out)).mono ?_); rintro e w4 ⟨rfl, hb4⟩; have HB4 := hid (Below.step HB3.out hb4); have HC4 := hid (Below.step HC3.out hb4); have HOw4 := hid (ownsRow_below HOwn.out (Below.step HR3.out hb4)); clear hb4) | (at_builtin; refine wpList_append_any _ rfl _ _ 29 rfl w1.heap.size 47 i0 (.agg #[.int .i64 0, .int .i64 0, .bool false]) 3 24 Tryd.underlying29 HI0.out.1 HI0.out.2.1 HI0.out.2.2.1 HI0.out.2.2.2 rfl (by decide) _ _ _ rfl (HOw4.out.alloc _) (w4.heap.size + 1) _ 1 1 [Value.int .i64 tn, .int .i64 kn, .bool d] rfl (reads_new w4 #[Value.int .i64 tn, .int .i64 kn, .bool d] 47 rfl) h1 (by unfold maxLen; omega) (by omega) (by have := HC4.out.size; simp; omega) ?_; intro v' w9 hown1 hg1 hat1; obtain ⟨A', c', rfl⟩ := ownsRow_form3 hown1; have hb9 := below_app HC4.out HOw4.out (Nat.le_refl _) hg1; have HOw9 := hid hown1; clear hown1 hg1 hat1))
                go_roundw
                case rel =>
                  refine ⟨j + 1, A', c', by omega, by omega, by go_num, rfl, fun p hp => ?_, by have h := HOw9.out; have h2 := pe_succ (xs := ps) (j := j) (e := ⟨tn, kn, d⟩) (by rw [HN.out]; exact hlt) (by rw [HQ.out]; exact HPE.out); simp only at h2; rw [h2] at h; exact h, hb9⟩
                  rcases Nat.lt_or_ge p j with h | h
                  · exact HALL.out p h
                  · obtain rfl : p = j := by omega
                    rw [HQ.out]; unfold peB; rw [HPE.out]; rfl
                case measure => simp [intOf]; omega
              · have h641 : (64 : Int) ≤ (j : Int) := by omega
                have HNO := hid (peL_long H0.out (by rw [HPS.out, HN.out]; omega))
                go_wp2_with (first | (go_at_call 62; (with_reducible refine (HIX.out _).mono ?_); rintro e w2 ⟨rfl, hb2⟩; have HB2 := hid (Below.step HBL.out hb2); have HC2 := hid (Below.step HBW.out hb2); clear hb2) | (go_at_call 24; (with_reducible refine (HT.out _ (TabIs_below HP.out HB2.out) (HE.out.below HB2.out)).mono ?_); rintro e w3 ⟨rfl, hb3⟩; have HB3 := hid (Below.step HB2.out hb3); have HC3 := hid (Below.step HC2.out hb3); clear hb3) | (go_at_call 24; (with_reducible refine (HK.out _ (TabIs_below HP.out HB3.out) (HE.out.below HB3.out)).mono ?_); rintro e w4 ⟨rfl, hb4⟩; have HB4 := hid (Below.step HB3.out hb4); have HC4 := hid (Below.step HC3.out hb4); clear hb4))
                go_ret2
                exact madeNo HNO.out HB4.out
        · rw [if_neg hsg] at HIX
          have HNO := hid (hbad (by unfold peB; rw [peO_none hsg]; rfl))
          clear hbad hsg
          go_wp2_with (go_at_call 62; (with_reducible refine (HIX.out _).mono ?_); rintro e w2 ⟨rfl, hb2⟩; have HB2 := hid (Below.step HBL.out hb2); clear hb2)
          go_ret2
          exact madeNo HNO.out HB2.out
      · obtain rfl : j = N := by omega
        have htk : ps.take j = ps := by rw [← HN.out, List.take_length]
        rw [htk] at HOwn
        clear htk
        have hln : (ps.map peE).length = j := by rw [List.length_map, HN.out]
        have hall2 : ∀ p ∈ TX.parts 32 L, peB p = true := by
          rw [HPS.out]
          intro p hp
          obtain ⟨i, hi, e⟩ := List.getElem_of_mem hp
          have := HALL.out i (by rw [← HN.out]; exact hi)
          rw [List.getD_eq_getElem?_getD, List.getElem?_eq_getElem hi] at this
          rw [← e]; exact this
        have hev3 : (TX.parts 32 L).map peE = ps.map peE := by rw [HPS.out]
        have hlen64 : (TX.parts 32 L).length ≤ 64 := by rw [HPS.out, HN.out]; exact hj64
        have hquery := HQS.out
        cases hev : EV.isEvs (ps.map peE)
        · have HNO := hid (peL_wrong H0.out (by rw [hev3]; exact hev))
          have HIE := hid (iIsEvents_any (cap := c) (show RdE wr A0 j (ps.map peE) from ⟨hln, Reads.of_own HOwn.out⟩) (by unfold maxLen; omega))
          rw [hev] at HIE
          clear hquery hev hev3 hall2 hlen64 hln
          go_wp2_with (go_at_call 49; (with_reducible refine HIE.out.mono ?_); rintro e w2 ⟨rfl, hb2⟩; have HB2 := hid (Below.step HBL.out hb2); clear hb2)
          go_ret2
          exact madeNo HNO.out HB2.out
        · have HIE := hid (iIsEvents_any (cap := c) (show RdE wr A0 j (ps.map peE) from ⟨hln, Reads.of_own HOwn.out⟩) (by unfold maxLen; omega))
          rw [hev] at HIE
          have HYES := hid (peL_yes H0.out hlen64 hall2 (by rw [hev3]; exact hev))
          have hfe := feL_parts hall2 (by rw [hev3]; exact hev)
          rw [hev3] at HYES hfe
          rw [decide_eq_true hfe] at hquery
          have HRW := hid (show RdE wr A0 j (ps.map peE) from ⟨hln, Reads.of_own HOwn.out⟩)
          have HFE := hid (fun (W : World) (hr : RdE W A0 j (ps.map peE)) (hp : Pow10 W) => iFormatEvents_any (cap := c) hr (by unfold maxLen; omega) hp)
          have HLN := hid hln
          generalize feL (ps.map peE) = F at *
          clear hev hev3 hall2 hlen64 hln hfe
          go_wp2_with (first | (go_at_call 49; (with_reducible refine HIE.out.mono ?_); rintro e w2 ⟨rfl, hb2⟩; have HB2 := hid (Below.step HBL.out hb2); have HR2 := hid hb2; clear hb2) | (go_at_call 21; (with_reducible refine (HFE.out _ (HRW.out.below HR2.out) (TabIs_below HP.out HB2.out)).mono ?_); rintro e w3 ⟨rfl, hb3⟩; have HB3 := hid (Below.step HB2.out hb3); have HR3 := hid (Below.step HR2.out hb3); clear hb3))
          go_ret2
          rw [HYES.out]
          refine ⟨A0, c, ?_, ⟨rfl, ?_⟩, HB3.out⟩
          · rw [Option.getD_some, HLN.out]; rfl
          · rw [Option.getD_some, HLN.out]
            exact ownsRow_base (ownsRow_below HOwn.out HR3.out) HB1.out.size
end Go.Proofs.YtpfocjdhjkifmaaDoor
