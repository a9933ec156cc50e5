/- Events read from texts: by contract in the reference. Conditions: none. -/
import Derived.Test.YtpfocjdhjkifmaaDoorPevP
namespace Go.Proofs.YtpfocjdhjkifmaaDoor
open Go.RowKit
set_option linter.unusedVariables false

theorem madeNoS {w W : World} {L : List UInt8} {B : Nat} (h : peL L = none) (hb : Below w.heap.size w W) (hB : W.heap.size = B := by first | rfl | simp) : MadeE2 w ((peL L).getD []) (peL L).isSome (.returned (.tuple #[.slice (some ⟨B, 0, none⟩) 0 0, .bool false])) (W.alloc (.cells #[] 47)) := by
  subst hB
  rw [h]; exact ⟨_, 0, rfl, ⟨rfl, ownsRow_base (own_litG W _ 3) hb.size⟩, hb.alloc hb.size _⟩
theorem reads_at (w : World) (cs : Array Value) (t : TypeId) {size n B : Nat} (hB : w.heap.size = B) (h : cs.size = n * size) : Reads (w.alloc (.cells cs t)) (B + 1) size (some ⟨B, 0, none⟩) n cs.toList := by subst hB; exact reads_new w cs t h
theorem l4_evs {ps : List (List UInt8)} (h : ∀ p, p < ps.length → l4B (ps.getD p []) = true) : ∀ p ∈ ps, peB p = true := by
  intro p hp
  obtain ⟨i, hi, e⟩ := List.getElem_of_mem hp
  have h1 := (l4_yes (h i hi)).1
  rw [List.getD_eq_getElem?_getD, List.getElem?_eq_getElem hi, Option.getD_some, e] at h1
  unfold peB; rw [h1]; rfl
theorem own_apart_ty {w : World} {base base' size size' n m : Nat} {e e' : TypeId} {v v' : Value} {xs ys : List Value} (h : w.ownsRow base e size v n xs) (h' : w.ownsRow base' e' size' v' m ys) (hne : e' ≠ e) : v.ownBlock = none ∨ v.ownBlock ≠ v'.ownBlock := by
  rcases h.2 with ⟨rfl, _⟩ | ⟨g, cap, cur, rfl, _, hh, _⟩
  · exact .inl rfl
  · right
    intro he
    exact own_blk_ne h' (show Blk w g e cur from hh) hne he.symm
set_option maxRecDepth 100000 in
set_option maxHeartbeats 4000000 in
theorem sParseEvents_any {w : World} (s : ByteArray) (hs : s.size ≤ 1048576) : Calls Tryd.prog 36 #[.string s] w (MadeE2 w ((peL s.data.toList).getD []) (peL s.data.toList).isSome) := by
  have qz := litP_beq s []
  by_cases h0 : s.data.toList = []
  · rw [decide_eq_true h0] at qz
    rw [h0, peL_nil]
    clear h0
    go_enter Tryd.func36, Tryd.ntmps36
    go_wp2
    go_ret2
    exact ⟨_, 0, rfl, ⟨rfl, own_litG w _ 3⟩, (Below.refl _ _).alloc (Nat.le_refl _) _⟩
  · rw [decide_eq_false h0] at qz
    obtain ⟨i0, hi, hz0, hz1, hz2⟩ := info_parts ev_info
    have HI0 := hid (And.intro hi (And.intro hz0 (And.intro hz1 hz2))); clear hi hz0 hz1 hz2
    have HSP := hid (fun (W : World) => show Calls Tryd.prog 65 #[.string s, .int .u8 32] W (MadeT W ((TX.parts 32 s.data.toList).map st)) from sSplitText_any s 32 32 rfl (by omega) W)
    have hLs : s.data.toList.length = s.size := Array.length_toList
    have hpm := fun p (h : p ∈ TX.parts 32 s.data.toList) => part_len h
    obtain ⟨L, hL⟩ : ∃ L, s.data.toList = L := ⟨_, rfl⟩
    rw [hL] at HSP h0 hLs hpm ⊢
    obtain ⟨ps, hps⟩ : ∃ ps, TX.parts 32 L = ps := ⟨_, rfl⟩
    obtain ⟨N, hN⟩ : ∃ N, (ps.map st).length = N := ⟨_, rfl⟩
    have hN2 : ps.length = N := by rw [List.length_map] at hN; exact hN
    rw [hps] at HSP hpm
    unfold MadeT MadeG at HSP
    rw [hN] at HSP
    have hno := fun (q : List UInt8) (hq : q ∈ ps) => l4_no (q := q) h0 (by rw [hps]; exact hq)
    have H0 := hid h0
    have HPS := hid hps
    have HN := hid hN2
    have HPM := hid hpm
    have HLS := hid hLs
    have HNO := hid hno
    clear h0 hL hps hN hN2 hpm hLs hno
    have HB0 := hid ((Below.refl w.heap.size w).alloc (Nat.le_refl _) (.cells #[] 47))
    have HO0 := hid (own_litG w 47 3)
    by_cases h64 : N ≤ 64
    · have hN64 : (N : Int) ≤ 64 := by omega
      have hN65 : ¬ (64 : Int) < (N : Int) := by omega
      go_enter Tryd.func36, Tryd.ntmps36
      go_wp2_with (go_at_call 65; (with_reducible refine (HSP.out _).mono ?_); rintro e w1 ⟨A1, c1, rfl, ho1, hb1⟩; have HB1 := hid (Below.step HB0.out hb1); have HP1 := hid (ho1.lower HB0.out.size); have HO1 := hid (ownsRow_below HO0.out hb1); clear ho1 hb1)
      go_loopw [4, 6, 7, 8] (fun o i _ _ wr => ∃ (j : Nat) (A' : Option Addr) (c' : Nat), j ≤ N ∧ i = .int .i64 j ∧ o = .slice A' j c' ∧ (∀ p, p < j → l4B (ps.getD p []) = true) ∧
        wr.ownsRow w.heap.size 47 3 (.slice A' j c') j (evCs ((ps.take j).map peE)) ∧ Below w.heap.size w wr ∧ OwnT wr w.heap.size A1 N c1 (ps.map st)) (fun _ i _ _ _ => N - (intOf i).toNat)
      case atStart => exact ⟨0, _, 0, Nat.zero_le _, rfl, rfl, fun p hp => by omega, HO1.out, HB1.out, HP1.out⟩
      case round =>
        obtain ⟨j, A0, c, hj, rfl, rfl, hall, hown, hbel, hrd⟩ := hrel
        have HALL := hid hall
        have HOwn := hid hown
        have HBL := hid hbel
        have HRD := hid hrd
        clear hall hown hbel hrd
        by_cases hlt : j < N
        · obtain ⟨ad, rfl, hc⟩ := HRD.out.rd.at_ ByteArray.empty hlt
          rw [map_st_getD ps (by rw [HN.out]; exact hlt)] at hc
          simp only [sV] at hc
          have hlt2 : (j : Int) < (N : Int) := by omega
          obtain ⟨q, hq⟩ : ∃ q, ps.getD j [] = q := ⟨_, rfl⟩
          have hqm : q ∈ ps := by rw [← hq]; exact getD_mem (by rw [HN.out]; exact hlt)
          have hql : q.length ≤ 1048576 := by have := HPM.out q hqm; have := HLS.out; omega
          rw [hq] at hc
          have HP := hid (fun (W : World) => l4Parse_any q hql W)
          have hnn := HNO.out q hqm
          have hyy := fun (h : l4B q = true) => (l4_yes h).1
          obtain ⟨⟨t, k, d⟩, he⟩ : ∃ e, l4E q = e := ⟨_, rfl⟩
          rw [he] at HP hyy
          simp only [evV] at HP
          have HQ := hid hq
          clear hqm hql he hq
          cases hb : l4B q
          · rw [hb] at HP
            have HNN := hid (hnn hb)
            clear hnn hyy hb
            go_wp2_with (go_at_call 66; (with_reducible refine (HP.out _).mono ?_); rintro e w2 ⟨rfl, hb2⟩; have HB2 := hid (Below.step HBL.out hb2); have HBa := hid (HB2.out.alloc HB2.out.size (.cells #[.int .i64 t, .int .i64 k, .bool d] 47)); clear hb2)
            go_ret2
            exact madeNoS (B := w2.heap.size + 1) HNN.out HBa.out
          · rw [hb] at HP
            have HPE := hid (hyy hb)
            have HBT := hid hb
            have h1 := ev_one ⟨t, k, d⟩
            simp only at h1
            clear hnn hyy hb
            go_wp2_with (first | (go_at_call 66; (with_reducible refine (HP.out _).mono ?_); rintro e w2 ⟨rfl, hb2⟩; have HB2 := hid (Below.step HBL.out hb2); have HBa := hid (HB2.out.alloc HB2.out.size (.cells #[.int .i64 t, .int .i64 k, .bool d] 47)); have HOa := hid ((ownsRow_below HOwn.out hb2).alloc (.cells #[.int .i64 t, .int .i64 k, .bool d] 47)); have HRa := hid ((HRD.out.below hb2).alloc (.cells #[.int .i64 t, .int .i64 k, .bool d] 47)); have HRN := hid (reads_at (w2.alloc (.cells #[.int .i64 t, .int .i64 k, .bool d] 47)) #[Value.int .i64 t, .int .i64 k, .bool d] 47 (B := w2.heap.size + 1) (size := 3) (n := 1) (by simp) rfl); obtain ⟨a0, a1, a2, _, _, _⟩ := (Blk.new w2 47 #[.int .i64 t, .int .i64 k, .bool d]).three; clear hb2) | (at_builtin; refine wpList_append_any _ rfl _ _ 29 rfl w.heap.size 47 i0 (.agg #[.int .i64 0, .int .i64 0, .bool false]) 3 24 Tryd.underlying29 HI0.out.1 HI0.out.2.1 HI0.out.2.2.1 HI0.out.2.2.2 rfl (by decide) _ _ _ rfl (HOa.out.alloc _) (w2.heap.size + 1 + 1) _ 1 1 [Value.int .i64 t, .int .i64 k, .bool d] rfl HRN.out h1 (by unfold maxLen; omega) (by omega) (by have := HBa.out.size; simp at *; omega) ?_; intro v' w9 hown1 hg1 hat1; obtain ⟨A', c', rfl⟩ := ownsRow_form3 hown1; have hb9 := below_app HBa.out HOa.out (Nat.le_refl _) hg1; have HOw9 := hid hown1; have HG9 := hid hg1; clear hown1 hg1 hat1))
            go_roundw
            case rel =>
              refine ⟨j + 1, A', c', by omega, by go_num, rfl, fun p hp => ?_, by have h := HOw9.out; have h2 := pe_succ (xs := ps) (j := j) (e := ⟨t, k, d⟩) (by rw [HN.out]; exact hlt) (by rw [HQ.out]; exact HPE.out); simp only at h2; rw [h2] at h; exact h, hb9, OwnG.keptL (HRa.out.alloc _) HG9.out (own_apart_ty (HRa.out.alloc (.cells #[.int .i64 t, .int .i64 k, .bool d] 47)).2 (HOa.out.alloc (.cells #[.int .i64 t, .int .i64 k, .bool d] 47)) (by decide))⟩
              rcases Nat.lt_or_ge p j with h | h
              · exact HALL.out p h
              · obtain rfl : p = j := by omega
                rw [HQ.out]; exact HBT.out
            case measure => simp [intOf]; omega
        · obtain rfl : j = N := by omega
          have htk : ps.take j = ps := by rw [← HN.out, List.take_length]
          rw [htk] at HOwn
          clear htk
          have hln : (ps.map peE).length = j := by rw [List.length_map, HN.out]
          have hall2 := l4_evs (ps := ps) (by rw [HN.out]; exact HALL.out)
          have hev3 : (TX.parts 32 L).map peE = ps.map peE := by rw [HPS.out]
          have HIE := hid (sIsEvents_any (cap := c) (show RdE wr A0 j (ps.map peE) from ⟨hln, Reads.of_own HOwn.out⟩) (by unfold maxLen; omega))
          cases hev : EV.isEvs (ps.map peE)
          · have HNN := hid (peL_wrong H0.out (by rw [hev3]; exact hev))
            rw [hev] at HIE
            clear hev hev3 hall2 hln
            go_wp2_with (go_at_call 46; (with_reducible refine HIE.out.mono ?_); rintro e w2 ⟨rfl, hb2⟩; have HB2 := hid (Below.step HBL.out hb2); clear hb2)
            go_ret2
            exact madeNoS HNN.out HB2.out
          · have HYES := hid (peL_yes H0.out (by rw [HPS.out, HN.out]; exact h64) (by rw [HPS.out]; exact hall2) (by rw [hev3]; exact hev))
            rw [hev3] at HYES
            rw [hev] at HIE
            have HLN := hid hln
            clear hev hev3 hall2 hln
            go_wp2_with (go_at_call 46; (with_reducible refine HIE.out.mono ?_); rintro e w2 ⟨rfl, hb2⟩; have HB2 := hid (Below.step HBL.out hb2); have HO2 := hid (ownsRow_below HOwn.out hb2); clear hb2)
            go_ret2
            rw [HYES.out]
            refine ⟨A0, c, ?_, ⟨rfl, ?_⟩, HB2.out⟩
            · rw [Option.getD_some, HLN.out]; rfl
            · rw [Option.getD_some, HLN.out]; exact HO2.out
    · have hN64 : ¬ (N : Int) ≤ 64 := by omega
      have hN65 : (64 : Int) < (N : Int) := by omega
      have hN0 : (0 : Int) < (N : Int) := by omega
      have HNN := hid (peL_long H0.out (by rw [HPS.out, HN.out]; omega))
      go_enter Tryd.func36, Tryd.ntmps36
      go_wp2_with (go_at_call 65; (with_reducible refine (HSP.out _).mono ?_); rintro e w1 ⟨A1, c1, rfl, ho1, hb1⟩; have HB1 := hid (Below.step HB0.out hb1); clear ho1 hb1)
      go_loopw [4, 6, 7, 8] (fun o i _ _ wr => i = .int .i64 0 ∧ w1 = wr) (fun _ _ _ _ _ => 0)
      case atStart => exact ⟨rfl, rfl⟩
      case round =>
        obtain ⟨rfl, rfl⟩ := hrel
        go_wp2_with fail
        go_ret2
        exact madeNoS HNN.out HB1.out
end Go.Proofs.YtpfocjdhjkifmaaDoor
