/- A part of a text read as an event, by the reference: by contract. Conditions: none. -/
import Derived.Test.YtpfocjdhjkifmaaDoorPevI
import Derived.Deep.RegionHeld3
namespace Go.Proofs.YtpfocjdhjkifmaaDoor
open Go.RowKit
set_option linter.unusedVariables false

def l4E (q : List UInt8) : EV.Ev := if sgI q < q.length then ⟨piN (q.take (sgI q)), piN (q.drop (sgI q + 1)), q.getD (sgI q) 0 == 43⟩ else ⟨0, 0, false⟩
def l4B (q : List UInt8) : Bool := decide (sgI q < q.length) && (piB (q.take (sgI q)) && piB (q.drop (sgI q + 1)) && isEv (l4E q).time (l4E q).key)
theorem l4_yes {q : List UInt8} (h : l4B q = true) : peO q = some (l4E q) ∧ isEv (l4E q).time (l4E q).key = true := by
  unfold l4B at h
  simp only [Bool.and_eq_true, decide_eq_true_eq] at h
  obtain ⟨h1, ⟨h2, h3⟩, h4⟩ := h
  refine ⟨?_, h4⟩
  rw [(pe_out h1).2 h2 h3]
  unfold l4E
  rw [if_pos h1]
theorem l4_no {q L : List UInt8} (h0 : L ≠ []) (hq : q ∈ TX.parts 32 L) (h : l4B q = false) : peL L = none := by
  by_cases h1 : sgI q < q.length
  · cases h2 : piB (q.take (sgI q)) with
    | false => exact peL_bad h0 hq ((pe_out h1).1 (Or.inl h2))
    | true =>
      cases h3 : piB (q.drop (sgI q + 1)) with
      | false => exact peL_bad h0 hq ((pe_out h1).1 (Or.inr h3))
      | true =>
        have hp := (pe_out h1).2 h2 h3
        have he : peE q = l4E q := by unfold peE l4E; rw [hp, if_pos h1]; rfl
        unfold l4B at h
        rw [decide_eq_true h1, h2, h3, Bool.true_and, Bool.true_and, Bool.true_and] at h
        refine peL_wrong h0 ?_
        cases hv : EV.isEvs ((TX.parts 32 L).map peE) with
        | false => rfl
        | true =>
          obtain ⟨i, hi, e⟩ := List.getElem_of_mem hq
          have hm := isEvs_mem hv (j := i) (by rw [List.length_map]; exact hi)
          rw [List.getD_eq_getElem?_getD, List.getElem?_map, List.getElem?_eq_getElem hi, e] at hm
          simp only [Option.map_some, Option.getD_some] at hm
          rw [he] at hm
          unfold isEv at h
          simp only [Bool.and_eq_false_iff, decide_eq_false_iff_not] at h
          omega
  · exact peL_bad h0 hq (by unfold peB; rw [peO_none h1]; rfl)
theorem loadE {w : World} {g : Nat} {v0 v1 v2 : Value} (h0 : w.cell? ⟨g, 0, none⟩ = some v0) (h1 : w.cell? ⟨g, 1, none⟩ = some v1) (h2 : w.cell? ⟨g, 2, none⟩ = some v2) : (loadVar 47 ⟨g, 0, none⟩).run Tryd.prog w = .ok (.agg #[v0, v1, v2]) w := by
  simp [loadVar, go_sem, h0, h1, h2]
theorem retE2 {fn : Func} {R : Ending → World → Prop} {a : Act} {w : World} {s u g : Nat} {v0 v1 v2 v : Value} (hr : fn.results = #[.cell s 47, .tmp u]) (hd : a.defers = []) (hp : a.tmps.getD s undef = .pointer (some ⟨g, 0, none⟩))
    (hb : Blk w g 47 #[v0, v1, v2]) (hv : a.tmps.getD u undef = v) (hR : R (.returned (.tuple #[.agg #[v0, v1, v2], v])) w) : bodyPost Tryd.prog fn R .ret a w :=
  bodyPost_ret (v := .tuple #[.agg #[v0, v1, v2], v]) (by rw [Array.getD_eq_getD_getElem?] at hp hv; simp [results, hr, hp, hv, asAddr, loadE (hb.cell 0) (hb.cell 1) (hb.cell 2)]) hd hR
theorem Blk.three {w : World} {g : Nat} {t : TypeId} {v0 v1 v2 : Value} (h : Blk w g t #[v0, v1, v2]) :
    w.cell? ⟨g, 0, none⟩ = some v0 ∧ w.cell? ⟨g, 1, none⟩ = some v1 ∧ w.cell? ⟨g, 2, none⟩ = some v2 ∧
      w.frozen? ⟨g, 0, none⟩ = false ∧ w.frozen? ⟨g, 1, none⟩ = false ∧ w.frozen? ⟨g, 2, none⟩ = false :=
  ⟨h.cell 0, h.cell 1, h.cell 2, h.frozen 0, h.frozen 1, h.frozen 2⟩
abbrev fill3 (w : World) (g : Nat) (u0 u1 u2 : Value) : World := ((w.setCell ⟨g, 0, none⟩ u0).setCell ⟨g, 1, none⟩ u1).setCell ⟨g, 2, none⟩ u2
theorem Blk.fill3 {w : World} {g : Nat} {t : TypeId} {v0 v1 v2 : Value} (u0 u1 u2 : Value) (h : Blk w g t #[v0, v1, v2]) : Blk (Go.Proofs.YtpfocjdhjkifmaaDoor.fill3 w g u0 u1 u2) g t #[u0, u1, u2] :=
  ((h.set_ 0 u0).set_ 1 u1).set_ 2 u2
theorem below_fill3 {B : Nat} {a w : World} {g : Nat} (u0 u1 u2 : Value) (h : Below B a w) (hg : B ≤ g) : Below B a (fill3 w g u0 u1 u2) :=
  ((h.setCell hg u0).setCell hg u1).setCell hg u2
abbrev e000 : Array Value := #[.int .i64 0, .int .i64 0, .bool false]
theorem pinT_any {w : World} (l : List UInt8) (hl : l.length ≤ 1048576) : Calls Tryd.prog 23 #[.string (st l)] w fun e w' => e = .returned (.tuple #[.int .i64 (piN l), .bool (piB l)]) ∧ Below w.heap.size w w' := sParseInt_any (st l) (by rw [st_size]; unfold maxLen; omega)
theorem sgI_first {q : List UInt8} {j : Nat} (hj : j < q.length) (hno : ∀ p, p < j → isSg (q.getD p 0) = false) (hy : isSg (q.getD j 0) = true) : sgI q = j := by
  have gd : ∀ p (h : p < q.length), q.getD p 0 = q[p] := fun p h => by rw [List.getD_eq_getElem?_getD, List.getElem?_eq_getElem h]; rfl
  rcases Nat.lt_trichotomy (sgI q) j with h | h | h
  · have h1 := hno _ h
    rw [gd _ (by omega)] at h1
    have h3 := sgI_at (l := q) (by omega)
    rw [gd _ (by omega)] at h3
    rw [h3] at h1; cases h1
  · exact h
  · have h2 := List.not_of_lt_findIdx (p := isSg) (xs := q) (i := j) h
    rw [gd _ hj] at hy
    exact absurd hy (by simpa using h2)
theorem sgI_none {q : List UInt8} (hno : ∀ p, p < q.length → isSg (q.getD p 0) = false) : ¬ sgI q < q.length := by
  intro h
  have := sgI_at h
  rw [hno _ h] at this; cases this
theorem undrewE {w w' : World} (h : Below w.drew.heap.size w.drew w') : Below w.heap.size w w' := ⟨h.os, h.tape, h.output, h.size, h.block⟩
theorem cell_fill3 {w : World} {g b o : Nat} {v : Value} (h : w.cell? ⟨g, o, none⟩ = some v) (hne : g ≠ b) (u0 u1 u2 : Value) : (fill3 w b u0 u1 u2).cell? ⟨g, o, none⟩ = some v := by
  have k : ∀ (w : World) (o' : Nat) (u : Value), w.cell? ⟨g, o, none⟩ = some v → (w.setCell ⟨b, o', none⟩ u).cell? ⟨g, o, none⟩ = some v := fun w o' u h => (World.cell?_of_block (a := ⟨g, o, none⟩) (Below.heap_setCell w ⟨b, o', none⟩ u g hne)).trans h
  exact k _ _ _ (k _ _ _ (k _ _ _ h))
set_option maxRecDepth 100000 in
set_option maxHeartbeats 2000000 in
theorem l4Parse_any (q : List UInt8) (hq : q.length ≤ 1048576) (w : World) : Calls Tryd.prog 66 #[.string (st q)] w fun e w' => e = .returned (.tuple #[evV (l4E q), .bool (l4B q)]) ∧ Below w.heap.size w w' := by
  have HQ := hid hq
  have hsz := st_size q
  go_enter Tryd.func66, Tryd.ntmps66
  go_wp2_with fail
  go_loopw [4, 5, 6, 7, 8, 9] (fun i _ _ _ _ _ wr => ∃ j : Nat, j ≤ q.length ∧ i = .int .i64 j ∧ (∀ p, p < j → isSg (q.getD p 0) = false) ∧ Blk wr w.heap.size 47 e000 ∧ Below w.heap.size w wr) (fun i _ _ _ _ _ _ => q.length - (intOf i).toNat)
  case atStart => exact ⟨0, Nat.zero_le _, rfl, fun p hp => by omega, Blk.new _ _ _, (Below.refl _ _).alloc (Nat.le_refl _) _⟩
  case round =>
    obtain ⟨j, hj, rfl, hno, hbx, hbel⟩ := hrel
    have HNO := hid hno
    have HBX := hid hbx
    have HBL := hid hbel
    clear hno hbx hbel
    by_cases hlt : j < q.length
    · have hk0 : (0 : Int) ≤ (j : Int) := by omega
      have hk1 : (j : Int) < ((st q).size : Int) := by omega
      have hk2 : (j : Int) ≤ ((st q).size : Int) := by omega
      have hk3 : (j : Int) + 1 ≤ ((st q).size : Int) := by omega
      have hgb := bytes_get (st q) j (by rw [st_size]; exact hlt)
      obtain ⟨x, hx⟩ : ∃ x, (st q)[j]'(by rw [st_size]; exact hlt) = x := ⟨_, rfl⟩
      rw [hx] at hgb
      have e1 : q.getD j 0 = x := by rw [hgb, List.getD_eq_getElem?_getD, List.getElem?_eq_getElem hlt]; rfl
      by_cases hs : isSg x = true
      · have hsg := sgI_first hlt HNO.out (by rw [e1]; exact hs)
        have hx1 := extract_st (st q) 0 j
        have hx2 := extract_st (st q) (j + 1) (st q).size
        rw [show (st q).data.toList = q from rfl, List.drop_zero, Nat.sub_zero] at hx1
        rw [show (st q).data.toList = q from rfl, st_size, List.take_of_length_le (by rw [List.length_drop]; omega)] at hx2
        have HEE : Hid (l4E q = ⟨piN (q.take j), piN (q.drop (j + 1)), x == 43⟩) := hid (by unfold l4E; rw [hsg, if_pos hlt, e1])
        have HEB : Hid (l4B q = (piB (q.take j) && piB (q.drop (j + 1)) && isEv (piN (q.take j)) (piN (q.drop (j + 1))))) := hid (by unfold l4B; rw [HEE.out, hsg, decide_eq_true hlt, Bool.true_and])
        have hl1 : (q.take j).length ≤ 1048576 := by rw [List.length_take]; omega
        have hl2 : (q.drop (j + 1)).length ≤ 1048576 := by rw [List.length_drop]; omega
        obtain ⟨T, hT⟩ : ∃ T, q.take j = T := ⟨_, rfl⟩
        obtain ⟨K, hK⟩ : ∃ K, q.drop (j + 1) = K := ⟨_, rfl⟩
        rw [hT] at hx1 HEE HEB hl1
        rw [hK] at hx2 HEE HEB hl2
        have HT := hid (fun (W : World) => pinT_any (w := W) T hl1)
        have HK := hid (fun (W : World) => pinT_any (w := W) K hl2)
        clear hT hK hl1 hl2 hsg hgb e1
        unfold isSg at hs
        by_cases h43 : x = 43
        · subst h43
          have c1 : (((43 : UInt8).toNat : Int) == 43) = true := rfl
          have c2 : (43 : UInt8).toNat = 43 := rfl
          rw [show ((43 : UInt8) == 43) = true from rfl] at HEE
          clear hs
          obtain ⟨tn, htn⟩ : ∃ tn, piN T = tn := ⟨_, rfl⟩
          obtain ⟨kn, hkn⟩ : ∃ kn, piN K = kn := ⟨_, rfl⟩
          obtain ⟨tb, htb⟩ : ∃ tb, piB T = tb := ⟨_, rfl⟩
          obtain ⟨kb, hkb⟩ : ∃ kb, piB K = kb := ⟨_, rfl⟩
          rw [htn, htb] at HT
          rw [hkn, hkb] at HK
          rw [htn, hkn] at HEE
          rw [htn, hkn, htb, hkb] at HEB
          have HIE := hid (fun (W : World) => sIsEvent_any tn kn true W)
          generalize isEv tn kn = ie at HIE HEB
          clear htn hkn htb hkb
          cases tb
          · go_wp2_with (first | (go_at_call 23; (with_reducible refine (HT.out _).mono ?_); rintro e w3 ⟨rfl, hb3⟩; have HB3 := hid (Below.step HBL.out hb3); have HX3 := hid (HBX.out.bel hb3); clear hb3) | (go_at_call 23; (with_reducible refine (HK.out _).mono ?_); rintro e w4 ⟨rfl, hb4⟩; have HB4 := hid (Below.step HB3.out hb4); have HX4 := hid (HX3.out.bel hb4); have HXa := hid (HX4.out.alloc (.cells #[.int .i64 tn, .int .i64 kn, .bool true] 47)); have HBa := hid (HB4.out.alloc HB4.out.size (.cells #[.int .i64 tn, .int .i64 kn, .bool true] 47)); have HYa := hid (Blk.new w4 47 #[.int .i64 tn, .int .i64 kn, .bool true]); obtain ⟨a0, a1, a2, _, _, _⟩ := HYa.out.three; obtain ⟨d0, d1, d2, g0, g1, g2⟩ := HXa.out.three; clear hb4))
            (go_region; go_wp2_with fail; refine retE2 (v := .bool false) Tryd.results66 rfl rfl (HXa.out.fill3 (.int .i64 tn) (.int .i64 kn) (.bool true)).drew rfl ?_; exact ⟨by rw [HEE.out, HEB.out]; rfl, Below.drew (below_fill3 _ _ _ HBa.out (Nat.le_refl _))⟩)
          · cases kb
            · go_wp2_with (first | (go_at_call 23; (with_reducible refine (HT.out _).mono ?_); rintro e w3 ⟨rfl, hb3⟩; have HB3 := hid (Below.step HBL.out hb3); have HX3 := hid (HBX.out.bel hb3); clear hb3) | (go_at_call 23; (with_reducible refine (HK.out _).mono ?_); rintro e w4 ⟨rfl, hb4⟩; have HB4 := hid (Below.step HB3.out hb4); have HX4 := hid (HX3.out.bel hb4); have HXa := hid (HX4.out.alloc (.cells #[.int .i64 tn, .int .i64 kn, .bool true] 47)); have HBa := hid (HB4.out.alloc HB4.out.size (.cells #[.int .i64 tn, .int .i64 kn, .bool true] 47)); have HYa := hid (Blk.new w4 47 #[.int .i64 tn, .int .i64 kn, .bool true]); obtain ⟨a0, a1, a2, _, _, _⟩ := HYa.out.three; obtain ⟨d0, d1, d2, g0, g1, g2⟩ := HXa.out.three; clear hb4))
              (go_region; go_wp2_with fail; refine retE2 (v := .bool false) Tryd.results66 rfl rfl (HXa.out.fill3 (.int .i64 tn) (.int .i64 kn) (.bool true)).drew rfl ?_; exact ⟨by rw [HEE.out, HEB.out]; rfl, Below.drew (below_fill3 _ _ _ HBa.out (Nat.le_refl _))⟩)
            · go_wp2_with (first | (go_at_call 23; (with_reducible refine (HT.out _).mono ?_); rintro e w3 ⟨rfl, hb3⟩; have HB3 := hid (Below.step HBL.out hb3); have HX3 := hid (HBX.out.bel hb3); clear hb3) | (go_at_call 23; (with_reducible refine (HK.out _).mono ?_); rintro e w4 ⟨rfl, hb4⟩; have HB4 := hid (Below.step HB3.out hb4); have HX4 := hid (HX3.out.bel hb4); have HXa := hid (HX4.out.alloc (.cells #[.int .i64 tn, .int .i64 kn, .bool true] 47)); have HBa := hid (HB4.out.alloc HB4.out.size (.cells #[.int .i64 tn, .int .i64 kn, .bool true] 47)); have HYa := hid (Blk.new w4 47 #[.int .i64 tn, .int .i64 kn, .bool true]); obtain ⟨a0, a1, a2, _, _, _⟩ := HYa.out.three; obtain ⟨d0, d1, d2, g0, g1, g2⟩ := HXa.out.three; clear hb4))
              (go_region_held3 (fun w' => w'.cell? ⟨w4.heap.size, 0, none⟩ = some (.int .i64 tn) ∧ w'.cell? ⟨w4.heap.size, 1, none⟩ = some (.int .i64 kn) ∧ w'.cell? ⟨w4.heap.size, 2, none⟩ = some (.bool true)) (and_intros <;> first | (with_reducible assumption) | assumption | (simp [*]; done)) ((go_at_call 72; (with_reducible refine (HIE.out _).mono ?_); rintro e w6 ⟨rfl, hb6⟩; (try replace hb6 := undrewE hb6); have HX6 := hid (HXa.out.bel hb6); have HY6 := hid (HYa.out.bel hb6); have HB6 := hid (Below.step HBa.out hb6); obtain ⟨a60, a61, a62, _, _, _⟩ := HY6.out.three; obtain ⟨d60, d61, d62, g60, g61, g62⟩ := HX6.out.three; have t60 := cell_fill3 a60 (Nat.ne_of_gt HX4.out.lt) (.int .i64 tn) (.int .i64 kn) (.bool true); have t61 := cell_fill3 a61 (Nat.ne_of_gt HX4.out.lt) (.int .i64 tn) (.int .i64 kn) (.bool true); have t62 := cell_fill3 a62 (Nat.ne_of_gt HX4.out.lt) (.int .i64 tn) (.int .i64 kn) (.bool true); clear hb6)))
              all_goals
                go_wp2_with fail
                refine retE2 (v := .bool ie) Tryd.results66 rfl rfl (HX6.out.fill3 (.int .i64 tn) (.int .i64 kn) (.bool true)) rfl ?_
                exact ⟨by rw [HEE.out, HEB.out]; rfl, below_fill3 _ _ _ HB6.out (Nat.le_refl _)⟩
        · have h45 : x = 45 := by simp only [Bool.or_eq_true, beq_iff_eq] at hs; rcases hs with h | h; exact absurd h h43; exact h
          subst h45
          have c1 : (((45 : UInt8).toNat : Int) == 43) = false := rfl
          have c2 : (45 : UInt8).toNat = 45 := rfl
          have c3 : (((45 : UInt8).toNat : Int) == 45) = true := rfl
          rw [show ((45 : UInt8) == 43) = false from rfl] at HEE
          clear hs h43
          obtain ⟨tn, htn⟩ : ∃ tn, piN T = tn := ⟨_, rfl⟩
          obtain ⟨kn, hkn⟩ : ∃ kn, piN K = kn := ⟨_, rfl⟩
          obtain ⟨tb, htb⟩ : ∃ tb, piB T = tb := ⟨_, rfl⟩
          obtain ⟨kb, hkb⟩ : ∃ kb, piB K = kb := ⟨_, rfl⟩
          rw [htn, htb] at HT
          rw [hkn, hkb] at HK
          rw [htn, hkn] at HEE
          rw [htn, hkn, htb, hkb] at HEB
          have HIE := hid (fun (W : World) => sIsEvent_any tn kn false W)
          generalize isEv tn kn = ie at HIE HEB
          clear htn hkn htb hkb
          cases tb
          · go_wp2_with (first | (go_at_call 23; (with_reducible refine (HT.out _).mono ?_); rintro e w3 ⟨rfl, hb3⟩; have HB3 := hid (Below.step HBL.out hb3); have HX3 := hid (HBX.out.bel hb3); clear hb3) | (go_at_call 23; (with_reducible refine (HK.out _).mono ?_); rintro e w4 ⟨rfl, hb4⟩; have HB4 := hid (Below.step HB3.out hb4); have HX4 := hid (HX3.out.bel hb4); have HXa := hid (HX4.out.alloc (.cells #[.int .i64 tn, .int .i64 kn, .bool false] 47)); have HBa := hid (HB4.out.alloc HB4.out.size (.cells #[.int .i64 tn, .int .i64 kn, .bool false] 47)); have HYa := hid (Blk.new w4 47 #[.int .i64 tn, .int .i64 kn, .bool false]); obtain ⟨a0, a1, a2, _, _, _⟩ := HYa.out.three; obtain ⟨d0, d1, d2, g0, g1, g2⟩ := HXa.out.three; clear hb4))
            (go_region; go_wp2_with fail; refine retE2 (v := .bool false) Tryd.results66 rfl rfl (HXa.out.fill3 (.int .i64 tn) (.int .i64 kn) (.bool false)).drew rfl ?_; exact ⟨by rw [HEE.out, HEB.out]; rfl, Below.drew (below_fill3 _ _ _ HBa.out (Nat.le_refl _))⟩)
          · cases kb
            · go_wp2_with (first | (go_at_call 23; (with_reducible refine (HT.out _).mono ?_); rintro e w3 ⟨rfl, hb3⟩; have HB3 := hid (Below.step HBL.out hb3); have HX3 := hid (HBX.out.bel hb3); clear hb3) | (go_at_call 23; (with_reducible refine (HK.out _).mono ?_); rintro e w4 ⟨rfl, hb4⟩; have HB4 := hid (Below.step HB3.out hb4); have HX4 := hid (HX3.out.bel hb4); have HXa := hid (HX4.out.alloc (.cells #[.int .i64 tn, .int .i64 kn, .bool false] 47)); have HBa := hid (HB4.out.alloc HB4.out.size (.cells #[.int .i64 tn, .int .i64 kn, .bool false] 47)); have HYa := hid (Blk.new w4 47 #[.int .i64 tn, .int .i64 kn, .bool false]); obtain ⟨a0, a1, a2, _, _, _⟩ := HYa.out.three; obtain ⟨d0, d1, d2, g0, g1, g2⟩ := HXa.out.three; clear hb4))
              (go_region; go_wp2_with fail; refine retE2 (v := .bool false) Tryd.results66 rfl rfl (HXa.out.fill3 (.int .i64 tn) (.int .i64 kn) (.bool false)).drew rfl ?_; exact ⟨by rw [HEE.out, HEB.out]; rfl, Below.drew (below_fill3 _ _ _ HBa.out (Nat.le_refl _))⟩)
            · go_wp2_with (first | (go_at_call 23; (with_reducible refine (HT.out _).mono ?_); rintro e w3 ⟨rfl, hb3⟩; have HB3 := hid (Below.step HBL.out hb3); have HX3 := hid (HBX.out.bel hb3); clear hb3) | (go_at_call 23; (with_reducible refine (HK.out _).mono ?_); rintro e w4 ⟨rfl, hb4⟩; have HB4 := hid (Below.step HB3.out hb4); have HX4 := hid (HX3.out.bel hb4); have HXa := hid (HX4.out.alloc (.cells #[.int .i64 tn, .int .i64 kn, .bool false] 47)); have HBa := hid (HB4.out.alloc HB4.out.size (.cells #[.int .i64 tn, .int .i64 kn, .bool false] 47)); have HYa := hid (Blk.new w4 47 #[.int .i64 tn, .int .i64 kn, .bool false]); obtain ⟨a0, a1, a2, _, _, _⟩ := HYa.out.three; obtain ⟨d0, d1, d2, g0, g1, g2⟩ := HXa.out.three; clear hb4))
              (go_region_held3 (fun w' => w'.cell? ⟨w4.heap.size, 0, none⟩ = some (.int .i64 tn) ∧ w'.cell? ⟨w4.heap.size, 1, none⟩ = some (.int .i64 kn) ∧ w'.cell? ⟨w4.heap.size, 2, none⟩ = some (.bool false)) (and_intros <;> first | (with_reducible assumption) | assumption | (simp [*]; done)) ((go_at_call 72; (with_reducible refine (HIE.out _).mono ?_); rintro e w6 ⟨rfl, hb6⟩; (try replace hb6 := undrewE hb6); have HX6 := hid (HXa.out.bel hb6); have HY6 := hid (HYa.out.bel hb6); have HB6 := hid (Below.step HBa.out hb6); obtain ⟨a60, a61, a62, _, _, _⟩ := HY6.out.three; obtain ⟨d60, d61, d62, g60, g61, g62⟩ := HX6.out.three; have t60 := cell_fill3 a60 (Nat.ne_of_gt HX4.out.lt) (.int .i64 tn) (.int .i64 kn) (.bool false); have t61 := cell_fill3 a61 (Nat.ne_of_gt HX4.out.lt) (.int .i64 tn) (.int .i64 kn) (.bool false); have t62 := cell_fill3 a62 (Nat.ne_of_gt HX4.out.lt) (.int .i64 tn) (.int .i64 kn) (.bool false); clear hb6)))
              all_goals
                go_wp2_with fail
                refine retE2 (v := .bool ie) Tryd.results66 rfl rfl (HX6.out.fill3 (.int .i64 tn) (.int .i64 kn) (.bool false)) rfl ?_
                exact ⟨by rw [HEE.out, HEB.out]; rfl, below_fill3 _ _ _ HB6.out (Nat.le_refl _)⟩
      · have hs' : isSg x = false := by simpa using hs
        have n43 : ¬ x = 43 := by rintro rfl; exact hs rfl
        have n45 : ¬ x = 45 := by rintro rfl; exact hs rfl
        have c1 : ((x.toNat : Int) == 43) = false := by
          rw [beq_eq_false_iff_ne]; intro h; exact n43 (UInt8.toNat_inj.1 (show x.toNat = 43 by omega))
        have c2 : ((x.toNat : Int) == 45) = false := by
          rw [beq_eq_false_iff_ne]; intro h; exact n45 (UInt8.toNat_inj.1 (show x.toNat = 45 by omega))
        have HS := hid (show isSg (q.getD j 0) = false by rw [e1]; exact hs')
        clear hs hs' n43 n45 hgb e1
        go_wp2_with fail
        go_roundw
        case rel =>
          refine ⟨j + 1, by omega, by go_num, fun p hp => ?_, HBX.out, HBL.out⟩
          rcases Nat.lt_or_ge p j with h | h
          · exact HNO.out p h
          · obtain rfl : p = j := by omega
            exact HS.out
        case measure => simp [intOf]; omega
    · obtain rfl : j = q.length := by omega
      have hns := sgI_none HNO.out
      have HEE : Hid (l4E q = ⟨0, 0, false⟩) := hid (by unfold l4E; rw [if_neg hns])
      have HEB : Hid (l4B q = false) := hid (by unfold l4B; rw [decide_eq_false hns]; rfl)
      have hk1 : ¬ (q.length : Int) < ((st q).size : Int) := by omega
      obtain ⟨d0, d1, d2, g0, g1, g2⟩ := HBX.out.three
      clear hns
      go_wp2_with fail
      refine retE2 (v := .bool false) Tryd.results66 rfl rfl (HBX.out.fill3 (.int .i64 0) (.int .i64 0) (.bool false)) rfl ?_
      exact ⟨by rw [HEE.out, HEB.out], below_fill3 _ _ _ HBL.out (Nat.le_refl _)⟩
end Go.Proofs.YtpfocjdhjkifmaaDoor
