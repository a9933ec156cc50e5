/- All keys let go, by the reference: by contract. Conditions: at most 2^20 events. -/
import Derived.Test.YthjgapjagfjamaaEvK
namespace Go.Proofs.Ythjgapjagfjamaa
open Go.RowKit
set_option linter.unusedVariables false

set_option maxRecDepth 100000 in
set_option maxHeartbeats 1000000 in
theorem sReleaseAll_any {w : World} {A : Option Addr} {n cap : Nat} {l : List EV.Ev} (h : RdE w A n l) (hn : n ≤ 1048576) (t : Int) :
    Calls Try.prog 31 #[.slice A n cap, .int .i64 t] w (MadeE2 w (raL l t) (raB l t)) := by
  have hl := h.1
  have hmx : n ≤ maxLen := by unfold maxLen; omega
  have HE := hid (fun (W : World) (h : RdE W A n l) => sIsEvents_any (cap := cap) h hmx)
  have HH := hid (fun (W : World) (h : RdE W A n l) => sHeldAfter_any (cap := cap) h hmx)
  have HR := hid h; clear h
  have HL := hid hl; clear hl hmx
  have hbl := EV.evB_length_le (EV.heldAfter l) 0 t 32
  have HEO := hid (fun (W : World) (A : Option Addr) (c : Nat) (h : RdE W A (n + (EV.evB (EV.heldAfter l) 0 t 32).length) (raO l t)) => sIsEvents_any (cap := c) h (by unfold maxLen; omega))
  have hhl := held_lt l
  have hraL : raL l t = if raB l t then raO l t else [] := rfl
  have hraB : raB l t = (EV.isEvs l && (decide (0 ≤ t) && decide (t ≤ 1000000)) && (decide (l.length = 0) || decide (lastT l ≤ t)) && EV.isEvs (raO l t)) := rfl
  have hraO : raO l t = l ++ EV.evB (EV.heldAfter l) 0 t 32 := rfl
  rw [HL.out] at hraB
  have HLT : Hid (0 < n → ∃ p : Nat, (n : Int) - 1 = (p : Int) ∧ (p : Int) < (n : Int) ∧ ∀ W, Below w.heap.size w W → ∃ ad, A = some ad ∧ W.cell? (ad.add (p * 3)) = some (.int .i64 (lastT l))) := hid (fun h0 => ⟨n - 1, by omega, by omega, fun W hb => by
    obtain ⟨ad, e, p0, _⟩ := (HR.out.below hb).at3 (show n - 1 < n by omega)
    refine ⟨ad, e, ?_⟩
    unfold lastT
    rw [HL.out]; exact p0⟩)
  generalize lastT l = lt at *
  generalize hhd : EV.heldAfter l = hd at *
  have HHD := hid hhd; clear hhd
  generalize hO : raO l t = O at *
  have HOEQ := hid hO
  have HO := hid hraO; clear hO hraO
  have HRL := hid hraL; clear hraL
  obtain ⟨i0, hi, hz0, hz1, hz2⟩ := info_parts ev_info
  have HI0 := hid (And.intro hi (And.intro hz0 (And.intro hz1 hz2))); clear hi hz0 hz1 hz2
  have h1 := evCs_oneC l
  have HRB := hid hraB; clear hraB
  go_enter Try.func31, Try.ntmps31
  go_wp2_with (first | (at_builtin; refine wpList_append_any _ rfl _ _ 32 rfl w.heap.size 26 i0 (.agg #[.int .i64 0, .int .i64 0, .bool false]) 3 24 Try.underlying32 HI0.out.1 HI0.out.2.1 HI0.out.2.2.1 HI0.out.2.2.2 rfl (by decide) _ 0 [] rfl (own_litG w _ 3) (w.alloc (.cells #[] 26)).heap.size _ n cap (evCs l) rfl (HR.out.alloc _).2 h1 (by unfold maxLen; omega) (by omega) (by simp) ?_; intro v' w2 hown1 hg1 hat1; obtain ⟨A2, c2, rfl⟩ := ownsRow_form3 hown1; have hb2 : Below w.heap.size w w2 := below_of_grown ((Below.refl w.heap.size w).alloc (Nat.le_refl _) _) (own_litG w _ 3) (Nat.le_refl _) hg1; have HOw2 := hid (show w2.ownsRow w.heap.size 26 3 (.slice A2 n c2) n (evCs l) by simpa using hown1); rw [Nat.zero_add]; clear hown1 hg1 hat1) | (go_at_call 19; (with_reducible refine (HH.out _ (HR.out.below hb2)).mono ?_); rintro e w3 ⟨rfl, hb3⟩; have HOw3 := hid (ownsRow_below HOw2.out hb3); have hb4 := Below.step hb2 hb3; clear hb3))
  clear h1
  go_loopw [6, 8] (fun o i wr => ∃ (k : Nat) (A' : Option Addr) (c' : Nat), k ≤ 32 ∧ i = .int .i64 k ∧ o = .slice A' (n + (EV.evB hd 0 t k).length) c' ∧
    wr.ownsRow w.heap.size 26 3 (.slice A' (n + (EV.evB hd 0 t k).length) c') (n + (EV.evB hd 0 t k).length) (evCs (l ++ EV.evB hd 0 t k)) ∧ Below w.heap.size w wr) (fun _ i _ => 32 - (intOf i).toNat)
  case atStart => exact ⟨0, A2, c2, Nat.zero_le _, rfl, rfl, by simpa [EV.evB] using HOw3.out, hb4⟩
  case round =>
    clear hb2 hb4 HOw2 HOw3
    obtain ⟨k, A1, c1, hk, rfl, rfl, hown, hbel⟩ := hrel
    have HOwn := hid hown; clear hown
    by_cases hk32 : k < 32
    · have e1 := and_one_shr (hd : Int) k (by omega)
      rw [tbI_nat] at e1
      have hsu := evB_succ hd 0 t k
      have hbk := EV.evB_length_le hd 0 t k
      rw [Nat.zero_testBit] at hsu
      have hk31 : (k : Int) ≤ 31 := by omega
      generalize EV.evB hd 0 t k = M at *
      cases ha : hd.testBit k
      · rw [ha] at e1 hsu
        simp only [if_true, Bool.false_eq_true, if_false] at e1 hsu
        have HSU := hid hsu
        clear ha hsu
        go_wp2
        go_roundw
        case rel => exact ⟨k + 1, A1, c1, by omega, by go_num, by rw [HSU.out], by rw [HSU.out]; exact HOwn.out, hbel⟩
        case measure => simp [intOf]; omega
      · rw [ha] at e1 hsu
        simp only [if_true, Bool.true_eq_false, if_false] at e1 hsu
        have HSU := hid hsu
        clear ha hsu
        have h1 := ev_one ⟨t, (k : Nat), false⟩
        go_wp2_with (at_builtin; refine wpList_append_any _ rfl _ _ 32 rfl w.heap.size 26 i0 (.agg #[.int .i64 0, .int .i64 0, .bool false]) 3 24 Try.underlying32 HI0.out.1 HI0.out.2.1 HI0.out.2.2.1 HI0.out.2.2.2 rfl (by decide) _ _ _ rfl (HOwn.out.alloc _) (wr.heap.size + 1) _ 1 1 [Value.int .i64 t, .int .i64 (k : Int), .bool false] rfl (reads_new wr #[Value.int .i64 t, .int .i64 (k : Int), .bool false] 26 rfl) h1 (by unfold maxLen; omega) (by omega) (by have := hbel.size; simp; omega) ?_; intro v' w2 hown1 hg1 hat1; obtain ⟨A', c', rfl⟩ := ownsRow_form3 hown1; have hb2 := below_app hbel HOwn.out (Nat.le_refl _) hg1; have HOw2 := hid hown1; clear hown1 hg1 hat1)
        go_roundw
        case rel => exact ⟨k + 1, A', c', by omega, by go_num, by rw [HSU.out, List.length_append]; rfl, by rw [HSU.out, List.length_append, ← List.append_assoc, evCs_one]; exact HOw2.out, hb2⟩
        case measure => simp [intOf]; omega
    · obtain rfl : k = 32 := by omega
      have hown2 := HOwn.out
      rw [← HO.out] at hown2
      have HOO := hid hown2; clear hown2
      generalize EV.evB hd 0 t 32 = M at *
      have hOl : O.length = n + M.length := by rw [HO.out, List.length_append, HL.out]
      have HOL := hid hOl; clear hOl
      have HRR := hid (show RdE wr A1 (n + M.length) O from ⟨HOL.out, Reads.of_own HOO.out⟩)
      cases hev : EV.isEvs l
      · rw [hev] at HE HRB
        have hno : raB l t = false := by rw [HRB.out]; rfl
        have HY := hid (And.intro (ra_no hno) hno)
        clear hno hev
        go_wp2_with (first | (go_at_call 15; (with_reducible refine (HE.out _ (HR.out.below hbel)).mono ?_); rintro e w5 ⟨rfl, hb5⟩; have HRR5 := hid (HRR.out.below hb5); have HOO5 := hid (ownsRow_below HOO.out hb5); have hbel5 := Below.step hbel hb5; clear hb5))
        go_ret2
        rw [HY.out.1, HY.out.2]
        exact ⟨_, _, rfl, ⟨rfl, ownsRow_base (own_litG w5 _ 3) hbel5.size⟩, hbel5.alloc hbel5.size _⟩
      · rw [hev] at HE HRB
        clear hev
        cases hio : EV.isEvs O
        · rw [hio] at HEO HRB
          have hno : raB l t = false := by rw [HRB.out]; simp
          have HY := hid (And.intro (ra_no hno) hno)
          clear hno hio
          go_wp2_with (first | (go_at_call 15; (with_reducible refine (HE.out _ (HR.out.below hbel)).mono ?_); rintro e w5 ⟨rfl, hb5⟩; have HRR5 := hid (HRR.out.below hb5); have HOO5 := hid (ownsRow_below HOO.out hb5); have hbel5 := Below.step hbel hb5; clear hb5) | (go_at_call 15; (with_reducible refine (HEO.out _ _ _ HRR5.out).mono ?_); rintro e w6 ⟨rfl, hb6⟩; have HOO6 := hid (ownsRow_below HOO5.out hb6); have hbel6 := Below.step hbel5 hb6; clear hb6))
          go_ret2
          rw [HY.out.1, HY.out.2]
          exact ⟨_, _, rfl, ⟨rfl, ownsRow_base (own_litG w6 _ 3) hbel6.size⟩, hbel6.alloc hbel6.size _⟩
        · rw [hio] at HEO HRB
          clear hio
          by_cases ht : 0 ≤ t ∧ t ≤ 1000000
          · have HIN := hid (l1In_yes t 0 1000000 ht)
            rw [decide_eq_true ht.1, decide_eq_true ht.2] at HRB
            clear ht
            by_cases h0 : n = 0
            · rw [decide_eq_true h0] at HRB
              have hyes : raB l t = true := by rw [HRB.out]; rfl
              have HY := hid (And.intro (ra_yes hyes) hyes)
              have hn2 : decide (0 < n) = false := by simp; omega
              have H0 := hid h0
              clear hyes h0
              go_wp2_with (first | (go_at_call 15; (with_reducible refine (HE.out _ (HR.out.below hbel)).mono ?_); rintro e w5 ⟨rfl, hb5⟩; have HRR5 := hid (HRR.out.below hb5); have HOO5 := hid (ownsRow_below HOO.out hb5); have hbel5 := Below.step hbel hb5; clear hb5) | (go_at_call 15; (with_reducible refine (HEO.out _ _ _ HRR5.out).mono ?_); rintro e w6 ⟨rfl, hb6⟩; have HOO6 := hid (ownsRow_below HOO5.out hb6); have hbel6 := Below.step hbel5 hb6; clear hb6) | (go_at_call 37; (with_reducible refine (HIN.out _).mono ?_); rintro e w' ⟨rfl, rfl⟩))
              go_ret2
              rw [HY.out.1, HY.out.2, HOEQ.out]
              exact ⟨A1, c1, by rw [HOL.out]; rfl, ⟨rfl, by rw [HOL.out]; exact HOO6.out⟩, hbel6⟩
            · rw [decide_eq_false h0] at HRB
              obtain ⟨p, hnp, hpn, hpc⟩ := HLT.out (by omega)
              have HPC := hid hpc
              have hn1 : (0 : Int) < (n : Int) := by omega
              clear hpc h0
              by_cases hlt : t < lt
              · rw [decide_eq_false (show ¬ lt ≤ t by omega)] at HRB
                have hno : raB l t = false := by rw [HRB.out]; rfl
                have HY := hid (And.intro (ra_no hno) hno)
                clear hno
                go_wp2_with (first | (go_at_call 15; (with_reducible refine (HE.out _ (HR.out.below hbel)).mono ?_); rintro e w5 ⟨rfl, hb5⟩; have HRR5 := hid (HRR.out.below hb5); have HOO5 := hid (ownsRow_below HOO.out hb5); have hbel5 := Below.step hbel hb5; clear hb5) | (go_at_call 15; (with_reducible refine (HEO.out _ _ _ HRR5.out).mono ?_); rintro e w6 ⟨rfl, hb6⟩; have HOO6 := hid (ownsRow_below HOO5.out hb6); have hbel6 := Below.step hbel5 hb6; clear hb6; obtain ⟨ad, hA, p0⟩ := HPC.out _ hbel6; subst hA) | (go_at_call 37; (with_reducible refine (HIN.out _).mono ?_); rintro e w' ⟨rfl, rfl⟩))
                go_ret2
                rw [HY.out.1, HY.out.2]
                exact ⟨_, _, rfl, ⟨rfl, ownsRow_base (own_litG w6 _ 3) hbel6.size⟩, hbel6.alloc hbel6.size _⟩
              · rw [decide_eq_true (show lt ≤ t by omega)] at HRB
                have hyes : raB l t = true := by rw [HRB.out]; rfl
                have HY := hid (And.intro (ra_yes hyes) hyes)
                clear hyes
                go_wp2_with (first | (go_at_call 15; (with_reducible refine (HE.out _ (HR.out.below hbel)).mono ?_); rintro e w5 ⟨rfl, hb5⟩; have HRR5 := hid (HRR.out.below hb5); have HOO5 := hid (ownsRow_below HOO.out hb5); have hbel5 := Below.step hbel hb5; clear hb5) | (go_at_call 15; (with_reducible refine (HEO.out _ _ _ HRR5.out).mono ?_); rintro e w6 ⟨rfl, hb6⟩; have HOO6 := hid (ownsRow_below HOO5.out hb6); have hbel6 := Below.step hbel5 hb6; clear hb6; obtain ⟨ad, hA, p0⟩ := HPC.out _ hbel6; subst hA) | (go_at_call 37; (with_reducible refine (HIN.out _).mono ?_); rintro e w' ⟨rfl, rfl⟩))
                go_ret2
                rw [HY.out.1, HY.out.2, HOEQ.out]
                exact ⟨A1, c1, by rw [HOL.out]; rfl, ⟨rfl, by rw [HOL.out]; exact HOO6.out⟩, hbel6⟩
          · have HIN := hid (l1In_no t 0 1000000 ht)
            have hno : raB l t = false := by
              rw [HRB.out]
              by_cases h0 : 0 ≤ t
              · rw [decide_eq_false (show ¬ t ≤ 1000000 from fun h => ht ⟨h0, h⟩)]; simp
              · rw [decide_eq_false h0]; simp
            have HY := hid (And.intro (ra_no hno) hno)
            clear hno ht
            go_wp2_with (first | (go_at_call 15; (with_reducible refine (HE.out _ (HR.out.below hbel)).mono ?_); rintro e w5 ⟨rfl, hb5⟩; have HRR5 := hid (HRR.out.below hb5); have HOO5 := hid (ownsRow_below HOO.out hb5); have hbel5 := Below.step hbel hb5; clear hb5) | (go_at_call 15; (with_reducible refine (HEO.out _ _ _ HRR5.out).mono ?_); rintro e w6 ⟨rfl, hb6⟩; have HOO6 := hid (ownsRow_below HOO5.out hb6); have hbel6 := Below.step hbel5 hb6; clear hb6) | (go_at_call 37; (with_reducible refine (HIN.out _).mono ?_); rintro e w' ⟨rfl, rfl⟩))
            go_ret2
            rw [HY.out.1, HY.out.2]
            exact ⟨_, _, rfl, ⟨rfl, ownsRow_base (own_litG w6 _ 3) hbel6.size⟩, hbel6.alloc hbel6.size _⟩
end Go.Proofs.Ythjgapjagfjamaa
