/- The events of masks by the reference: by contract. Conditions: none. -/
import Derived.Test.YthjgapjagfjamaaEvF
namespace Go.Proofs.Ythjgapjagfjamaa
open Go.RowKit
set_option linter.unusedVariables false

theorem bne_bit (a b k : Nat) : (a ^^^ b).testBit k = (a.testBit k != b.testBit k) := by rw [Nat.testBit_xor]
theorem own_litE (W : World) : OwnE (W.alloc (.cells #[] 26)) W.heap.size (some ⟨W.heap.size, 0, none⟩) 0 0 [] := ⟨rfl, own_litG W _ 3⟩
set_option maxRecDepth 100000 in
set_option maxHeartbeats 1000000 in
theorem sEventsOf_any {w : World} {A : Option Addr} {n cap : Nat} {xs : List Int} (h : RdI w A n xs) (hmx : n ≤ maxLen) (hwf : ∀ z ∈ xs, (Lit.int .i64 z).wf = true) :
    Calls Try.prog 21 #[.slice A n cap] w (MadeE2 w (eoL xs) (eoB xs)) := by
  have hl := h.1
  unfold maxLen at hmx
  by_cases hbig : 200 < n
  · have hno : eoB xs = false := by unfold eoB; rw [decide_eq_false (by omega)]; rfl
    rw [eo_no hno, hno]
    have h0 : (0 : Int) < (n : Int) := by omega
    have h2 : decide ((n : Int) ≤ 200) = false := by simp; omega
    have h3 : (200 : Int) < (n : Int) := by omega
    have hq := own_litG (w.alloc (.cells #[] 26)) 26 3
    rw [World.size_alloc] at hq
    have HQ := hid hq; clear hq
    clear hno h hl
    go_enter Try.func21, Try.ntmps21
    go_wp2_with fail
    refine wp_loop_rounds 1 ?_; rw [rounds_succ]
    go_wp2
    go_ret2
    exact ⟨_, _, rfl, ⟨rfl, ownsRow_base HQ.out (by omega)⟩, ((Below.refl _ _).alloc (Nat.le_refl _) _).alloc (by simp) _⟩
  · obtain ⟨i0, hi, hz0, hz1, hz2⟩ := info_parts ev_info
    have HI0 := hid (And.intro hi (And.intro hz0 (And.intro hz1 hz2))); clear hi hz0 hz1 hz2
    have HR := hid h; clear h
    have HL := hid hl; clear hl
    have hb2 : (n : Int) ≤ 200 := by omega
    go_enter Try.func21, Try.ntmps21
    go_wp2_with fail
    go_loopw [4, 5, 6, 7] (fun o q i _ wr => ∃ (j : Nat) (A : Option Addr) (c : Nat), j ≤ n ∧ i = .int .i64 j ∧ q = .int .i64 (EV.prevM (mN xs) j : Nat) ∧ o = .slice A (EV.evs (mN xs) j).length c ∧ (∀ i, i < j → 0 ≤ xs.getD i 0 ∧ xs.getD i 0 ≤ 4294967295) ∧
      wr.ownsRow w.heap.size 26 3 (.slice A (EV.evs (mN xs) j).length c) (EV.evs (mN xs) j).length (evCs (EV.evs (mN xs) j)) ∧ Below w.heap.size w wr) (fun _ _ i _ _ => n - (intOf i).toNat)
    case atStart => exact ⟨0, _, 0, Nat.zero_le _, rfl, rfl, rfl, fun i hi => absurd hi (by omega), own_litG w _ 3, (Below.refl _ _).alloc (Nat.le_refl _) _⟩
    case round =>
      obtain ⟨j, A0, c, hj, rfl, rfl, rfl, hall, hown, hbel⟩ := hrel
      have HA := hid hall; clear hall
      have HOwn := hid hown; clear hown
      have hlen := evs_len (mN xs) j
      by_cases hlt : j < n
      · obtain ⟨ad, rfl, hc⟩ := (HR.out.below hbel).at_ hlt
        have hlt2 : (j : Int) < (n : Int) := by omega
        by_cases hneg : 0 ≤ xs.getD j 0 ∧ xs.getD j 0 ≤ 4294967295
        · have hev : EV.evs (mN xs) (j + 1) = EV.evs (mN xs) j ++ EV.evB (EV.prevM (mN xs) j) (mN xs j) (j : Nat) 32 := rfl
          have hpv : EV.prevM (mN xs) (j + 1) = mN xs j := rfl
          have hpl : EV.prevM (mN xs) j < 2 ^ 32 := prevM_lt (fun i hi => by have := HA.out i hi; unfold mN; omega)
          have hml : mN xs j < 2 ^ 32 := by unfold mN; omega
          have hxm : xs.getD j 0 = (mN xs j : Nat) := by unfold mN; omega
          have HNG := hid hneg
          have HIN := hid (l1In_yes (xs.getD j 0) 0 4294967295 hneg)
          rw [hxm] at hc HIN
          have HCELL : Hid (∀ W, Below w.heap.size w W → W.cell? (ad.add j) = some (.int .i64 (mN xs j : Nat))) := hid (fun W hb => by
            obtain ⟨a', e, h⟩ := (HR.out.below hb).at_ hlt
            injection e with e
            subst e
            rw [hxm] at h; exact h)
          obtain ⟨L, hL⟩ : ∃ L, EV.evs (mN xs) j = L := ⟨_, rfl⟩
          rw [hL] at hlen HOwn hev ⊢
          have HEVS := hid hev
          have HPV := hid hpv
          generalize mN xs j = mj at *
          obtain ⟨la, hla⟩ : ∃ la, EV.prevM (mN xs) j = la := ⟨_, rfl⟩
          rw [hla] at hpl HEVS ⊢
          have hex := i64_xor_nat mj la (by omega) (by omega)
          have hxl : mj ^^^ la < 4294967296 := Nat.xor_lt_two_pow (n := 32) hml hpl
          clear hev hpv hL hla hxm hneg
          go_wp2_with (go_at_call 37; (with_reducible refine (HIN.out _).mono ?_); rintro e w' ⟨rfl, rfl⟩)
          obtain ⟨wo, rfl⟩ : ∃ wo : World, wo = wr := ⟨_, rfl⟩
          go_loopw [4, 7] (fun o i wr => ∃ (k : Nat) (A : Option Addr) (c : Nat), k ≤ 32 ∧ i = .int .i64 k ∧ o = .slice A (L ++ EV.evB la mj (j : Nat) k).length c ∧
            wr.ownsRow w.heap.size 26 3 (.slice A (L ++ EV.evB la mj (j : Nat) k).length c) (L ++ EV.evB la mj (j : Nat) k).length (evCs (L ++ EV.evB la mj (j : Nat) k)) ∧ Below w.heap.size w wr) (fun _ i _ => 32 - (intOf i).toNat)
          case atStart => exact ⟨0, A0, c, Nat.zero_le _, rfl, by simp [EV.evB], by simpa [EV.evB] using HOwn.out, hbel⟩
          case round =>
            clear hc HOwn hbel
            obtain ⟨k, A1, c1, hk, rfl, rfl, hown, hbel⟩ := hrel
            have HOwn := hid hown; clear hown
            have hlenk := EV.evB_length_le la mj (j : Nat) k
            have hc := HCELL.out _ hbel
            by_cases hk32 : k < 32
            · have e1 := and_one_shr ((mj ^^^ la : Nat) : Int) k (by omega)
              have e2 := and_one_shr (mj : Int) k (by omega)
              rw [tbI_nat, bne_bit] at e1
              rw [tbI_nat] at e2
              have hsu := evB_succ la mj (j : Nat) k
              obtain ⟨M, hM⟩ : ∃ M, L ++ EV.evB la mj (j : Nat) k = M := ⟨_, rfl⟩
              have hMl : M.length ≤ 6432 := by rw [← hM, List.length_append]; omega
              rw [hM] at HOwn ⊢
              have hsu2 : L ++ EV.evB la mj (j : Nat) (k + 1) = if la.testBit k = mj.testBit k then M else M ++ [⟨(j : Nat), (k : Nat), mj.testBit k⟩] := by
                rw [hsu, ← hM]; split <;> simp
              have hk31 : (k : Int) ≤ 31 := by omega
              cases ha : la.testBit k <;> cases hb : mj.testBit k
              all_goals
                rw [ha] at e1 hsu2
                rw [hb] at e1 e2 hsu2
                simp only [bne_self_eq_false, if_true, Bool.false_eq_true, Bool.true_eq_false, if_false, Bool.not_false, Bool.bne_true, Bool.bne_false] at e1 e2 hsu2
                have HSU := hid hsu2
                clear ha hb hsu hsu2 hM
              · go_wp2
                go_roundw
                case rel => exact ⟨k + 1, A1, c1, by omega, by go_num, by rw [HSU.out], by rw [HSU.out]; exact HOwn.out, hbel⟩
                case measure => simp [intOf]; omega
              · have h1 := ev_one ⟨(j : Nat), (k : Nat), true⟩
                go_wp2_with (at_builtin; refine wpList_append_any _ rfl _ _ 32 rfl w.heap.size 26 i0 (.agg #[.int .i64 0, .int .i64 0, .bool false]) 3 24 Try.underlying32 HI0.out.1 HI0.out.2.1 HI0.out.2.2.1 HI0.out.2.2.2 rfl (by decide) _ _ _ rfl (HOwn.out.alloc _) (wr.heap.size + 1) _ 1 1 [Value.int .i64 (j : Int), .int .i64 (k : Int), .bool true] rfl (reads_new wr #[Value.int .i64 (j : Int), .int .i64 (k : Int), .bool true] 26 rfl) h1 (by unfold maxLen; omega) (by omega) (by have := hbel.size; simp; omega) ?_; intro v' w2 hown1 hg1 hat1; obtain ⟨A', c', rfl⟩ := ownsRow_form3 hown1; have hb2 := below_app hbel HOwn.out (Nat.le_refl _) hg1; have HOw2 := hid hown1; clear hown1 hg1 hat1)
                go_roundw
                case rel => exact ⟨k + 1, A', c', by omega, by go_num, by rw [HSU.out, List.length_append]; rfl, by rw [HSU.out, evCs_one, List.length_append]; exact HOw2.out, hb2⟩
                case measure => simp [intOf]; omega
              · have h1 := ev_one ⟨(j : Nat), (k : Nat), false⟩
                go_wp2_with (at_builtin; refine wpList_append_any _ rfl _ _ 32 rfl w.heap.size 26 i0 (.agg #[.int .i64 0, .int .i64 0, .bool false]) 3 24 Try.underlying32 HI0.out.1 HI0.out.2.1 HI0.out.2.2.1 HI0.out.2.2.2 rfl (by decide) _ _ _ rfl (HOwn.out.alloc _) (wr.heap.size + 1) _ 1 1 [Value.int .i64 (j : Int), .int .i64 (k : Int), .bool false] rfl (reads_new wr #[Value.int .i64 (j : Int), .int .i64 (k : Int), .bool false] 26 rfl) h1 (by unfold maxLen; omega) (by omega) (by have := hbel.size; simp; omega) ?_; intro v' w2 hown1 hg1 hat1; obtain ⟨A', c', rfl⟩ := ownsRow_form3 hown1; have hb2 := below_app hbel HOwn.out (Nat.le_refl _) hg1; have HOw2 := hid hown1; clear hown1 hg1 hat1)
                go_roundw
                case rel => exact ⟨k + 1, A', c', by omega, by go_num, by rw [HSU.out, List.length_append]; rfl, by rw [HSU.out, evCs_one, List.length_append]; exact HOw2.out, hb2⟩
                case measure => simp [intOf]; omega
              · go_wp2
                go_roundw
                case rel => exact ⟨k + 1, A1, c1, by omega, by go_num, by rw [HSU.out], by rw [HSU.out]; exact HOwn.out, hbel⟩
                case measure => simp [intOf]; omega
            · obtain rfl : k = 32 := by omega
              go_wp2
              go_roundw
              case rel =>
                refine ⟨j + 1, A1, c1, by omega, by go_num, by rw [HPV.out], by rw [HEVS.out], fun i hi => ?_, by rw [HEVS.out]; exact HOwn.out, hbel⟩
                by_cases e : i = j
                · subst e; exact HNG.out
                · exact HA.out i (by omega)
              case measure => simp [intOf]; omega
        · have hno : eoB xs = false := by unfold eoB; rw [okM_no (by rw [HL.out]; exact hlt) hneg]; simp
          have HNO := hid hno
          clear hno
          have HIN := hid (l1In_no (xs.getD j 0) 0 4294967295 hneg)
          generalize xs.getD j 0 = x at *
          clear hneg
          rw [eo_no HNO.out, HNO.out]
          go_wp2_with (go_at_call 37; (with_reducible refine (HIN.out _).mono ?_); rintro e w' ⟨rfl, rfl⟩)
          go_ret2
          exact ⟨_, _, rfl, ⟨rfl, ownsRow_base (own_litG _ _ 3) hbel.size⟩, hbel.alloc hbel.size _⟩
      · obtain rfl : j = n := by omega
        have hok : okM xs = true := okM_all (fun i hi => HA.out i (by rw [HL.out] at hi; exact hi))
        have h200 : ¬ (200 : Int) < (j : Int) := by omega
        by_cases hlg : (EV.evs (mN xs) j).length ≤ 64
        · have hyes : eoB xs = true := by unfold eoB; rw [hok, HL.out, decide_eq_true (by omega), decide_eq_true hlg]; rfl
          have h64 : ¬ (64 : Int) < ((EV.evs (mN xs) j).length : Int) := by omega
          have HY := hid (And.intro (eo_yes hyes) hyes)
          clear hyes hok
          go_wp2
          go_ret2
          rw [HY.out.1, HY.out.2, HL.out]
          exact ⟨A0, c, rfl, ⟨rfl, HOwn.out⟩, hbel⟩
        · have hno : eoB xs = false := by unfold eoB; rw [HL.out, decide_eq_false hlg]; simp
          have h64 : (64 : Int) < ((EV.evs (mN xs) j).length : Int) := by omega
          have HY := hid (And.intro (eo_no hno) hno)
          clear hno hok
          go_wp2
          go_ret2
          rw [HY.out.1, HY.out.2]
          exact ⟨_, _, rfl, ⟨rfl, ownsRow_base (own_litG _ _ 3) hbel.size⟩, hbel.alloc hbel.size _⟩
end Go.Proofs.Ythjgapjagfjamaa
