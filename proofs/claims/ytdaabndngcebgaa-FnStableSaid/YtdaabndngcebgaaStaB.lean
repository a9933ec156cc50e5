/- The last stable value of a key, the implementation's search from behind, and the law. Conditions: at most 2^20 samples. -/
import Derived.Test.YtdaabndngcebgaaStaA
namespace Go.Proofs.Ytdaabndngcebgaa
open Go.RowKit
set_option linter.unusedVariables false

set_option maxHeartbeats 2000000 in
theorem iLastStable_any {w : World} {A : Option Addr} {n cap : Nat} {xs : List Int} (h : RdI w A n xs) (hr : ∀ x ∈ xs, rng x) (hn : n ≤ 1048576) (time key : Int) :
    Calls Try.prog 18 #[.slice A n cap, .int .i64 time, .int .i64 key] w fun e w' => e = .returned (.tuple #[.bool (lsV xs time key).value, .bool (lsV xs time key).found]) ∧ Below w.heap.size w w' := by
  have Hk := isSwitchKey_any key
  cases ht : inB 1 20 time with
  | false =>
    have hc : lsV xs time key = DB.ls0 := by unfold lsV; rw [ht]; rfl
    rw [hc]
    have htt : time < 1 ∨ (1 ≤ time ∧ 20 < time) := by
      by_cases h1 : time < 1
      · exact .inl h1
      · by_cases h2 : time ≤ 20
        · rw [inB_true ⟨by omega, h2⟩] at ht; cases ht
        · exact .inr ⟨by omega, by omega⟩
    clear hc ht h hr Hk
    rcases htt with h1 | ⟨h1, h2⟩
    all_goals
      go_enter Try.func18, Try.ntmps18
      go_wp2_with fail
      go_ret2
      exact ⟨rfl, Below.refl _ _⟩
  | true =>
    obtain ⟨t0, t1⟩ := inB_out ht
    cases hin : inB 0 23 key with
    | false =>
      have hc : lsV xs time key = DB.ls0 := by unfold lsV; rw [ht, hin]; rfl
      rw [hc]
      rw [hin] at Hk
      have Hk := hid Hk
      clear hc ht hin h hr
      go_enter Try.func18, Try.ntmps18
      go_wp2_with (go_at_call 40; (with_reducible refine (Hk.out _).mono ?_); rintro e w' ⟨rfl, rfl⟩)
      go_ret2
      exact ⟨rfl, Below.refl _ _⟩
    | true =>
      obtain ⟨k0, k1⟩ := inB_out hin
      obtain ⟨K, rfl⟩ := Int.eq_ofNat_of_zero_le k0
      obtain ⟨T, rfl⟩ := Int.eq_ofNat_of_zero_le (show 0 ≤ time by omega)
      have hl := h.1
      have hc : lsV xs T K = DB.lsTo T (kb xs K) n := by unfold lsV; rw [ht, hin, hl]; simp
      rw [hc]
      rw [hin] at Hk
      have Hk := hid Hk
      have HR := hid h
      have HX := hid hr
      have w1 : IntKind.i64.wrap ((n : Int) - 1) = (n : Int) - 1 := IntWalk.i64_in _ ⟨by omega, by omega⟩
      have w2 : IntKind.i64.wrap ((T : Int) - 1) = (T : Int) - 1 := IntWalk.i64_in _ ⟨by omega, by omega⟩
      clear hc ht hin h hr
      go_enter Try.func18, Try.ntmps18
      go_wp2_with (go_at_call 40; (with_reducible refine (Hk.out _).mono ?_); rintro e w' ⟨rfl, rfl⟩)
      go_loopw [8] (fun i wr => ∃ k z : Nat, k ≤ n ∧ i = .int .i64 ((k : Int) - 1) ∧ (DB.lsTo T (kb xs K) n).value = (DB.lsTo T (kb xs K) k).value ∧ (DB.lsTo T (kb xs K) n).found = (DB.lsTo T (kb xs K) k).found ∧ wr = w.drewN z) (fun i _ => ((intOf i) + 1).toNat)
      case atStart => exact ⟨n, 0, Nat.le_refl _, rfl, rfl, rfl, rfl⟩
      case round =>
        obtain ⟨k, z, hk, rfl, hv, hf, rfl⟩ := hrel
        have HV := hid hv; clear hv
        have HF := hid hf; clear hf
        by_cases hlt : T ≤ k
        · have hlt2 : (T : Int) - 1 ≤ (k : Int) - 1 := by omega
          obtain ⟨m, rfl⟩ : ∃ m, k = m + 1 := ⟨k - 1, by omega⟩
          have hmi : ((m + 1 : Nat) : Int) - 1 = (m : Int) := by omega
          rw [hmi] at hlt2 ⊢
          obtain ⟨ad, rfl, hcell⟩ := HR.out.at_ (k := m) (by omega)
          have Hy := bit_any (xs.getD m 0) K (getD_rng HX.out m) (by omega)
          change ∀ w, Calls _ _ _ w fun e w' => e = .returned (.int .i64 (b2i (kb xs K m))) ∧ w = w' at Hy
          generalize xs.getD m 0 = y at *
          have Hy := hid Hy
          clear hmi
          go_wp2_with fail
          go_loopw [9, 32] (fun sm q wr => ∃ (j z2 : Nat) (b : Bool), j ≤ T ∧ q = .int .i64 j ∧ sm = .bool b ∧ (b = true ↔ ∀ i, i < j → kb xs K (m - i) = kb xs K m) ∧ wr = w.drewN z2) (fun _ q _ => T - (intOf q).toNat)
          case atStart => exact ⟨0, _, true, Nat.zero_le _, rfl, rfl, ⟨fun _ i hi => by omega, fun _ => rfl⟩, rfl⟩
          case round =>
            obtain ⟨j, z2, b, hj, rfl, rfl, hb, rfl⟩ := hrel
            by_cases hjt : j < T
            · obtain ⟨ad2, had2, hcell2⟩ := HR.out.at_ (k := m - j) (by omega)
              have had3 := Option.some.inj had2
              subst had3
              have Hx := bit_any (xs.getD (m - j) 0) K (getD_rng HX.out (m - j)) (by omega)
              change ∀ w, Calls _ _ _ w fun e w' => e = .returned (.int .i64 (b2i (kb xs K (m - j)))) ∧ w = w' at Hx
              have r1 : (0 : Int) ≤ (m : Int) - (j : Int) := by omega
              have r2 : (m : Int) - (j : Int) < (n : Int) := by omega
              have r3 : IntKind.i64.wrap ((m : Int) - (j : Int)) = (m : Int) - (j : Int) := IntWalk.i64_in _ ⟨by omega, by omega⟩
              have r4 : ((m : Int) - (j : Int)).toNat = m - j := by omega
              have r5 : (m : Int) < (n : Int) := by omega
              have hstep : ((b && decide (kb xs K (m - j) = kb xs K m)) = true ↔ ∀ i, i < j + 1 → kb xs K (m - i) = kb xs K m) := by
                rw [Bool.and_eq_true, decide_eq_true_iff, hb]
                constructor
                · rintro ⟨h1, h2⟩ i hi
                  by_cases e : i = j
                  · rw [e]; exact h2
                  · exact h1 i (by omega)
                · intro h1
                  exact ⟨fun i hi => h1 i (by omega), h1 j (by omega)⟩
              have HS := hid hstep
              clear hb hstep had2
              generalize xs.getD (m - j) 0 = x at *
              have Hx := hid Hx
              cases b with
              | false =>
                go_wp2_with fail
                go_quiet (fail)
                go_wp2
                go_roundw
                case rel => exact ⟨j + 1, _, false, by omega, by go_num, rfl, by simpa using HS.out, rfl⟩
                case measure => simp [intOf]; omega
              | true =>
                go_wp2_with fail
                go_quiet (first | exact (Hx.out _).mono (by rintro e w' ⟨rfl, rfl⟩; exact ⟨rfl, _, rfl⟩) | exact (Hy.out _).mono (by rintro e w' ⟨rfl, rfl⟩; exact ⟨rfl, _, rfl⟩))
                go_wp2
                go_roundw
                case rel => exact ⟨j + 1, _, decide (kb xs K (m - j) = kb xs K m), by omega, by go_num, by unfold b2i; cases kb xs K (m - j) <;> cases kb xs K m <;> rfl, by simpa using HS.out, rfl⟩
                case measure => simp [intOf]; omega
            · obtain rfl : j = T := by omega
              have HB := hid hb; clear hb
              cases b with
              | false =>
                have hns : ¬ DB.stabAt j (kb xs K) m := fun hs => by
                  have := HB.out.2 hs.2
                  cases this
                have hlo := DB.lsTo_no j (by omega) (kb xs K) m hns
                have HLO := hid hlo; clear hlo hns
                go_wp2_with fail
                go_roundw
                case rel => exact ⟨m, _, by omega, rfl, HV.out.trans HLO.out.1, HF.out.trans HLO.out.2, rfl⟩
                case measure => first | (simp [intOf]; done) | (simp [intOf]; omega)
              | true =>
                have hs : DB.stabAt j (kb xs K) m := ⟨by omega, HB.out.1 rfl⟩
                have hlo := DB.lsTo_yes j (by omega) (kb xs K) m hs
                have HLO := hid hlo; clear hlo hs
                go_wp2_with (go_at_call 43; (with_reducible refine (Hy.out _).mono ?_); rintro e w' ⟨rfl, rfl⟩)
                go_ret2
                exact ⟨by rw [HV.out, HF.out, HLO.out.1, HLO.out.2]; unfold b2i; cases kb xs K m <;> rfl, below_drewN (Below.refl _ _) _⟩
        · have hlt2 : (k : Int) - 1 < (T : Int) - 1 := by omega
          have hs := DB.lsTo_short T (by omega) (kb xs K) k (by omega)
          have HSH := hid hs; clear hs
          go_wp2_with fail
          go_ret2
          exact ⟨by rw [HV.out, HF.out, HSH.out.1, HSH.out.2]; rfl, below_drewN (Below.refl _ _) _⟩

theorem walk_FnExactLastStable (A : Option Addr) (n cap : Nat) (xs : List Int) (w : World) (hin : InInts w A n xs) (time : Int) (_ : (Lit.int .i64 time).wf = true) (key : Int) (_ : (Lit.int .i64 key).wf = true) :
    Calls Try.prog 4 #[.slice A n cap, .int .i64 time, .int .i64 key] w fun e w' => e = .returned (.bool true) ∧ Below w.heap.size w w' := by
  by_cases hbig : 1048576 < n
  · clear hin
    go_enter Try.func4, Try.ntmps4
    go_wp2
    go_ret
    exact ⟨rfl, Below.refl _ _⟩
  · have hn : n ≤ 1048576 := by omega
    have hl := hin.1
    have hR := hin.rd
    have HX := hid hin.rng
    clear hin hbig
    subst hl
    have HR := hid hR; clear hR
    have HN := hid hn
    have HS := hid (fun (w : World) (A : Option Addr) (c : Nat) (h : RdI w A xs.length xs) => sLastStable_any (cap := c) h HX.out HN.out time key)
    have HI := hid (fun (w : World) (A : Option Addr) (c : Nat) (h : RdI w A xs.length xs) => iLastStable_any (cap := c) h HX.out HN.out time key)
    generalize (lsV xs time key).value = v at HS HI
    generalize (lsV xs time key).found = f at HS HI
    go_enter Try.func4, Try.ntmps4
    go_wp2_with fail
    refine (toIntS_any HR.out HN.out).mono ?_
    rintro e w1 ⟨A1, c1, rfl, ho1, hb1⟩
    have HR1 := hid (HR.out.below hb1); clear HR
    go_wp2_with fail
    refine (HS.out _ _ _ ho1.rd).mono ?_
    rintro e w1' ⟨rfl, hb1'⟩
    have hb1 := Below.step hb1 hb1'
    have HR1 := hid (HR1.out.below hb1')
    clear hb1' ho1
    go_wp2_with fail
    refine (toIntS_any HR1.out HN.out).mono ?_
    rintro e w2 ⟨A2, c2, rfl, ho2, hb2⟩
    have hb2' : Below w.heap.size w w2 := Below.step hb1 hb2
    have HR2 := hid (HR1.out.below hb2); clear HR1 hb2 hb1
    go_wp2_with fail
    refine (HI.out _ _ _ ho2.rd).mono ?_
    rintro e w3 ⟨rfl, hb3⟩
    have ho3 := ho2.below hb3
    have hb3' : Below w.heap.size w w3 := Below.step hb2' hb3
    have HR3 := hid (HR2.out.below hb3); clear HR2 hb3 hb2' ho2
    go_wp2_with fail
    refine (toIntS_any HR3.out HN.out).mono ?_
    rintro e w4 ⟨A4, c4, rfl, ho4, hb4⟩
    have ho3' := ho3.below hb4
    have hb4' : Below w.heap.size w w4 := Below.step hb3' hb4
    clear HR3 hb4 hb3' ho3
    go_wp2_with fail
    refine (eqIntS_same ho3'.rd ho4.rd HN.out).mono ?_
    rintro e w5 ⟨rfl, hb5⟩
    have hb5' : Below w.heap.size w w5 := Below.step hb4' hb5
    clear hb5 hb4' ho4 ho3'
    go_wp2
    go_ret
    exact ⟨rfl, hb5'⟩
end Go.Proofs.Ytdaabndngcebgaa
