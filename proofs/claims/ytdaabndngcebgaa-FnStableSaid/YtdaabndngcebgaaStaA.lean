/- The last stable value of a key, by contract in both programs. Conditions: at most 2^20 samples. -/
import Derived.Test.YtdaabndngcebgaaChgA
namespace Go.Proofs.Ytdaabndngcebgaa
open Go.RowKit
set_option linter.unusedVariables false

def lsV (xs : List Int) (time key : Int) : DB.Ls := if inB 1 20 time && inB 0 23 key then DB.lsTo time.toNat (kb xs key.toNat) xs.length else DB.ls0
theorem lsTo_le (t : Nat) (f : Nat → Bool) : ∀ n, (DB.lsTo t f n).run ≤ n
  | 0 => Nat.le_refl _
  | n + 1 => by
    have := lsTo_le t f n
    simp only [DB.lsTo, DB.lsStep]; split <;> omega

set_option maxHeartbeats 2000000 in
theorem sLastStable_any {w : World} {A : Option Addr} {n cap : Nat} {xs : List Int} (h : RdI w A n xs) (hr : ∀ x ∈ xs, rng x) (hn : n ≤ 1048576) (time key : Int) :
    Calls Try.prog 17 #[.slice A n cap, .int .i64 time, .int .i64 key] w fun e w' => e = .returned (.tuple #[.bool (lsV xs time key).value, .bool (lsV xs time key).found]) ∧ Below w.heap.size w w' := by
  have Ht := l1In_any time 1 20
  have Hk := l3Key_any key
  cases ht : inB 1 20 time with
  | false =>
    have hc : lsV xs time key = DB.ls0 := by unfold lsV; rw [ht]; rfl
    rw [hc]
    rw [ht] at Ht
    have Ht := hid Ht
    clear hc ht h hr Hk
    go_enter Try.func17, Try.ntmps17
    go_wp2_with (go_at_call 42; (with_reducible refine (Ht.out _).mono ?_); rintro e w' ⟨rfl, rfl⟩)
    go_ret2
    exact ⟨rfl, Below.refl _ _⟩
  | true =>
    cases hin : inB 0 23 key with
    | false =>
      have hc : lsV xs time key = DB.ls0 := by unfold lsV; rw [ht, hin]; rfl
      rw [hc]
      rw [ht] at Ht
      rw [hin] at Hk
      have Ht := hid Ht
      have Hk := hid Hk
      clear hc ht hin h hr
      go_enter Try.func17, Try.ntmps17
      go_wp2_with (first | (go_at_call 42; (with_reducible refine (Ht.out _).mono ?_); rintro e w' ⟨rfl, rfl⟩) | (go_at_call 39; (with_reducible refine (Hk.out _).mono ?_); rintro e w' ⟨rfl, rfl⟩))
      go_ret2
      exact ⟨rfl, Below.refl _ _⟩
    | true =>
      obtain ⟨k0, k1⟩ := inB_out hin
      obtain ⟨t0, t1⟩ := inB_out ht
      obtain ⟨K, rfl⟩ := Int.eq_ofNat_of_zero_le k0
      obtain ⟨T, rfl⟩ := Int.eq_ofNat_of_zero_le (show 0 ≤ time by omega)
      have hl := h.1
      have hc : lsV xs T K = DB.lsTo T (kb xs K) n := by unfold lsV; rw [ht, hin, hl]; simp
      rw [hc]
      rw [ht] at Ht
      rw [hin] at Hk
      have Ht := hid Ht
      have Hk := hid Hk
      have HR := hid h
      have HX := hid hr
      clear hc ht hin h hr
      go_enter Try.func17, Try.ntmps17
      go_wp2_with (first | (go_at_call 42; (with_reducible refine (Ht.out _).mono ?_); rintro e w' ⟨rfl, rfl⟩) | (go_at_call 39; (with_reducible refine (Hk.out _).mono ?_); rintro e w' ⟨rfl, rfl⟩))
      go_loopw [8, 9, 10, 11] (fun v f r i wr => ∃ k z : Nat, k ≤ n ∧ i = .int .i64 k ∧ v = .bool (DB.lsTo T (kb xs K) k).value ∧ f = .bool (DB.lsTo T (kb xs K) k).found ∧ r = .int .i64 (DB.lsTo T (kb xs K) k).run ∧ wr = w.drewN z) (fun _ _ _ i _ => n - (intOf i).toNat)
      case atStart => exact ⟨0, 0, Nat.zero_le _, rfl, rfl, rfl, rfl, rfl⟩
      case round =>
        obtain ⟨k, z, hk, rfl, rfl, rfl, rfl, rfl⟩ := hrel
        by_cases hlt : k < n
        · obtain ⟨ad, rfl, hcell⟩ := HR.out.at_ hlt
          have e1 := and_one_shr (xs.getD k 0) K (getD_rng HX.out k)
          have hst : DB.lsTo T (kb xs K) (k + 1) = DB.lsStep T (DB.lsTo T (kb xs K) k) (kb xs K k) := rfl
          have hle := lsTo_le T (kb xs K) k
          change _ = if kb xs K k = true then 1 else 0 at e1
          cases k with
          | zero =>
            have hz : ad.add 0 = ad := by cases ad; rfl
            have hc0 := hcell
            rw [hz] at hc0
            have h0 : DB.lsTo T (kb xs K) 0 = DB.ls0 := rfl
            rw [h0] at hst ⊢
            generalize kb xs K 0 = b at *
            generalize xs.getD 0 0 = x at *
            have hs2 : DB.lsStep T DB.ls0 b = ⟨1, b, if T ≤ 1 then b else false, if T ≤ 1 then true else false⟩ := by simp [DB.lsStep, DB.ls0]
            rw [hs2] at hst
            clear hs2
            show _
            have HS := hid hst; clear hst h0 hle
            unfold DB.ls0
            simp only []
            by_cases hT : T ≤ 1
            all_goals
              cases b
              all_goals
                simp only [if_true, Bool.false_eq_true, if_false] at e1
                go_wp2_with fail
                go_quiet (fail)
                go_wp2
                all_goals
                  go_roundw
                  case rel => exact ⟨1, _, by omega, by go_num, by rw [HS.out]; simp [hT], by rw [HS.out]; simp [hT], by rw [HS.out]; rfl, rfl⟩
                  case measure => simp [intOf]; omega
          | succ q =>
            have e2 := and_one_shr (xs.getD q 0) K (getD_rng HX.out q)
            change _ = if kb xs K q = true then 1 else 0 at e2
            obtain ⟨ad2, had2, hcell2⟩ := HR.out.at_ (show q < n by omega)
            have had3 := Option.some.inj had2
            subst had3
            have hpv : (DB.lsTo T (kb xs K) (q + 1)).prev = kb xs K q := rfl
            have hps : 0 < (DB.lsTo T (kb xs K) (q + 1)).run := DB.lsTo_run_pos T (kb xs K) q
            have hst2 : DB.lsTo T (kb xs K) (q + 1 + 1) = DB.lsStep T (DB.lsTo T (kb xs K) (q + 1)) (kb xs K (q + 1)) := hst
            clear hst had2
            obtain ⟨j, hj⟩ : ∃ j, j = q + 1 := ⟨_, rfl⟩
            rw [← hj] at hst2 hle hcell hpv hps e1 hlt hk ⊢
            obtain rfl : q = j - 1 := by omega
            have h1j : 0 < j := by omega
            have hst := hst2; clear hst2 hj
            have hj0 : (0 : Int) ≤ (j : Int) := by omega
            have hj1 : (0 : Int) < (j : Int) := by omega
            have hjl : (j : Int) < (n : Int) := by omega
            have hj3 : (0 : Int) ≤ (j : Int) - 1 := by omega
            have hj4 : (j : Int) - 1 < (n : Int) := by omega
            have t1 : IntKind.i64.wrap ((j : Int) - 1) = (j : Int) - 1 := IntWalk.i64_in _ ⟨by omega, by omega⟩
            have t2 : ((j : Int) - 1).toNat = j - 1 := by omega
            generalize DB.lsTo T (kb xs K) j = s at *
            obtain ⟨r, p, v, f⟩ := s
            simp only [] at hpv hps hle ⊢
            subst hpv
            generalize kb xs K j = b at *
            generalize kb xs K (j - 1) = p at *
            generalize xs.getD j 0 = x at *
            generalize xs.getD (j - 1) 0 = y at *
            by_cases hbp : b = p
            · subst hbp
              have hs2 : DB.lsStep T ⟨r, b, v, f⟩ b = ⟨r + 1, b, if T ≤ r + 1 then b else v, if T ≤ r + 1 then true else f⟩ := by simp [DB.lsStep, hps]
              rw [hs2] at hst
              clear hs2
              have HS := hid hst; clear hst
              by_cases hT : T ≤ r + 1
              all_goals
                cases b
                all_goals
                  simp only [if_true, Bool.false_eq_true, if_false] at e1 e2
                  go_wp2_with fail
                  go_quiet (fail)
                  go_wp2
                  all_goals
                    go_roundw
                    case rel => exact ⟨j + 1, _, by omega, by go_num, by rw [HS.out]; simp [hT], by rw [HS.out]; simp [hT], by rw [HS.out]; go_num, rfl⟩
                    case measure => simp [intOf]; omega
            · have hs2 : DB.lsStep T ⟨r, p, v, f⟩ b = ⟨1, b, if T ≤ 1 then b else v, if T ≤ 1 then true else f⟩ := by simp [DB.lsStep, hbp]
              rw [hs2] at hst
              clear hs2
              have HS := hid hst; clear hst
              by_cases hT : T ≤ 1
              all_goals
                cases b <;> cases p
                all_goals try exact absurd rfl hbp
                all_goals
                  simp only [if_true, Bool.false_eq_true, if_false] at e1 e2
                  clear hbp
                  go_wp2_with fail
                  go_quiet (fail)
                  go_wp2
                  all_goals
                    go_roundw
                    case rel => exact ⟨j + 1, _, by omega, by go_num, by rw [HS.out]; simp [hT], by rw [HS.out]; simp [hT], by rw [HS.out]; rfl, rfl⟩
                    case measure => simp [intOf]; omega
        · obtain rfl : k = n := by omega
          go_wp2
          go_ret2
          exact ⟨rfl, below_drewN (Below.refl _ _) _⟩
end Go.Proofs.Ytdaabndngcebgaa
