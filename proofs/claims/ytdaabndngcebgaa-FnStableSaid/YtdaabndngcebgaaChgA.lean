/- Changes of a key, by contract in both programs; the law on them. Conditions: at most 2^20 samples. -/
import Derived.Test.YtdaabndngcebgaaChgI
namespace Go.Proofs.Ytdaabndngcebgaa
open Go.RowKit
set_option linter.unusedVariables false

theorem l3Key_any (x : Int) (w : World) : Calls Try.prog 39 #[.int .i64 x] w fun e w' => e = .returned (.bool (inB 0 23 x)) ∧ w = w' := by
  have H := hid (l1In_any x 0 23)
  go_enter Try.func39, Try.ntmps39
  go_wp2_with (go_at_call 42; (with_reducible refine (H.out _).mono ?_); rintro e w' ⟨rfl, rfl⟩)
  go_ret
  exact ⟨rfl, rfl⟩
set_option maxHeartbeats 1000000 in
theorem sCountChanges_any {w : World} {A : Option Addr} {n cap : Nat} {xs : List Int} (h : RdI w A n xs) (hr : ∀ x ∈ xs, rng x) (hn : n ≤ 1048576) (key : Int) :
    Calls Try.prog 13 #[.slice A n cap, .int .i64 key] w fun e w' => e = .returned (.int .i64 (ccI xs key)) ∧ w = w' := by
  have Hk := l3Key_any key
  cases hin : inB 0 23 key with
  | false =>
    have hc : ccI xs key = 0 := by unfold ccI; rw [hin]; rfl
    rw [hc]
    rw [hin] at Hk
    have Hk := hid Hk
    clear hc hin h hr
    by_cases h0 : 0 < n
    all_goals
      go_enter Try.func13, Try.ntmps13
      go_wp2_with fail
      refine wp_loop_rounds 1 ?_; rw [rounds_succ]
      go_wp2_with (go_at_call 39; (with_reducible refine (Hk.out _).mono ?_); rintro e w' ⟨rfl, rfl⟩)
      go_ret
      exact ⟨rfl, rfl⟩
  | true =>
    obtain ⟨k0, k1⟩ := inB_out hin
    obtain ⟨K, rfl⟩ := Int.eq_ofNat_of_zero_le k0
    have hl := h.1
    have hc : ccI xs K = ((DB.cnt (kb xs K) n : Nat) : Int) := by unfold ccI; rw [hin, hl]; simp
    rw [hc]
    rw [hin] at Hk
    have Hk := hid Hk
    have HR := hid h
    have HX := hid hr
    clear hc hin h hr
    go_enter Try.func13, Try.ntmps13
    go_wp2_with fail
    go_loop [5, 6, 7] (fun c l i => ∃ k : Nat, k ≤ n ∧ i = .int .i64 k ∧ c = .int .i64 (DB.cnt (kb xs K) k : Nat) ∧ l = .int .i64 (b2i (DB.prev (kb xs K) k))) (fun _ _ i => n - (intOf i).toNat)
    case atStart => exact ⟨0, Nat.zero_le _, rfl, rfl, rfl⟩
    case round =>
      obtain ⟨k, hk, rfl, rfl, rfl⟩ := hrel
      by_cases hlt : k < n
      · obtain ⟨ad, rfl, hcell⟩ := HR.out.at_ hlt
        have e1 := and_one_shr (xs.getD k 0) K (getD_rng HX.out k)
        have hst : DB.cnt (kb xs K) (k + 1) = if kb xs K k = DB.prev (kb xs K) k then DB.cnt (kb xs K) k else DB.cnt (kb xs K) k + 1 := rfl
        have hp : DB.prev (kb xs K) (k + 1) = kb xs K k := rfl
        have hle := DB.cnt_le (kb xs K) k
        change _ = if kb xs K k = true then 1 else 0 at e1
        generalize xs.getD k 0 = x at *
        generalize DB.cnt (kb xs K) k = c at *
        generalize DB.prev (kb xs K) k = p at *
        generalize kb xs K k = b at *
        cases b <;> cases p
        all_goals
          simp only [if_true, Bool.false_eq_true, if_false, Bool.true_eq_false] at e1 hst
          have HS := hid hst; clear hst
          have HP := hid hp; clear hp
          unfold b2i
          simp only [if_true, Bool.false_eq_true, if_false]
          go_wp2_with (go_at_call 39; (with_reducible refine (Hk.out _).mono ?_); rintro e w' ⟨rfl, rfl⟩)
          go_round
          case rel => exact ⟨k + 1, by omega, by go_num, by first | (rw [HS.out]; done) | (rw [HS.out]; go_num), by rw [HP.out]; rfl⟩
          case measure => simp [intOf]; omega
      · obtain rfl : k = n := by omega
        go_wp2
        go_ret
        exact ⟨rfl, rfl⟩

/-- What the law is handed: a slice of ints. -/
def InInts (w : World) (A : Option Addr) (n : Nat) (zs : List Int) : Prop :=
  zs.length = n ∧ n ≤ maxLen ∧ Reads w w.heap.size 1 A n (zs.map (Value.int .i64)) ∧ ∀ z ∈ zs, (Lit.int .i64 z).wf = true
theorem InInts.rd {w : World} {A : Option Addr} {n : Nat} {zs : List Int} (h : InInts w A n zs) : RdI w A n zs := ⟨h.1, h.2.2.1⟩
theorem InInts.rng {w : World} {A : Option Addr} {n : Nat} {zs : List Int} (h : InInts w A n zs) : ∀ z ∈ zs, rng z := fun z hz => i64_wf (h.2.2.2 z hz)
set_option maxRecDepth 100000 in
set_option maxHeartbeats 1000000 in
theorem walk_FnExactCountChanges (A : Option Addr) (n cap : Nat) (xs : List Int) (w : World) (hin : InInts w A n xs) (key : Int) (_ : (Lit.int .i64 key).wf = true) :
    Calls Try.prog 3 #[.slice A n cap, .int .i64 key] w fun e w' => e = .returned (.bool true) ∧ Below w.heap.size w w' := by
  by_cases hbig : 1048576 < n
  · clear hin
    go_enter Try.func3, Try.ntmps3
    go_wp2
    go_ret
    exact ⟨rfl, Below.refl _ _⟩
  · have hn : n ≤ 1048576 := by omega
    have hl := hin.1
    have hR := hin.rd
    have HX := hid hin.rng
    clear hin hbig
    subst hl
    have HR := hid hR; clear hR
    have HN := hid hn
    go_enter Try.func3, Try.ntmps3
    go_wp2_with fail
    refine (toIntS_any HR.out HN.out).mono ?_
    rintro e w1 ⟨A1, c1, rfl, ho1, hb1⟩
    have HR1 := hid (HR.out.below hb1); clear HR
    go_wp2_with fail
    refine (sCountChanges_any ho1.rd HX.out HN.out key).mono ?_
    rintro e w' ⟨rfl, rfl⟩
    go_wp2_with fail
    refine (toIntS_any HR1.out HN.out).mono ?_
    rintro e w2 ⟨A2, c2, rfl, ho2, hb2⟩
    have hb2' : Below w.heap.size w w2 := Below.step hb1 hb2
    have HR2 := hid (HR1.out.below hb2); clear HR1 hb2 hb1 ho1
    go_wp2_with fail
    refine (iCountChanges_any ho2.rd HX.out HN.out key).mono ?_
    rintro e w3 ⟨rfl, hb3⟩
    have ho3 := ho2.below hb3
    have hb3' : Below w.heap.size w w3 := Below.step hb2' hb3
    have HR3 := hid (HR2.out.below hb3); clear HR2 hb3 hb2' ho2
    go_wp2_with fail
    refine (toIntS_any HR3.out HN.out).mono ?_
    rintro e w4 ⟨A4, c4, rfl, ho4, hb4⟩
    have ho3' := ho3.below hb4
    have hb4' : Below w.heap.size w w4 := Below.step hb3' hb4
    clear HR3 hb4 hb3' ho3
    go_wp2_with fail
    refine (eqIntS_same ho3'.rd ho4.rd HN.out).mono ?_
    rintro e w5 ⟨rfl, hb5⟩
    have hb5' : Below w.heap.size w w5 := Below.step hb4' hb5
    clear hb5 hb4' ho4 ho3'
    go_wp2
    go_ret
    exact ⟨rfl, hb5'⟩
end Go.Proofs.Ytdaabndngcebgaa
