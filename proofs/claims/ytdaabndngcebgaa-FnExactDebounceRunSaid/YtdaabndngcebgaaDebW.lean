/- The law that IsDebouncer answers as the reference. Conditions: none of its own. -/
import Derived.Test.YtdaabndngcebgaaDebS
import Derived.Test.YtdaabndngcebgaaDebI
import Derived.Test.YtdaabndngcebgaaDebB
namespace Go.Proofs.Ytdaabndngcebgaa
open Go.RowKit
set_option linter.unusedVariables false

theorem szDebouncer_any {w : World} {A : Option Addr} {n cap : Nat} (hn : n ≤ 1048576) (kd t ks sh la : Int) :
    Calls Try.prog 24 #[dbV kd t ks sh la A n cap, .int .i64 1048576] w fun e w' => e = .returned (.int .i64 (1048576 - n)) ∧ Below w.heap.size w w' := by
  go_enter Try.func24, Try.ntmps24
  go_wp2
  go_ret
  exact ⟨rfl, by (first | (go_grown; done) | (refine below_drewN ?_ _; go_grown; done) | (refine Below.drew (below_drewN ?_ _); go_grown; done))⟩
set_option maxRecDepth 100000 in
theorem walk_FnExactIsDebouncer (kd t ks sh la : Int) (A : Option Addr) (n cap : Nat) (xs : List Int) (w : World) (hin : InInts w A n xs) :
    Calls Try.prog 7 #[dbV kd t ks sh la A n cap] w fun e w' => e = .returned (.bool true) ∧ Below w.heap.size w w' := by
  by_cases hbig : 1048576 < n
  · have hmx := hin.2.1
    unfold maxLen at hmx
    clear hin
    go_enter Try.func7, Try.ntmps7
    go_wp2
    go_ret
    exact ⟨rfl, by (first | (go_grown; done) | (refine below_drewN ?_ _; go_grown; done) | (refine Below.drew (below_drewN ?_ _); go_grown; done))⟩
  · have hn : n ≤ 1048576 := by omega
    have hl := hin.1
    have hR := RdS.mk hin.rd
    clear hin hbig
    subst hl
    have HR := hid hR; clear hR
    have HN := hid hn
    obtain ⟨b, hb⟩ := dbOk_bool kd t ks sh la xs
    have HS := hid (fun (w : World) (A : Option Addr) (c : Nat) (h : RdI w A xs.length xs) => sIsDebouncer_any (cap := c) h HN.out kd t ks sh la b hb)
    have HI := hid (fun (w : World) (A : Option Addr) (c : Nat) (h : RdI w A xs.length xs) => iIsDebouncer_any (cap := c) h HN.out kd t ks sh la b hb)
    have HT := hid (fun (W : World) (h : RdS W A xs.length xs) => toDebouncer_any (cap := cap) h.out HN.out kd t ks sh la)
    have HE := hid (fun (W : World) (A B : Option Addr) (c d : Nat) (h : RdS W A xs.length xs) (h' : RdS W B xs.length xs) => eqDebouncer_same (c := c) (d := d) h.out h'.out HN.out kd t ks sh la)
    clear hb
    go_enter Try.func7, Try.ntmps7
    go_wp2_with fail
    refine (szDebouncer_any HN.out kd t ks sh la).mono ?_
    rintro e w0 ⟨rfl, hb0⟩
    have HR0 := hid ((HR.out.alloc _).below hb0)
    have HB0 := hid ((Blk.new w _ _).bel hb0)
    obtain ⟨hc0, hf0, hz0, hd0⟩ := bcell hb0; (try simp at hz0); replace hb0 := Below.via (B := w.heap.size) (a := w) (by (first | (go_grown; done) | (refine below_drewN ?_ _; go_grown; done) | (refine Below.drew (below_drewN ?_ _); go_grown; done))) hb0 (by go_size); (try have hy0 : w.heap.size < w0.heap.size := by omega); (try have hyy0 : w.heap.size + 1 < w0.heap.size := by omega)
    go_wp2_with fail
    refine (HT.out _ HR0.out).mono ?_
    rintro e w1 ⟨A1, c1, rfl, ho1, hb1⟩
    have HR1 := hid (HR0.out.below hb1)
    have HB1 := hid (HB0.out.bel hb1)
    obtain ⟨hc1, hf1, hz1, hd1⟩ := bcell hb1; (try simp at hz1); replace hb1 := Below.via (B := w.heap.size) (a := w) (by (first | (go_grown; done) | (refine below_drewN ?_ _; go_grown; done) | (refine Below.drew (below_drewN ?_ _); go_grown; done))) hb1 (by go_size); (try have hy1 : w.heap.size < w1.heap.size := by omega); (try have hyy1 : w.heap.size + 1 < w1.heap.size := by omega)
    go_wp2_with fail
    refine (HS.out _ _ _ ho1.rd).mono ?_
    rintro e w2 ⟨rfl, hb2⟩
    have HR2 := hid (HR1.out.below hb2)
    clear ho1
    have HB2 := hid (HB1.out.bel hb2)
    obtain ⟨hc2, hf2, hz2, hd2⟩ := bcell hb2; (try simp at hz2); replace hb2 := Below.via (B := w.heap.size) (a := w) (by (first | (go_grown; done) | (refine below_drewN ?_ _; go_grown; done) | (refine Below.drew (below_drewN ?_ _); go_grown; done))) hb2 (by go_size); (try have hy2 : w.heap.size < w2.heap.size := by omega); (try have hyy2 : w.heap.size + 1 < w2.heap.size := by omega)
    go_wp2_with fail
    refine (HT.out _ HR2.out).mono ?_
    rintro e w3 ⟨A3, c3, rfl, ho3, hb3⟩
    have HR3 := hid (HR2.out.below hb3)
    have HB3 := hid (HB2.out.bel hb3)
    obtain ⟨hc3, hf3, hz3, hd3⟩ := bcell hb3; (try simp at hz3); replace hb3 := Below.via (B := w.heap.size) (a := w) (by (first | (go_grown; done) | (refine below_drewN ?_ _; go_grown; done) | (refine Below.drew (below_drewN ?_ _); go_grown; done))) hb3 (by go_size); (try have hy3 : w.heap.size < w3.heap.size := by omega); (try have hyy3 : w.heap.size + 1 < w3.heap.size := by omega)
    have HO3 := hid ho3; clear ho3
    go_wp2_with fail
    refine (HI.out _ _ _ (HO3.out.rd.alloc _)).mono ?_
    rintro e w4 ⟨rfl, hb4⟩
    have hr4 := (HR3.out.alloc _).below hb4
    have hx4 := (HO3.out.rs.alloc _).below hb4
    obtain ⟨q0, q1, q2, q3, q4, q5⟩ := ((HB3.out.alloc _).bel hb4).six
    obtain ⟨y0, y1, y2, y3, y4, y5⟩ := ((Blk.new w3 _ _).bel hb4).six
    clear HB3 HB2 HB1 HB0
    clear HR3 HR2 HR1 HR0 HO3 HR
    obtain ⟨hc4, hf4, hz4, hd4⟩ := bcell hb4; (try simp at hz4); replace hb4 := Below.via (B := w.heap.size) (a := w) (by (first | (go_grown; done) | (refine below_drewN ?_ _; go_grown; done) | (refine Below.drew (below_drewN ?_ _); go_grown; done))) hb4 (by go_size); (try have hy4 : w.heap.size < w4.heap.size := by omega); (try have hyy4 : w.heap.size + 1 < w4.heap.size := by omega)
    go_wp2_with fail
    go_outline
    go_region_held3 (fun w' => w'.cell? ⟨w3.heap.size, 0, none⟩ = some (.int .i64 kd) ∧ w'.cell? ⟨w3.heap.size, 1, none⟩ = some (.int .i64 t) ∧ w'.cell? ⟨w3.heap.size, 2, none⟩ = some (.int .i64 ks) ∧ w'.cell? ⟨w3.heap.size, 3, none⟩ = some (.int .i64 sh) ∧ w'.cell? ⟨w3.heap.size, 4, none⟩ = some (.int .i64 la) ∧ w'.cell? ⟨w3.heap.size, 5, none⟩ = some (.slice A3 xs.length c3) ∧ w'.cell? ⟨w.heap.size, 0, none⟩ = some (.int .i64 kd) ∧ w'.cell? ⟨w.heap.size, 1, none⟩ = some (.int .i64 t) ∧ w'.cell? ⟨w.heap.size, 2, none⟩ = some (.int .i64 ks) ∧ w'.cell? ⟨w.heap.size, 3, none⟩ = some (.int .i64 sh) ∧ w'.cell? ⟨w.heap.size, 4, none⟩ = some (.int .i64 la) ∧ w'.cell? ⟨w.heap.size, 5, none⟩ = some (.slice A xs.length cap) ∧ Below w.heap.size w w' ∧ RdS w' A xs.length xs ∧ RdS w' A3 xs.length xs) (and_intros <;> first | assumption | (exact Below.drew (by assumption)) | (exact RdS.drew (by assumption)) | (simp (maxDischargeDepth := 20) [*]; done)) (first | (go_at_call 26; (with_reducible refine (HT.out _ (by (first | assumption | (exact RdS.drew (by assumption))))).mono ?_); rintro e w5 ⟨A5, c5, rfl, ho5, hb5⟩; have hr5 := RdS.below (A := A) (by (first | assumption | (exact RdS.drew (by assumption)))) hb5; have hx5 := RdS.below (A := A3) (by (first | assumption | (exact RdS.drew (by assumption)))) hb5; have hy5 := ho5.rs; obtain ⟨hc5, hf5, hz5, hd5⟩ := bcell hb5; replace hb5 := Below.step (by first | assumption | exact Below.drew (by assumption)) hb5) | (go_at_call 28; (with_reducible refine (HE.out _ _ _ _ _ (by (first | assumption | (exact RdS.drew (by assumption)))) (by (first | assumption | (exact RdS.drew (by assumption))))).mono ?_); rintro e w6 ⟨rfl, hb6⟩; have hr6 := RdS.below (A := A) (by (first | assumption | (exact RdS.drew (by assumption)))) hb6; have hx6 := RdS.below (A := A3) (by (first | assumption | (exact RdS.drew (by assumption)))) hb6; obtain ⟨hc6, hf6, hz6, hd6⟩ := bcell hb6; replace hb6 := Below.step (by first | assumption | exact Below.drew (by assumption)) hb6))
    all_goals
      go_wp2
      go_ret
      exact ⟨rfl, by (first | (go_grown; done) | (refine below_drewN ?_ _; go_grown; done) | (refine Below.drew (below_drewN ?_ _); go_grown; done))⟩
end Go.Proofs.Ytdaabndngcebgaa
