/- Drawn matrices with two masks, by their contract: they are valid, and the second mask holds the first. Conditions: none. -/
import Derived.Test.YtmhpepicmnjmgaaMatH
import Derived.Test.YtmhpepicmnjmgaaCur
namespace Go.Proofs.Ytmhpepicmnjmgaa
open Go.RowKit
set_option linter.unusedVariables false

def DrawnMx (w : World) (g B : Nat) (A : Option Addr) (n cap : Nat) (bs : List Int) (e : Ending) (w' : World) : Prop :=
  ∃ (R C k : Nat) (d : Bool), Mx R C k ∧ e = .returned (.agg #[.int .i64 R, .int .i64 C, .bool d]) ∧ Cur w' g B A n cap bs ∧ w.grownBy w' (some g)
theorem l2Matrix_any {w : World} {g B n cap : Nat} {A : Option Addr} {bs : List Int} (h : Cur w g B A n cap bs) :
    Calls Try.prog 39 #[.pointer (some ⟨g, 0, none⟩)] w (DrawnMx w g B A n cap bs) := by
  go_enter Try.func39, Try.ntmps39
  go_wp2_with fail
  refine (l1Below_any (by (first | assumption | (exact Cur.alloc (by assumption) _) | (exact Cur.drewN (by assumption) _) | (exact Cur.drew (by assumption)) | (exact Cur.alloc (Cur.alloc (by assumption) _) _) | (exact Cur.drewN (Cur.alloc (by assumption) _) _) | (refine Cur.far ?_ ?_ ?_ _ <;> first | assumption | (simp; done) | (simp; omega)))) 4 (by omega) (by omega)).mono ?_
  rintro e w1 ⟨x, ⟨x0, x1⟩, rfl, hc1, hg1⟩
  go_wp2_with fail
  refine (l1Below_any (by (first | assumption | (exact Cur.alloc (by assumption) _) | (exact Cur.drewN (by assumption) _) | (exact Cur.drew (by assumption)) | (exact Cur.alloc (Cur.alloc (by assumption) _) _) | (exact Cur.drewN (Cur.alloc (by assumption) _) _) | (refine Cur.far ?_ ?_ ?_ _ <;> first | assumption | (simp; done) | (simp; omega)))) 6 (by omega) (by omega)).mono ?_
  rintro e w2 ⟨y, ⟨y0, y1⟩, rfl, hc2, hg2⟩
  go_wp2_with fail
  refine (l1Once_any (by (first | assumption | (exact Cur.alloc (by assumption) _) | (exact Cur.drewN (by assumption) _) | (exact Cur.drew (by assumption)) | (exact Cur.alloc (Cur.alloc (by assumption) _) _) | (exact Cur.drewN (Cur.alloc (by assumption) _) _) | (refine Cur.far ?_ ?_ ?_ _ <;> first | assumption | (simp; done) | (simp; omega)))) 4 (by omega) (by omega)).mono ?_
  rintro e w3 ⟨d, rfl, hc3, hg3⟩
  have hlt := h.lt
  have hne : some w.heap.size ≠ some g := by intro e; injection e with e; omega
  have hk := (((Blk.new w 25 #[.int .i64 0, .int .i64 0, .bool false]).grown hg1 hne).grown hg2 hne).grown hg3 hne
  have hG := only_trans (only_trans (only_first hg1) hg2) hg3
  have m0 := hk.cell 0
  have m1 := hk.cell 1
  have m2 := hk.cell 2
  have f0 := hk.frozen 0
  have f1 := hk.frozen 1
  have f2 := hk.frozen 2
  simp only [List.getElem?_toArray, List.getElem?_cons_zero, List.getElem?_cons_succ] at m0 m1 m2
  have HK := hid hk; clear hk hne
  go_wp2
  refine bodyPost_ret (v := .agg #[.int .i64 (1 + x), .int .i64 (1 + y), .bool d]) (by simp [results, Try.results39, go_sem, m0, m1, m2]) rfl ?_
  refine ⟨(1 + x).toNat, (1 + y).toNat, _, d, ⟨by omega, by omega, by omega, by omega, rfl⟩, ?_, ?_, ?_⟩
  · rw [Int.toNat_of_nonneg (by omega), Int.toNat_of_nonneg (by omega)]
  · exact ((hc3.far (by simp; omega) (by simp; have := h.out.1; omega) _).far (by simp; omega) (by simp; have := h.out.1; omega) _).far (by simp; omega) (by simp; have := h.out.1; omega) _
  · exact only_far (only_far (only_far hG (Nat.le_refl _) _) (Nat.le_refl _) _) (Nat.le_refl _) _
theorem BoxM.only {w w' : World} {b R C g : Nat} {d : Bool} (h : BoxM w b R C d) (hg : w.grownBy w' (some g)) (hne : b ≠ g) : BoxM w' b R C d := by
  have hb := hg.block b h.lt (by intro e; injection e with e; omega)
  exact ⟨(World.cell?_of_block (a := ⟨b, 0, none⟩) hb).trans h.1, (World.cell?_of_block (a := ⟨b, 1, none⟩) hb).trans h.2.1, (World.cell?_of_block (a := ⟨b, 2, none⟩) hb).trans h.2.2⟩
theorem or_pow {k o x : Nat} (hk : k ≤ 24) (ho : o < 2 ^ k) (hx : x < k) : o ||| 2 ^ x < 2 ^ k ∧ bits .or .i64 (o : Int) ((2 : Int) ^ x) = ((o ||| 2 ^ x : Nat) : Int) ∧ IntKind.i64.wrap ((2 : Int) ^ x) = ((2 ^ x : Nat) : Int) := by
  have hp : 2 ^ x < 2 ^ k := Nat.pow_lt_pow_right (by omega) hx
  have h3 : 2 ^ k ≤ 2 ^ 24 := Nat.pow_le_pow_right (by omega) hk
  have h4 : (2 : Nat) ^ 24 = 16777216 := by decide
  have e : (2 : Int) ^ x = ((2 ^ x : Nat) : Int) := by simp
  refine ⟨Nat.or_lt_two_pow ho hp, ?_, shl_one x (by omega)⟩
  rw [e]; exact i64_or_nat _ _ (by omega) (by omega)
theorem and_all {k o : Nat} (hk : k ≤ 24) (ho : o < 2 ^ k) : bits .and .i64 (o : Int) ((2 : Int) ^ k - 1) = (o : Int) := by
  have h3 : 2 ^ k ≤ 2 ^ 24 := Nat.pow_le_pow_right (by omega) hk
  have h4 : (2 : Nat) ^ 24 = 16777216 := by decide
  rw [bits_mask _ _ (by omega) hk, Nat.mod_eq_of_lt ho]
def DrawnMask (k : Nat) (w : World) (g B : Nat) (A : Option Addr) (n cap : Nat) (bs : List Int) (e : Ending) (w' : World) : Prop :=
  ∃ o : Nat, o < 2 ^ k ∧ e = .returned (.int .i64 o) ∧ Cur w' g B A n cap bs ∧ w.grownBy w' (some g)
theorem l2Pressed_any {R C k : Nat} (hm : Mx R C k) (d : Bool) {w : World} {g B n cap : Nat} {A : Option Addr} {bs : List Int} (h : Cur w g B A n cap bs) :
    Calls Try.prog 40 #[.pointer (some ⟨g, 0, none⟩), .agg #[.int .i64 R, .int .i64 C, .bool d]] w (DrawnMask k w g B A n cap bs) := by
  have Hk := hid (sKeyCount_yes hm d)
  have k24 := hm.k24
  clear hm
  have hlt := h.lt
  have hne : w.heap.size ≠ g := by omega
  obtain ⟨p1, p2⟩ := pow_rng k24.1
  have hs := shl_one k (by omega)
  go_enter Try.func40, Try.ntmps40
  go_wp2_with fail
  refine (l1Below_any (by (first | assumption | (exact Cur.alloc (by assumption) _) | (exact Cur.drewN (by assumption) _) | (exact Cur.drew (by assumption)) | (exact Cur.alloc (Cur.alloc (by assumption) _) _) | (exact Cur.drewN (Cur.alloc (by assumption) _) _) | (refine Cur.far ?_ ?_ ?_ _ <;> first | assumption | (simp; done) | (simp; omega)))) 7 (by omega) (by omega)).mono ?_
  rintro e w1 ⟨x, ⟨x0, x1⟩, rfl, hc1, hg1⟩
  have hbox := (BoxM.new w R C d 25).only hg1 hne
  have hG := only_first hg1
  clear hg1
  go_wp2_with fail
  go_loopw [5, 6] (fun o i wr => ∃ j p : Nat, j ≤ 7 ∧ i = .int .i64 j ∧ o = .int .i64 p ∧ p < 2 ^ k ∧ BoxM wr w.heap.size R C d ∧ Cur wr g B A n cap bs ∧ w.grownBy wr (some g)) (fun _ i _ => (intOf i).toNat)
  case atStart => exact ⟨x.toNat, 0, by omega, by rw [Int.toNat_of_nonneg x0], rfl, Nat.two_pow_pos _, hbox, hc1, hG⟩
  case round =>
    clear hbox hc1 hG
    obtain ⟨j, p, hj7, rfl, rfl, hp, hbox, hc, hG⟩ := hrel
    have HB := hid hbox
    obtain ⟨m0, m1, m2⟩ := hbox
    by_cases hj : 0 < j
    · go_wp2_with fail
      refine (Hk.out _).mono ?_
      rintro e w2 ⟨rfl, hb2⟩
      have hc2 := hc.below hb2 hc.lt
      have HB2 := hid (HB.out.below hb2)
      have hG2 := only_trans hG (only_below hb2 _)
      clear hc HB hG hb2 m0 m1 m2
      go_wp2_with fail
      refine (l1Below_any (by (first | assumption | (exact Cur.alloc (by assumption) _) | (exact Cur.drewN (by assumption) _) | (exact Cur.drew (by assumption)) | (exact Cur.alloc (Cur.alloc (by assumption) _) _) | (exact Cur.drewN (Cur.alloc (by assumption) _) _) | (refine Cur.far ?_ ?_ ?_ _ <;> first | assumption | (simp; done) | (simp; omega)))) k (by omega) (by omega)).mono ?_
      rintro e w3 ⟨y, ⟨y0, y1⟩, rfl, hc3, hg3⟩
      have HB3 := hid (HB2.out.only hg3 hne)
      have hG3 := only_trans hG2 hg3
      obtain ⟨Y, rfl⟩ := Int.eq_ofNat_of_zero_le y0
      obtain ⟨q1, q2, q3⟩ := or_pow k24.1 hp (show Y < k by omega)
      clear hc2 HB2 hG2 hg3
      go_wp2
      go_roundw
      case rel => exact ⟨j - 1, _, by omega, by go_num, rfl, q1, HB3.out, hc3, hG3⟩
      case measure => simp [intOf]; omega
    · obtain rfl : j = 0 := by omega
      have hq := and_all k24.1 hp
      go_wp2_with (go_at_call 18; (with_reducible refine (Hk.out _).mono ?_); rintro e w2 ⟨rfl, hb2⟩; have hc2 := hc.below hb2 hc.lt)
      go_ret
      exact ⟨p, hp, rfl, hc2, only_trans hG (only_below hb2 _)⟩
/-- What MakeMatrix hands back. -/
def MadeMx (w : World) (e : Ending) (w' : World) : Prop :=
  ∃ (R C k a b : Nat) (d : Bool), Mx R C k ∧ a < 2 ^ k ∧ b < 2 ^ k ∧ MM.Bits a b ∧ e = .returned (.tuple #[.agg #[.int .i64 R, .int .i64 C, .bool d], .int .i64 a, .int .i64 b]) ∧ Below w.heap.size w w'
set_option maxHeartbeats 2000000 in
theorem MakeMatrix_any {w : World} {n cap : Nat} {A : Option Addr} {bs : List Int} (h : Code w w.heap.size A n bs) : Calls Try.prog 23 #[.slice A n cap] w (MadeMx w) := by
  go_enter Try.func23, Try.ntmps23
  go_wp2_with fail
  refine (l24New_any (bs := bs) (h.below ((Below.refl _ _).alloc (Nat.le_refl _) _)) (by simp) 1).mono ?_
  rintro e w1 ⟨g, rfl, hc1, hg, hb⟩
  rw [World.size_alloc] at hg hb
  have hne : some w.heap.size ≠ some g := by intro e; injection e with e; omega
  have hk1 := (Blk.new w 25 #[.int .i64 0, .int .i64 0, .bool false]).below hb (Nat.lt_succ_self _)
  have hB1 : Below w.heap.size w w1 := ((Below.refl _ _).alloc (Nat.le_refl _) _).trans (hb.mono (Nat.le_succ _))
  clear hb h
  go_wp2_with fail
  refine (l2Matrix_any hc1).mono ?_
  rintro e w2 ⟨R, C, k, d, hm, rfl, hc2, hg2⟩
  have hk2 := hk1.grown hg2 hne
  have hB2 := hB1.trans (below_only hg2 (show w.heap.size ≤ g by omega) hB1.size)
  have hglt := hc2.lt
  clear hc1 hk1 hB1 hg2
  have Hm := hid hm; clear hm
  go_wp2_with fail
  refine (l2Pressed_any Hm.out d (by (first | assumption | (exact Cur.alloc (by assumption) _) | (exact Cur.drewN (by assumption) _) | (exact Cur.drew (by assumption)) | (exact Cur.alloc (Cur.alloc (by assumption) _) _) | (exact Cur.drewN (Cur.alloc (by assumption) _) _) | (refine Cur.far ?_ ?_ ?_ _ <;> first | assumption | (simp; done) | (simp; omega))))).mono ?_
  rintro e w3 ⟨a, ha, rfl, hc3, hg3⟩
  have hlt2 := hk2.lt
  have hk3 := (hk2.alloc _).grown hg3 hne
  have hne2 : w2.heap.size ≠ g := by omega
  have hbox := (BoxM.new w2 R C d 25).only hg3 hne2
  have hB3 := (hB2.alloc hB2.size _).trans (below_only hg3 (show w.heap.size ≤ g by omega) (by have := hB2.size; simp; omega))
  clear hk2 hB2 hg3 hc2
  have Ha := hid ha; clear ha
  obtain ⟨m0, m1, m2⟩ := hbox
  have r0 := hk3.cell 0
  have r1 := hk3.cell 1
  have r2 := hk3.cell 2
  have f0 := hk3.frozen 0
  have f1 := hk3.frozen 1
  have f2 := hk3.frozen 2
  simp only [List.getElem?_toArray, List.getElem?_cons_zero, List.getElem?_cons_succ] at r0 r1 r2
  have HK := hid hk3; clear hk3
  have hn1 : w.heap.size ≠ g := by omega
  have hn2 : g ≠ w.heap.size := by omega
  have hn3 : w.heap.size ≠ w2.heap.size := by omega
  have hn4 : w2.heap.size ≠ w.heap.size := by omega
  have hn5 : g ≠ w2.heap.size := by omega
  go_wp2
  go_region_held3 (fun w' => w'.cell? ⟨w2.heap.size, 0, none⟩ = some (.int .i64 R) ∧ w'.cell? ⟨w2.heap.size, 1, none⟩ = some (.int .i64 C) ∧ w'.cell? ⟨w2.heap.size, 2, none⟩ = some (.bool d) ∧ (w'.cell? ⟨w.heap.size, 0, none⟩).isSome = true ∧ (w'.cell? ⟨w.heap.size, 1, none⟩).isSome = true ∧ (w'.cell? ⟨w.heap.size, 2, none⟩).isSome = true ∧ w'.frozen? ⟨w.heap.size, 0, none⟩ = false ∧ w'.frozen? ⟨w.heap.size, 1, none⟩ = false ∧ w'.frozen? ⟨w.heap.size, 2, none⟩ = false) ((and_intros <;> first | assumption | (exact Below.drew (by assumption)) | (simp (maxDischargeDepth := 20) [*]; done) | (simp [*, go_sem]; done))) (first | (go_at_call 40; (with_reducible refine (l2Pressed_any Hm.out d (by (first | assumption | (exact Cur.alloc (by assumption) _) | (exact Cur.drewN (by assumption) _) | (exact Cur.drew (by assumption)) | (exact Cur.alloc (Cur.alloc (by assumption) _) _) | (exact Cur.drewN (Cur.alloc (by assumption) _) _) | (refine Cur.far ?_ ?_ ?_ _ <;> first | assumption | (simp; done) | (simp; omega))))).mono ?_); rintro e w4 ⟨b, hb, rfl, hc4, hg4⟩; obtain ⟨hgc, hgf⟩ := gcell hg4; have HG4 := hid hg4; clear hg4; have HB := hid hb; clear hb))
  go_wp2
  have hB4 : Below w.heap.size w w4 := Below.trans (Below.drew hB3) (below_only HG4.out (show w.heap.size ≤ g by omega) (by have := Below.size hB3; simpa using this))
  have k0 : w4.cell? ⟨w.heap.size, 0, none⟩ = some (.int .i64 0) := by simp (maxDischargeDepth := 20) [*]
  have k1 : w4.cell? ⟨w.heap.size, 1, none⟩ = some (.int .i64 0) := by simp (maxDischargeDepth := 20) [*]
  have k2 : w4.cell? ⟨w.heap.size, 2, none⟩ = some (.bool false) := by simp (maxDischargeDepth := 20) [*]
  have h24 := x24 Hm.out Ha.out
  have h24' := x24 Hm.out HB.out
  have eo := i64_or_nat a b (by omega) (by omega)
  refine bodyPost_ret (v := .tuple #[.agg #[.int .i64 R, .int .i64 C, .bool d], .int .i64 a, .int .i64 (a ||| b : Nat)]) (by simp [results, Try.results23, go_sem, k0, k1, k2, eo]) rfl ?_
  exact ⟨R, C, k, a, a ||| b, d, Hm.out, Ha.out, Nat.or_lt_two_pow Ha.out HB.out, fun i hi => by rw [Nat.testBit_or, hi]; rfl, rfl, Below.setCell (Below.setCell (Below.setCell hB4 (Nat.le_refl _) _) (Nat.le_refl _) _) (Nat.le_refl _) _⟩
end Go.Proofs.Ytmhpepicmnjmgaa
