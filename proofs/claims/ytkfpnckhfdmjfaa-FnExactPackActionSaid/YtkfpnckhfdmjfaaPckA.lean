/- Actions packed: by contract in both programs; the law. Conditions: none. -/
import Derived.Test.YtkfpnckhfdmjfaaActT
import Derived.Test.YtkfpnckhfdmjfaaSlBytes
namespace Go.Proofs.Ytkfpnckhfdmjfaa
open Go.RowKit
set_option linter.unusedVariables false

/-- The bytes of an action. -/
def pckL (k c m n : Int) : List Int := if isAct k c m n then [16 * k + n, c, m] else []
theorem pck_len (k c m n : Int) : (pckL k c m n).length ≤ 3 := by unfold pckL; split <;> simp
/-- The numbers of a valid action are small. -/
theorem act_rng {k c m n : Int} (h : isAct k c m n = true) : 0 ≤ k ∧ k ≤ 10 ∧ 0 ≤ c ∧ c ≤ 56 ∧ 0 ≤ m ∧ m ≤ 15 ∧ 0 ≤ n ∧ n ≤ 3 := by
  unfold isAct at h
  rcases kinds k with hk | hk
  · rw [act_other hk] at h; cases h
  · rcases hk with rfl | rfl | rfl | rfl | rfl | rfl | rfl | rfl | rfl | rfl | rfl
    all_goals
      simp [actB, inB] at h
      omega
theorem own_lit3 (W : World) (x y z : Int) : (W.alloc (.cells #[.int .u8 x, .int .u8 y, .int .u8 z] 5)).ownsRow W.heap.size 5 1 (.slice (some ⟨W.heap.size, 0, none⟩) 3 3) 3 ([x, y, z].map bV) :=
  World.ownsRow_lit (base := W.heap.size) (e := 5) (size := 1) W #[.int .u8 x, .int .u8 y, .int .u8 z] 3 (Nat.le_refl _) (by unfold maxLen; omega) (by simp)
set_option maxRecDepth 100000 in
theorem iPackAction_any (k c m n : Int) (w : World) : Calls Try.prog 43 #[actW k c m n] w (MadeB w (pckL k c m n)) := by
  have H1 := hid (iIsAction_any k c m n)
  unfold pckL
  cases hb : isAct k c m n
  · rw [hb] at H1
    clear hb
    go_enter Try.func43, Try.ntmps43
    go_wp2_with (go_at_call 25; (with_reducible refine (H1.out _).mono ?_); rintro e w1 ⟨rfl, hb1⟩; obtain ⟨hc1, hf1, hz1, hd1⟩ := bcell hb1; (try simp at hz1); replace hb1 := Below.via (B := w.heap.size) (a := w) (by (first | (go_grown; done) | (refine below_drewN ?_ _; go_grown; done) | (refine Below.drew (below_drewN ?_ _); go_grown; done))) hb1 (by go_size); (try have hy1 : w.heap.size < w1.heap.size := by omega); (try have hyy1 : w.heap.size + 1 < w1.heap.size := by omega))
    go_ret
    exact ⟨_, _, rfl, OwnG.nil_ _ _ _ _, hb1⟩
  · rw [hb] at H1
    have hr := act_rng hb
    clear hb
    go_enter Try.func43, Try.ntmps43
    go_wp2_with (go_at_call 25; (with_reducible refine (H1.out _).mono ?_); rintro e w1 ⟨rfl, hb1⟩; obtain ⟨hc1, hf1, hz1, hd1⟩ := bcell hb1; (try simp at hz1); replace hb1 := Below.via (B := w.heap.size) (a := w) (by (first | (go_grown; done) | (refine below_drewN ?_ _; go_grown; done) | (refine Below.drew (below_drewN ?_ _); go_grown; done))) hb1 (by go_size); (try have hy1 : w.heap.size < w1.heap.size := by omega); (try have hyy1 : w.heap.size + 1 < w1.heap.size := by omega))
    go_ret
    exact ⟨_, _, rfl, ⟨rfl, ownsRow_base (own_lit3 w1 _ _ _) (by have := hb1.size; omega)⟩, hb1.alloc hb1.size _⟩
set_option maxRecDepth 100000 in
theorem sPackAction_any (k c m n : Int) (w : World) : Calls Try.prog 42 #[actW k c m n] w (MadeB w (pckL k c m n)) := by
  have H1 := hid (sIsAction_any k c m n)
  unfold pckL
  cases hb : isAct k c m n
  · rw [hb] at H1
    clear hb
    go_enter Try.func42, Try.ntmps42
    go_wp2_with (go_at_call 23; (with_reducible refine (H1.out _).mono ?_); rintro e w1 ⟨rfl, hb1⟩; obtain ⟨hc1, hf1, hz1, hd1⟩ := bcell hb1; (try simp at hz1); replace hb1 := Below.via (B := w.heap.size) (a := w) (by (first | (go_grown; done) | (refine below_drewN ?_ _; go_grown; done) | (refine Below.drew (below_drewN ?_ _); go_grown; done))) hb1 (by go_size); (try have hy1 : w.heap.size < w1.heap.size := by omega); (try have hyy1 : w.heap.size + 1 < w1.heap.size := by omega))
    go_ret
    exact ⟨_, _, rfl, ⟨rfl, ownsRow_base (own_litG w1 _ 1) (by have := hb1.size; omega)⟩, hb1.alloc hb1.size _⟩
  · rw [hb] at H1
    have hr := act_rng hb
    clear hb
    go_enter Try.func42, Try.ntmps42
    go_wp2_with (go_at_call 23; (with_reducible refine (H1.out _).mono ?_); rintro e w1 ⟨rfl, hb1⟩; obtain ⟨hc1, hf1, hz1, hd1⟩ := bcell hb1; (try simp at hz1); replace hb1 := Below.via (B := w.heap.size) (a := w) (by (first | (go_grown; done) | (refine below_drewN ?_ _; go_grown; done) | (refine Below.drew (below_drewN ?_ _); go_grown; done))) hb1 (by go_size); (try have hy1 : w.heap.size < w1.heap.size := by omega); (try have hyy1 : w.heap.size + 1 < w1.heap.size := by omega))
    go_ret
    exact ⟨_, _, rfl, ⟨rfl, ownsRow_base (own_lit3 w1 _ _ _) (by have := hb1.size; omega)⟩, hb1.alloc hb1.size _⟩
set_option maxRecDepth 100000 in
set_option maxHeartbeats 1000000 in
theorem walk_FnExactPackAction (k c m n : Int) (_ : (Lit.int .i64 k).wf = true) (_ : (Lit.int .i64 c).wf = true) (_ : (Lit.int .i64 m).wf = true) (_ : (Lit.int .i64 n).wf = true) (w : World) :
    Calls Try.prog 12 #[actW k c m n] w fun e w' => e = .returned (.bool true) ∧ Below w.heap.size w w' := by
  have hlen := pck_len k c m n
  have HS := hid (sPackAction_any k c m n)
  have HI := hid (iPackAction_any k c m n)
  have HT := hid (toAct_any k c m n)
  generalize pckL k c m n = ps at *
  have HN : ps.length ≤ 1048576 := by omega
  clear hlen
  go_enter Try.func12, Try.ntmps12
  go_wp2_with fail
  refine (HT.out _).mono ?_
  rintro e w0 ⟨rfl, hb0⟩
  have HX0 := hid ((Blk.new w 32 #[.int .i64 k, .int .i64 c, .int .i64 m, .int .i64 n]).bel hb0)
  have HB0 := hid (Below.step ((Below.refl w.heap.size w).alloc (Nat.le_refl _) _) hb0); clear hb0
  go_wp2_with fail
  refine (HS.out _).mono ?_
  rintro e w1 ⟨A1, c1, rfl, ho1, hb1⟩
  have HO1 := hid ho1; clear ho1
  have HX1 := hid (HX0.out.bel hb1)
  have HB1 := hid (Below.step HB0.out hb1); clear hb1
  obtain ⟨q0, q1, q2, q3⟩ : w1.cell? ⟨w.heap.size, 0, none⟩ = some (.int .i64 k) ∧ w1.cell? ⟨w.heap.size, 1, none⟩ = some (.int .i64 c) ∧ w1.cell? ⟨w.heap.size, 2, none⟩ = some (.int .i64 m) ∧ w1.cell? ⟨w.heap.size, 3, none⟩ = some (.int .i64 n) := ⟨HX1.out.cell 0, HX1.out.cell 1, HX1.out.cell 2, HX1.out.cell 3⟩
  go_wp2_with fail
  refine (HT.out _).mono ?_
  rintro e w2 ⟨rfl, hb2⟩
  have HO2 := hid (HO1.out.below hb2)
  have HX2 := hid (HX1.out.bel hb2)
  have HB2 := hid (Below.step HB1.out hb2); clear hb2 q0 q1 q2 q3
  go_wp2_with fail
  refine (HI.out _).mono ?_
  rintro e w3 ⟨A3, c3, rfl, ho3, hb3⟩
  have HO3 := hid ho3; clear ho3
  have HO23 := hid (HO2.out.below hb3)
  have HX3 := hid (HX2.out.bel hb3)
  have HB3 := hid (Below.step HB2.out hb3); clear hb3
  go_wp2_with fail
  refine (eqByteS_same HO3.out.rd HO23.out.rd HN).mono ?_
  rintro e w4 ⟨rfl, hb4⟩
  have HO24 := hid (HO23.out.below hb4)
  have HO34 := hid (HO3.out.below hb4)
  have HX4 := hid (HX3.out.bel hb4)
  have HB4 := hid (Below.step HB3.out hb4); clear hb4
  go_wp2_with fail
  refine (markByteS_any HO34.out HN 1 (by omega) (by omega)).mono ?_
  rintro e w5 ⟨rfl, ho5, hg5⟩
  have hap := ownsRow_apart HO2.out.2 HO3.out.2 (Nat.le_refl _)
  have HO25 := hid (HO24.out.keptL hg5 hap)
  have hz2 := HB2.out.size
  have hx2 := HX2.out.lt
  have HX5 := hid (HX4.out.grown hg5 (own_ne HO34.out.2 hx2))
  have HB5 := hid (below_of_grown HB4.out HO34.out.2 hz2 hg5)
  have HO5 := hid ho5; clear ho5 hg5 hap hz2 hx2
  go_wp2_with fail
  refine (heldByteS_any HO5.out.rd HN (by omega) (by omega)).mono ?_
  rintro e w' ⟨rfl, rfl⟩
  obtain ⟨q0, q1, q2, q3⟩ : w5.cell? ⟨w.heap.size, 0, none⟩ = some (.int .i64 k) ∧ w5.cell? ⟨w.heap.size, 1, none⟩ = some (.int .i64 c) ∧ w5.cell? ⟨w.heap.size, 2, none⟩ = some (.int .i64 m) ∧ w5.cell? ⟨w.heap.size, 3, none⟩ = some (.int .i64 n) := ⟨HX5.out.cell 0, HX5.out.cell 1, HX5.out.cell 2, HX5.out.cell 3⟩
  go_wp2_with fail
  refine (HT.out _).mono ?_
  rintro e w6 ⟨rfl, hb6⟩
  have HO26 := hid (HO25.out.below hb6)
  have HO56 := hid (HO5.out.below hb6)
  have HB6 := hid (Below.step HB5.out hb6); clear hb6 q0 q1 q2 q3
  go_wp2_with fail
  refine (HI.out _).mono ?_
  rintro e w7 ⟨A7, c7, rfl, ho7, hb7⟩
  have HO7 := hid ho7; clear ho7
  have HO27 := hid (HO26.out.below hb7)
  have HO57 := hid (HO56.out.below hb7)
  have HB7 := hid (Below.step HB6.out hb7); clear hb7
  go_wp2_with fail
  refine (eqByteS_same HO7.out.rd HO27.out.rd HN).mono ?_
  rintro e w8 ⟨rfl, hb8⟩
  have HO58 := hid (HO57.out.below hb8)
  have HB8 := hid (Below.step HB7.out hb8); clear hb8
  go_wp2_with fail
  refine (heldByteS_any HO58.out.rd HN (by omega) (by omega)).mono ?_
  rintro e w' ⟨rfl, rfl⟩
  go_wp2
  go_ret
  exact ⟨rfl, HB8.out⟩
end Go.Proofs.Ytkfpnckhfdmjfaa
