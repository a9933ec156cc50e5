/- Actions read from texts: by contract in the program. Conditions: the library's table and MaxLen as the cards give them, ErrSyntax some error. -/
import Derived.Test.YtpfocjdhjkifmaaDoorPacI
namespace Go.Proofs.YtpfocjdhjkifmaaDoor
open Go.RowKit
set_option linter.unusedVariables false

def paV (l : List UInt8) : Int × Int × Int × Int := (paI l).getD (0, 0, 0, 0)
def paB (l : List UInt8) : Bool := (paI l).isSome
theorem pa_yes {l : List UInt8} {k c m n : Int} (hg : gI l = (k, c, m, n)) (h1 : isAct k c m n = true) (h2 : faL k c m n = l) : paV l = (k, c, m, n) ∧ paB l = true := by
  have : paI l = some (k, c, m, n) := by unfold paI act4 fa4; rw [hg]; exact if_pos ⟨h1, h2⟩
  unfold paV paB; rw [this]; exact ⟨rfl, rfl⟩
theorem pa_no {l : List UInt8} {k c m n : Int} (hg : gI l = (k, c, m, n)) (h : isAct k c m n = false ∨ faL k c m n ≠ l) : paV l = (0, 0, 0, 0) ∧ paB l = false := by
  have : paI l = none := by
    unfold paI act4 fa4; rw [hg]
    refine if_neg ?_
    rintro ⟨h1, h2⟩
    rcases h with h | h
    · have h1' : isAct k c m n = true := h1
      rw [h] at h1'; cases h1'
    · exact h h2
  unfold paV paB; rw [this]; exact ⟨rfl, rfl⟩
theorem piN_rng (l : List UInt8) : rng (piN l) := by
  unfold piN rng
  cases h : piO l with
  | none => simp
  | some n => have := (piO_out h).2.1; simp only [Option.getD_some]; omega
theorem pmT_rng (l : List UInt8) : rng ((TX.pmT l : Nat) : Int) := by
  unfold TX.pmT rng
  have := TX.pmK_le l 15 1
  omega
theorem rng0 : rng 0 := by unfold rng; omega
structure OkA (a : Int × Int × Int × Int) : Prop where
  out : rng a.2.2.1 ∧ rng a.2.2.2
theorem OkA.ite {c : Prop} [Decidable c] {a b : Int × Int × Int × Int} (h1 : OkA a) (h2 : OkA b) : OkA (if c then a else b) := by split <;> assumption
theorem OkA.mk4 (k c : Int) {m n : Int} (h1 : rng m) (h2 : rng n) : OkA (k, c, m, n) := ⟨h1, h2⟩
theorem gI_rng (l : List UInt8) : rng (gI l).2.2.1 ∧ rng (gI l).2.2.2 := by
  refine OkA.out (a := gI l) ?_
  unfold gI
  repeat' (first | refine OkA.ite ?_ ?_ | exact OkA.mk4 _ _ rng0 rng0 | exact OkA.mk4 _ _ rng0 (piN_rng _) | exact OkA.mk4 _ _ (pmT_rng _) rng0)
theorem gS_rng (l : List UInt8) : rng (gS l).2.2.1 ∧ rng (gS l).2.2.2 := by
  refine OkA.out (a := gS l) ?_
  unfold gS l5L
  repeat' (first | refine OkA.ite ?_ ?_ | exact OkA.mk4 _ _ rng0 rng0 | exact OkA.mk4 _ _ rng0 (piN_rng _) | exact OkA.mk4 _ _ (pmT_rng _) rng0)
set_option maxRecDepth 100000 in
set_option maxHeartbeats 2000000 in
theorem iParseAction_any {w : World} (hp : Pow10 w) (he : ErrS w) (hm : MaxL w) (s : ByteArray) (hs : s.size ≤ 1048576) : Calls Tryd.prog 40 #[.string s] w fun e w' => e = .returned (.tuple #[act4V (paV s.data.toList), .bool (paB s.data.toList)]) ∧ Below w.heap.size w w' := by
  have HP := hid hp
  have HM := hid hm
  have H1 := hid (fun (W : World) (hp : Pow10 W) (he : ErrS W) (hm : MaxL W) => iGuess_any hp he hm s hs)
  have HE := hid he
  have hr := gI_rng s.data.toList
  have hq := fun F => st_beq F s
  obtain ⟨L, hL⟩ : ∃ L, s.data.toList = L := ⟨_, rfl⟩
  rw [hL] at H1 hr hq ⊢
  obtain ⟨⟨k, c, m, n⟩, hg⟩ : ∃ a, gI L = a := ⟨_, rfl⟩
  rw [hg] at H1 hr
  have HG := hid hg
  have HA := hid (iIsAction_any k c m n)
  have HF := hid (fun (W : World) (hp : Pow10 W) (hm : MaxL W) => iFormatAction_any k c m n hr.1 hr.2 hp hm)
  have hB0 : Below w.heap.size w (w.alloc (.cells a0000 38)) := (Below.refl _ _).alloc (Nat.le_refl _) _
  have HP0 := hid (TabIs_below HP.out hB0)
  have HE0 := hid (HE.out.below hB0)
  have HM0 := hid (HM.out.below hB0)
  have HB0 := hid hB0
  clear hp he hm hs hL hg hr hB0 HE
  cases ha : isAct k c m n
  · obtain ⟨e1, e2⟩ := pa_no HG.out (Or.inl ha)
    rw [e1, e2]
    rw [ha] at HA
    clear e1 e2 ha hq HF
    go_enter Tryd.func40, Tryd.ntmps40
    go_wp2_with (first | (go_at_call 69; (with_reducible refine (H1.out _ HP0.out HE0.out HM0.out).mono ?_); rintro e w1 ⟨rfl, hb1⟩; have HX1 := hid ((Blk.new w 38 a0000).bel hb1); have HB1 := hid (Below.step HB0.out hb1); clear hb1) | (go_at_call 55; (with_reducible refine (HA.out _).mono ?_); rintro e w2 ⟨rfl, hb2⟩; have HX2 := hid ((HX1.out.alloc _).bel hb2); have HB2 := hid (Below.step (HB1.out.alloc HB1.out.size _) hb2); obtain ⟨c0, c1, c2, c3, f0, f1, f2, f3⟩ := HX2.out.four; clear hb2))
    refine retA2 (v := .bool false) Tryd.results40 rfl rfl (HX2.out.fill4 (.int .i64 0) (.int .i64 0) (.int .i64 0) (.int .i64 0)) rfl ?_
    exact ⟨rfl, below_fill4 _ _ _ _ HB2.out (Nat.le_refl _)⟩
  · rw [ha] at HA
    obtain ⟨F, hF⟩ : ∃ F, faL k c m n = F := ⟨_, rfl⟩
    rw [hF] at HF
    replace hq := hq F
    by_cases hfl : F = L
    · obtain ⟨e1, e2⟩ := pa_yes HG.out ha (hF.trans hfl)
      rw [e1, e2]
      rw [decide_eq_true hfl] at hq
      clear e1 e2 ha hF hfl
      go_enter Tryd.func40, Tryd.ntmps40
      go_wp2_with (first | (go_at_call 69; (with_reducible refine (H1.out _ HP0.out HE0.out HM0.out).mono ?_); rintro e w1 ⟨rfl, hb1⟩; have HX1 := hid ((Blk.new w 38 a0000).bel hb1); have HB1 := hid (Below.step HB0.out hb1); clear hb1) | (go_at_call 55; (with_reducible refine (HA.out _).mono ?_); rintro e w2 ⟨rfl, hb2⟩; have HY2 := hid ((Blk.new w1 38 #[.int .i64 k, .int .i64 c, .int .i64 m, .int .i64 n]).bel hb2); have HX2 := hid ((HX1.out.alloc _).bel hb2); have HB2 := hid (Below.step (HB1.out.alloc HB1.out.size _) hb2); obtain ⟨c0, c1, c2, c3, f0, f1, f2, f3⟩ := HY2.out.four; clear hb2) | (go_at_call 27; (with_reducible refine (HF.out _ (TabIs_below HP.out HB2.out) (HM.out.below HB2.out)).mono ?_); rintro e w3 ⟨rfl, hb3⟩; have HY3 := hid (HY2.out.bel hb3); have HX3 := hid (HX2.out.bel hb3); have HB3 := hid (Below.step HB2.out hb3); obtain ⟨d0, d1, d2, d3, g0, g1, g2, g3⟩ := HX3.out.four; obtain ⟨b0, b1, b2, b3, h0, h1, h2, h3⟩ := HY3.out.four; clear hb3))
      refine retA2 (v := .bool true) Tryd.results40 rfl rfl (HX3.out.fill4 (.int .i64 k) (.int .i64 c) (.int .i64 m) (.int .i64 n)) rfl ?_
      exact ⟨rfl, below_fill4 _ _ _ _ HB3.out (Nat.le_refl _)⟩
    · obtain ⟨e1, e2⟩ := pa_no HG.out (Or.inr (fun h => hfl (hF.symm.trans h)))
      rw [e1, e2]
      rw [decide_eq_false hfl] at hq
      clear e1 e2 ha hF hfl
      go_enter Tryd.func40, Tryd.ntmps40
      go_wp2_with (first | (go_at_call 69; (with_reducible refine (H1.out _ HP0.out HE0.out HM0.out).mono ?_); rintro e w1 ⟨rfl, hb1⟩; have HX1 := hid ((Blk.new w 38 a0000).bel hb1); have HB1 := hid (Below.step HB0.out hb1); clear hb1) | (go_at_call 55; (with_reducible refine (HA.out _).mono ?_); rintro e w2 ⟨rfl, hb2⟩; have HY2 := hid ((Blk.new w1 38 #[.int .i64 k, .int .i64 c, .int .i64 m, .int .i64 n]).bel hb2); have HX2 := hid ((HX1.out.alloc _).bel hb2); have HB2 := hid (Below.step (HB1.out.alloc HB1.out.size _) hb2); obtain ⟨c0, c1, c2, c3, f0, f1, f2, f3⟩ := HY2.out.four; clear hb2) | (go_at_call 27; (with_reducible refine (HF.out _ (TabIs_below HP.out HB2.out) (HM.out.below HB2.out)).mono ?_); rintro e w3 ⟨rfl, hb3⟩; have HX3 := hid (HX2.out.bel hb3); have HB3 := hid (Below.step HB2.out hb3); obtain ⟨d0, d1, d2, d3, g0, g1, g2, g3⟩ := HX3.out.four; clear hb3))
      refine retA2 (v := .bool false) Tryd.results40 rfl rfl (HX3.out.fill4 (.int .i64 0) (.int .i64 0) (.int .i64 0) (.int .i64 0)) rfl ?_
      exact ⟨rfl, below_fill4 _ _ _ _ HB3.out (Nat.le_refl _)⟩
end Go.Proofs.YtpfocjdhjkifmaaDoor
