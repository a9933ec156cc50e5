/- Actions read from texts in the reference: some of the ways. Conditions: as in the text that joins them. -/
import Derived.Test.YtpfocjdhjkifmaaDoorPacR
namespace Go.Proofs.YtpfocjdhjkifmaaDoor
open Go.RowKit
set_option linter.unusedVariables false

set_option maxRecDepth 100000 in
set_option maxHeartbeats 2000000 in
theorem sPA_none_yes {w : World} (hp : Pow10 w) (hm : MaxL w) (s : ByteArray) (hs : s.size ≤ 1048576) (hw : s.data.toList = [110, 111, 110, 101]) (hf : faL 0 0 0 0 = s.data.toList) : Calls Tryd.prog 39 #[.string s] w fun e w' => e = .returned (.tuple #[act4V (0, 0, 0, 0), .bool true]) ∧ Below w.heap.size w w' := by
  have q1 := lit_beq s [110, 111, 110, 101]
  have q2 := lit_beq s [112, 97, 115, 115]
  have q3 := lit_beq s [99, 97, 112, 115]
  have qz := lit_beq s []
  rw [hw, decide_eq_true rfl] at q1
  rw [hw, decide_eq_false (by decide)] at q2
  rw [hw, decide_eq_false (by decide)] at q3
  have hq := st_beq (faL 0 0 0 0) s
  rw [decide_eq_true hf] at hq
  rw [hw, decide_eq_false (by decide)] at qz
  have HF := hid (fun (W : World) (hp : Pow10 W) (hm : MaxL W) => sFormatAction_any 0 0 0 0 (by first | exact rng0 | exact pmT_rng _) (by first | exact rng0 | exact piN_rng _) hp hm)
  generalize faL 0 0 0 0 = F at *
  obtain ⟨NC5, hNC5⟩ : ∃ N, (TX.parts 58 s.data.toList).length = N := ⟨_, rfl⟩
  have HC5 := hid (show ∀ W : World, Calls Tryd.prog 65 #[.string s, .int .u8 58] W fun e w' => ∃ (A : Option Addr) (c : Nat), e = .returned (.slice A NC5 c) ∧ Below W.heap.size W w' from fun W => split_n s 58 58 rfl hs hNC5 W)
  obtain ⟨NC6, hNC6⟩ : ∃ N, (TX.parts 47 s.data.toList).length = N := ⟨_, rfl⟩
  have HC6 := hid (show ∀ W : World, Calls Tryd.prog 65 #[.string s, .int .u8 47] W fun e w' => ∃ (A : Option Addr) (c : Nat), e = .returned (.slice A NC6 c) ∧ Below W.heap.size W w' from fun W => split_n s 47 47 rfl hs hNC6 W)
  obtain ⟨NC7, hNC7⟩ : ∃ N, (TX.parts 45 s.data.toList).length = N := ⟨_, rfl⟩
  have HC7 := hid (show ∀ W : World, Calls Tryd.prog 65 #[.string s, .int .u8 45] W fun e w' => ∃ (A : Option Addr) (c : Nat), e = .returned (.slice A NC7 c) ∧ Below W.heap.size W w' from fun W => split_n s 45 45 rfl hs hNC7 W)
  have HCs := hid (fun (W : World) => sCodeOf_any s W)
  obtain ⟨L, hL⟩ : ∃ L, s.data.toList = L := ⟨_, rfl⟩
  rw [hL] at HCs
  have HX0 := hid (Blk.new w 38 a0000)
  have HB0 := hid ((Below.refl w.heap.size w).alloc (Nat.le_refl _) (.cells a0000 38))
  have HP := hid hp
  have HM := hid hm
  clear hp hm hs hL hf hw hNC5 hNC6 hNC7
  go_enter Tryd.func39, Tryd.ntmps39
  go_wp2_with (first | (go_at_call 16; (with_reducible refine (HCs.out _).mono ?_); rintro e w1 ⟨rfl, hb⟩; have HX1 := hid ((HX0.out.bel hb).alloc (.cells #[.int .i64 2, .int .i64 (cof L : Nat), .int .i64 0, .int .i64 0] 38)); have HY1 := hid (Blk.new w1 38 #[.int .i64 2, .int .i64 (cof L : Nat), .int .i64 0, .int .i64 0]); have HB1 := hid ((Below.step HB0.out hb).alloc (Below.step HB0.out hb).size (.cells #[.int .i64 2, .int .i64 (cof L : Nat), .int .i64 0, .int .i64 0] 38)); have HZ1 := hid (show w.heap.size < w1.heap.size from by have := HB0.out.size; have := hb.size; simp at *; omega); clear hb) | (go_at_call 65; (with_reducible refine (HC5.out _).mono ?_); rintro e w2 ⟨Aw2, cw2, rfl, hb⟩; have HXw2 := hid (HX1.out.bel hb); have HYw2 := hid (HY1.out.bel hb); have HBw2 := hid (Below.step HB1.out hb); clear hb) | (go_at_call 65; (with_reducible refine (HC6.out _).mono ?_); rintro e w3 ⟨Aw3, cw3, rfl, hb⟩; have HXw3 := hid (HXw2.out.bel hb); have HYw3 := hid (HYw2.out.bel hb); have HBw3 := hid (Below.step HBw2.out hb); clear hb) | (go_at_call 65; (with_reducible refine (HC7.out _).mono ?_); rintro e w4 ⟨Aw4, cw4, rfl, hb⟩; have HXw4 := hid (HXw3.out.bel hb); have HYw4 := hid (HYw3.out.bel hb); have HBw4 := hid (Below.step HBw3.out hb); clear hb; obtain ⟨d0, d1, d2, d3, g0, g1, g2, g3⟩ := HYw4.out.four; have HX5 := hid (HXw4.out.far4 (Nat.ne_of_lt HZ1.out) (.int .i64 0) (.int .i64 0) (.int .i64 0) (.int .i64 0)); have HY5 := hid (HYw4.out.fill4 (.int .i64 0) (.int .i64 0) (.int .i64 0) (.int .i64 0)); have HB5 := hid (below_fill4 (.int .i64 0) (.int .i64 0) (.int .i64 0) (.int .i64 0) HBw4.out (Nat.le_of_lt HZ1.out))) | (go_at_call 25; (with_reducible refine (HF.out _ (TabIs_below HP.out HB5.out) (HM.out.below HB5.out)).mono ?_); rintro e w9 ⟨rfl, hb⟩; have HX9 := hid (HX5.out.bel hb); have HY9 := hid (HY5.out.bel hb); have HB9 := hid (Below.step HB5.out hb); obtain ⟨c0, c1, c2, c3, f0, f1, f2, f3⟩ := HX9.out.four; obtain ⟨b0, b1, b2, b3, h0, h1, h2, h3⟩ := HY9.out.four; clear hb))
  refine retA2 (v := .bool true) Tryd.results39 rfl rfl (HX9.out.fill4 (.int .i64 0) (.int .i64 0) (.int .i64 0) (.int .i64 0)) rfl ?_
  exact ⟨rfl, below_fill4 _ _ _ _ HB9.out (Nat.le_refl _)⟩
set_option maxRecDepth 100000 in
set_option maxHeartbeats 2000000 in
theorem sPA_none_no {w : World} (hp : Pow10 w) (hm : MaxL w) (s : ByteArray) (hs : s.size ≤ 1048576) (hw : s.data.toList = [110, 111, 110, 101]) (hf : faL 0 0 0 0 ≠ s.data.toList) : Calls Tryd.prog 39 #[.string s] w fun e w' => e = .returned (.tuple #[act4V (0, 0, 0, 0), .bool false]) ∧ Below w.heap.size w w' := by
  have q1 := lit_beq s [110, 111, 110, 101]
  have q2 := lit_beq s [112, 97, 115, 115]
  have q3 := lit_beq s [99, 97, 112, 115]
  have qz := lit_beq s []
  rw [hw, decide_eq_true rfl] at q1
  rw [hw, decide_eq_false (by decide)] at q2
  rw [hw, decide_eq_false (by decide)] at q3
  have hq := st_beq (faL 0 0 0 0) s
  rw [decide_eq_false hf] at hq
  rw [hw, decide_eq_false (by decide)] at qz
  have HF := hid (fun (W : World) (hp : Pow10 W) (hm : MaxL W) => sFormatAction_any 0 0 0 0 (by first | exact rng0 | exact pmT_rng _) (by first | exact rng0 | exact piN_rng _) hp hm)
  generalize faL 0 0 0 0 = F at *
  obtain ⟨NC5, hNC5⟩ : ∃ N, (TX.parts 58 s.data.toList).length = N := ⟨_, rfl⟩
  have HC5 := hid (show ∀ W : World, Calls Tryd.prog 65 #[.string s, .int .u8 58] W fun e w' => ∃ (A : Option Addr) (c : Nat), e = .returned (.slice A NC5 c) ∧ Below W.heap.size W w' from fun W => split_n s 58 58 rfl hs hNC5 W)
  obtain ⟨NC6, hNC6⟩ : ∃ N, (TX.parts 47 s.data.toList).length = N := ⟨_, rfl⟩
  have HC6 := hid (show ∀ W : World, Calls Tryd.prog 65 #[.string s, .int .u8 47] W fun e w' => ∃ (A : Option Addr) (c : Nat), e = .returned (.slice A NC6 c) ∧ Below W.heap.size W w' from fun W => split_n s 47 47 rfl hs hNC6 W)
  obtain ⟨NC7, hNC7⟩ : ∃ N, (TX.parts 45 s.data.toList).length = N := ⟨_, rfl⟩
  have HC7 := hid (show ∀ W : World, Calls Tryd.prog 65 #[.string s, .int .u8 45] W fun e w' => ∃ (A : Option Addr) (c : Nat), e = .returned (.slice A NC7 c) ∧ Below W.heap.size W w' from fun W => split_n s 45 45 rfl hs hNC7 W)
  have HCs := hid (fun (W : World) => sCodeOf_any s W)
  obtain ⟨L, hL⟩ : ∃ L, s.data.toList = L := ⟨_, rfl⟩
  rw [hL] at HCs
  have HX0 := hid (Blk.new w 38 a0000)
  have HB0 := hid ((Below.refl w.heap.size w).alloc (Nat.le_refl _) (.cells a0000 38))
  have HP := hid hp
  have HM := hid hm
  clear hp hm hs hL hf hw hNC5 hNC6 hNC7
  go_enter Tryd.func39, Tryd.ntmps39
  go_wp2_with (first | (go_at_call 16; (with_reducible refine (HCs.out _).mono ?_); rintro e w1 ⟨rfl, hb⟩; have HX1 := hid ((HX0.out.bel hb).alloc (.cells #[.int .i64 2, .int .i64 (cof L : Nat), .int .i64 0, .int .i64 0] 38)); have HY1 := hid (Blk.new w1 38 #[.int .i64 2, .int .i64 (cof L : Nat), .int .i64 0, .int .i64 0]); have HB1 := hid ((Below.step HB0.out hb).alloc (Below.step HB0.out hb).size (.cells #[.int .i64 2, .int .i64 (cof L : Nat), .int .i64 0, .int .i64 0] 38)); have HZ1 := hid (show w.heap.size < w1.heap.size from by have := HB0.out.size; have := hb.size; simp at *; omega); clear hb) | (go_at_call 65; (with_reducible refine (HC5.out _).mono ?_); rintro e w2 ⟨Aw2, cw2, rfl, hb⟩; have HXw2 := hid (HX1.out.bel hb); have HYw2 := hid (HY1.out.bel hb); have HBw2 := hid (Below.step HB1.out hb); clear hb) | (go_at_call 65; (with_reducible refine (HC6.out _).mono ?_); rintro e w3 ⟨Aw3, cw3, rfl, hb⟩; have HXw3 := hid (HXw2.out.bel hb); have HYw3 := hid (HYw2.out.bel hb); have HBw3 := hid (Below.step HBw2.out hb); clear hb) | (go_at_call 65; (with_reducible refine (HC7.out _).mono ?_); rintro e w4 ⟨Aw4, cw4, rfl, hb⟩; have HXw4 := hid (HXw3.out.bel hb); have HYw4 := hid (HYw3.out.bel hb); have HBw4 := hid (Below.step HBw3.out hb); clear hb; obtain ⟨d0, d1, d2, d3, g0, g1, g2, g3⟩ := HYw4.out.four; have HX5 := hid (HXw4.out.far4 (Nat.ne_of_lt HZ1.out) (.int .i64 0) (.int .i64 0) (.int .i64 0) (.int .i64 0)); have HY5 := hid (HYw4.out.fill4 (.int .i64 0) (.int .i64 0) (.int .i64 0) (.int .i64 0)); have HB5 := hid (below_fill4 (.int .i64 0) (.int .i64 0) (.int .i64 0) (.int .i64 0) HBw4.out (Nat.le_of_lt HZ1.out))) | (go_at_call 25; (with_reducible refine (HF.out _ (TabIs_below HP.out HB5.out) (HM.out.below HB5.out)).mono ?_); rintro e w9 ⟨rfl, hb⟩; have HX9 := hid (HX5.out.bel hb); have HY9 := hid (HY5.out.bel hb); have HB9 := hid (Below.step HB5.out hb); obtain ⟨c0, c1, c2, c3, f0, f1, f2, f3⟩ := HX9.out.four; obtain ⟨b0, b1, b2, b3, h0, h1, h2, h3⟩ := HY9.out.four; clear hb))
  refine retA2 (v := .bool false) Tryd.results39 rfl rfl (HX9.out.fill4 (.int .i64 0) (.int .i64 0) (.int .i64 0) (.int .i64 0)) rfl ?_
  exact ⟨rfl, below_fill4 _ _ _ _ HB9.out (Nat.le_refl _)⟩
set_option maxRecDepth 100000 in
set_option maxHeartbeats 2000000 in
theorem sPA_pass_yes {w : World} (hp : Pow10 w) (hm : MaxL w) (s : ByteArray) (hs : s.size ≤ 1048576) (hw : s.data.toList = [112, 97, 115, 115]) (hf : faL 1 0 0 0 = s.data.toList) : Calls Tryd.prog 39 #[.string s] w fun e w' => e = .returned (.tuple #[act4V (1, 0, 0, 0), .bool true]) ∧ Below w.heap.size w w' := by
  have q1 := lit_beq s [110, 111, 110, 101]
  have q2 := lit_beq s [112, 97, 115, 115]
  have q3 := lit_beq s [99, 97, 112, 115]
  have qz := lit_beq s []
  rw [hw, decide_eq_false (by decide)] at q1
  rw [hw, decide_eq_true rfl] at q2
  rw [hw, decide_eq_false (by decide)] at q3
  have hq := st_beq (faL 1 0 0 0) s
  rw [decide_eq_true hf] at hq
  rw [hw, decide_eq_false (by decide)] at qz
  have HF := hid (fun (W : World) (hp : Pow10 W) (hm : MaxL W) => sFormatAction_any 1 0 0 0 (by first | exact rng0 | exact pmT_rng _) (by first | exact rng0 | exact piN_rng _) hp hm)
  generalize faL 1 0 0 0 = F at *
  obtain ⟨NC5, hNC5⟩ : ∃ N, (TX.parts 58 s.data.toList).length = N := ⟨_, rfl⟩
  have HC5 := hid (show ∀ W : World, Calls Tryd.prog 65 #[.string s, .int .u8 58] W fun e w' => ∃ (A : Option Addr) (c : Nat), e = .returned (.slice A NC5 c) ∧ Below W.heap.size W w' from fun W => split_n s 58 58 rfl hs hNC5 W)
  obtain ⟨NC6, hNC6⟩ : ∃ N, (TX.parts 47 s.data.toList).length = N := ⟨_, rfl⟩
  have HC6 := hid (show ∀ W : World, Calls Tryd.prog 65 #[.string s, .int .u8 47] W fun e w' => ∃ (A : Option Addr) (c : Nat), e = .returned (.slice A NC6 c) ∧ Below W.heap.size W w' from fun W => split_n s 47 47 rfl hs hNC6 W)
  obtain ⟨NC7, hNC7⟩ : ∃ N, (TX.parts 45 s.data.toList).length = N := ⟨_, rfl⟩
  have HC7 := hid (show ∀ W : World, Calls Tryd.prog 65 #[.string s, .int .u8 45] W fun e w' => ∃ (A : Option Addr) (c : Nat), e = .returned (.slice A NC7 c) ∧ Below W.heap.size W w' from fun W => split_n s 45 45 rfl hs hNC7 W)
  have HCs := hid (fun (W : World) => sCodeOf_any s W)
  obtain ⟨L, hL⟩ : ∃ L, s.data.toList = L := ⟨_, rfl⟩
  rw [hL] at HCs
  have HX0 := hid (Blk.new w 38 a0000)
  have HB0 := hid ((Below.refl w.heap.size w).alloc (Nat.le_refl _) (.cells a0000 38))
  have HP := hid hp
  have HM := hid hm
  clear hp hm hs hL hf hw hNC5 hNC6 hNC7
  go_enter Tryd.func39, Tryd.ntmps39
  go_wp2_with (first | (go_at_call 16; (with_reducible refine (HCs.out _).mono ?_); rintro e w1 ⟨rfl, hb⟩; have HX1 := hid ((HX0.out.bel hb).alloc (.cells #[.int .i64 2, .int .i64 (cof L : Nat), .int .i64 0, .int .i64 0] 38)); have HY1 := hid (Blk.new w1 38 #[.int .i64 2, .int .i64 (cof L : Nat), .int .i64 0, .int .i64 0]); have HB1 := hid ((Below.step HB0.out hb).alloc (Below.step HB0.out hb).size (.cells #[.int .i64 2, .int .i64 (cof L : Nat), .int .i64 0, .int .i64 0] 38)); have HZ1 := hid (show w.heap.size < w1.heap.size from by have := HB0.out.size; have := hb.size; simp at *; omega); clear hb) | (go_at_call 65; (with_reducible refine (HC5.out _).mono ?_); rintro e w2 ⟨Aw2, cw2, rfl, hb⟩; have HXw2 := hid (HX1.out.bel hb); have HYw2 := hid (HY1.out.bel hb); have HBw2 := hid (Below.step HB1.out hb); clear hb) | (go_at_call 65; (with_reducible refine (HC6.out _).mono ?_); rintro e w3 ⟨Aw3, cw3, rfl, hb⟩; have HXw3 := hid (HXw2.out.bel hb); have HYw3 := hid (HYw2.out.bel hb); have HBw3 := hid (Below.step HBw2.out hb); clear hb) | (go_at_call 65; (with_reducible refine (HC7.out _).mono ?_); rintro e w4 ⟨Aw4, cw4, rfl, hb⟩; have HXw4 := hid (HXw3.out.bel hb); have HYw4 := hid (HYw3.out.bel hb); have HBw4 := hid (Below.step HBw3.out hb); clear hb; obtain ⟨d0, d1, d2, d3, g0, g1, g2, g3⟩ := HYw4.out.four; have HX5 := hid (HXw4.out.far4 (Nat.ne_of_lt HZ1.out) (.int .i64 1) (.int .i64 0) (.int .i64 0) (.int .i64 0)); have HY5 := hid (HYw4.out.fill4 (.int .i64 1) (.int .i64 0) (.int .i64 0) (.int .i64 0)); have HB5 := hid (below_fill4 (.int .i64 1) (.int .i64 0) (.int .i64 0) (.int .i64 0) HBw4.out (Nat.le_of_lt HZ1.out))) | (go_at_call 25; (with_reducible refine (HF.out _ (TabIs_below HP.out HB5.out) (HM.out.below HB5.out)).mono ?_); rintro e w9 ⟨rfl, hb⟩; have HX9 := hid (HX5.out.bel hb); have HY9 := hid (HY5.out.bel hb); have HB9 := hid (Below.step HB5.out hb); obtain ⟨c0, c1, c2, c3, f0, f1, f2, f3⟩ := HX9.out.four; obtain ⟨b0, b1, b2, b3, h0, h1, h2, h3⟩ := HY9.out.four; clear hb))
  refine retA2 (v := .bool true) Tryd.results39 rfl rfl (HX9.out.fill4 (.int .i64 1) (.int .i64 0) (.int .i64 0) (.int .i64 0)) rfl ?_
  exact ⟨rfl, below_fill4 _ _ _ _ HB9.out (Nat.le_refl _)⟩
set_option maxRecDepth 100000 in
set_option maxHeartbeats 2000000 in
theorem sPA_pass_no {w : World} (hp : Pow10 w) (hm : MaxL w) (s : ByteArray) (hs : s.size ≤ 1048576) (hw : s.data.toList = [112, 97, 115, 115]) (hf : faL 1 0 0 0 ≠ s.data.toList) : Calls Tryd.prog 39 #[.string s] w fun e w' => e = .returned (.tuple #[act4V (0, 0, 0, 0), .bool false]) ∧ Below w.heap.size w w' := by
  have q1 := lit_beq s [110, 111, 110, 101]
  have q2 := lit_beq s [112, 97, 115, 115]
  have q3 := lit_beq s [99, 97, 112, 115]
  have qz := lit_beq s []
  rw [hw, decide_eq_false (by decide)] at q1
  rw [hw, decide_eq_true rfl] at q2
  rw [hw, decide_eq_false (by decide)] at q3
  have hq := st_beq (faL 1 0 0 0) s
  rw [decide_eq_false hf] at hq
  rw [hw, decide_eq_false (by decide)] at qz
  have HF := hid (fun (W : World) (hp : Pow10 W) (hm : MaxL W) => sFormatAction_any 1 0 0 0 (by first | exact rng0 | exact pmT_rng _) (by first | exact rng0 | exact piN_rng _) hp hm)
  generalize faL 1 0 0 0 = F at *
  obtain ⟨NC5, hNC5⟩ : ∃ N, (TX.parts 58 s.data.toList).length = N := ⟨_, rfl⟩
  have HC5 := hid (show ∀ W : World, Calls Tryd.prog 65 #[.string s, .int .u8 58] W fun e w' => ∃ (A : Option Addr) (c : Nat), e = .returned (.slice A NC5 c) ∧ Below W.heap.size W w' from fun W => split_n s 58 58 rfl hs hNC5 W)
  obtain ⟨NC6, hNC6⟩ : ∃ N, (TX.parts 47 s.data.toList).length = N := ⟨_, rfl⟩
  have HC6 := hid (show ∀ W : World, Calls Tryd.prog 65 #[.string s, .int .u8 47] W fun e w' => ∃ (A : Option Addr) (c : Nat), e = .returned (.slice A NC6 c) ∧ Below W.heap.size W w' from fun W => split_n s 47 47 rfl hs hNC6 W)
  obtain ⟨NC7, hNC7⟩ : ∃ N, (TX.parts 45 s.data.toList).length = N := ⟨_, rfl⟩
  have HC7 := hid (show ∀ W : World, Calls Tryd.prog 65 #[.string s, .int .u8 45] W fun e w' => ∃ (A : Option Addr) (c : Nat), e = .returned (.slice A NC7 c) ∧ Below W.heap.size W w' from fun W => split_n s 45 45 rfl hs hNC7 W)
  have HCs := hid (fun (W : World) => sCodeOf_any s W)
  obtain ⟨L, hL⟩ : ∃ L, s.data.toList = L := ⟨_, rfl⟩
  rw [hL] at HCs
  have HX0 := hid (Blk.new w 38 a0000)
  have HB0 := hid ((Below.refl w.heap.size w).alloc (Nat.le_refl _) (.cells a0000 38))
  have HP := hid hp
  have HM := hid hm
  clear hp hm hs hL hf hw hNC5 hNC6 hNC7
  go_enter Tryd.func39, Tryd.ntmps39
  go_wp2_with (first | (go_at_call 16; (with_reducible refine (HCs.out _).mono ?_); rintro e w1 ⟨rfl, hb⟩; have HX1 := hid ((HX0.out.bel hb).alloc (.cells #[.int .i64 2, .int .i64 (cof L : Nat), .int .i64 0, .int .i64 0] 38)); have HY1 := hid (Blk.new w1 38 #[.int .i64 2, .int .i64 (cof L : Nat), .int .i64 0, .int .i64 0]); have HB1 := hid ((Below.step HB0.out hb).alloc (Below.step HB0.out hb).size (.cells #[.int .i64 2, .int .i64 (cof L : Nat), .int .i64 0, .int .i64 0] 38)); have HZ1 := hid (show w.heap.size < w1.heap.size from by have := HB0.out.size; have := hb.size; simp at *; omega); clear hb) | (go_at_call 65; (with_reducible refine (HC5.out _).mono ?_); rintro e w2 ⟨Aw2, cw2, rfl, hb⟩; have HXw2 := hid (HX1.out.bel hb); have HYw2 := hid (HY1.out.bel hb); have HBw2 := hid (Below.step HB1.out hb); clear hb) | (go_at_call 65; (with_reducible refine (HC6.out _).mono ?_); rintro e w3 ⟨Aw3, cw3, rfl, hb⟩; have HXw3 := hid (HXw2.out.bel hb); have HYw3 := hid (HYw2.out.bel hb); have HBw3 := hid (Below.step HBw2.out hb); clear hb) | (go_at_call 65; (with_reducible refine (HC7.out _).mono ?_); rintro e w4 ⟨Aw4, cw4, rfl, hb⟩; have HXw4 := hid (HXw3.out.bel hb); have HYw4 := hid (HYw3.out.bel hb); have HBw4 := hid (Below.step HBw3.out hb); clear hb; obtain ⟨d0, d1, d2, d3, g0, g1, g2, g3⟩ := HYw4.out.four; have HX5 := hid (HXw4.out.far4 (Nat.ne_of_lt HZ1.out) (.int .i64 1) (.int .i64 0) (.int .i64 0) (.int .i64 0)); have HY5 := hid (HYw4.out.fill4 (.int .i64 1) (.int .i64 0) (.int .i64 0) (.int .i64 0)); have HB5 := hid (below_fill4 (.int .i64 1) (.int .i64 0) (.int .i64 0) (.int .i64 0) HBw4.out (Nat.le_of_lt HZ1.out))) | (go_at_call 25; (with_reducible refine (HF.out _ (TabIs_below HP.out HB5.out) (HM.out.below HB5.out)).mono ?_); rintro e w9 ⟨rfl, hb⟩; have HX9 := hid (HX5.out.bel hb); have HY9 := hid (HY5.out.bel hb); have HB9 := hid (Below.step HB5.out hb); obtain ⟨c0, c1, c2, c3, f0, f1, f2, f3⟩ := HX9.out.four; obtain ⟨b0, b1, b2, b3, h0, h1, h2, h3⟩ := HY9.out.four; clear hb))
  refine retA2 (v := .bool false) Tryd.results39 rfl rfl (HX9.out.fill4 (.int .i64 0) (.int .i64 0) (.int .i64 0) (.int .i64 0)) rfl ?_
  exact ⟨rfl, below_fill4 _ _ _ _ HB9.out (Nat.le_refl _)⟩
end Go.Proofs.YtpfocjdhjkifmaaDoor
