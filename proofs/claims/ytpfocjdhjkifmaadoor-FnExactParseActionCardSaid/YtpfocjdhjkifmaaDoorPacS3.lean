/- Actions read from texts in the reference: some of the ways. Conditions: as in the text that joins them. -/
import Derived.Test.YtpfocjdhjkifmaaDoorPacR
namespace Go.Proofs.YtpfocjdhjkifmaaDoor
open Go.RowKit
set_option linter.unusedVariables false

set_option maxRecDepth 100000 in
set_option maxHeartbeats 2000000 in
theorem sPA_col_yes {w : World} (hp : Pow10 w) (hm : MaxL w) (s : ByteArray) (hs : s.size ≤ 1048576) (h0 : isWd s.data.toList = false) {p q : List UInt8} (hpq : TX.parts 58 s.data.toList = [p, q]) (hne : s.data.toList ≠ []) {k c m n : Int} (hl5 : l5L p q = (k, c, m, n)) (hr : rng m ∧ rng n) (hf : faL k c m n = s.data.toList) : Calls Tryd.prog 39 #[.string s] w fun e w' => e = .returned (.tuple #[act4V (k, c, m, n), .bool true]) ∧ Below w.heap.size w w' := by
  have q1 := lit_beq s [110, 111, 110, 101]
  have q2 := lit_beq s [112, 97, 115, 115]
  have q3 := lit_beq s [99, 97, 112, 115]
  have qz := lit_beq s []
  rw [decide_eq_false (isWd_no h0).1] at q1
  rw [decide_eq_false (isWd_no h0).2.1] at q2
  rw [decide_eq_false (isWd_no h0).2.2] at q3
  have hq := st_beq (faL k c m n) s
  rw [decide_eq_true hf] at hq
  rw [decide_eq_false hne] at qz
  have HF := hid (fun (W : World) (hp : Pow10 W) (hm : MaxL W) => sFormatAction_any k c m n (by first | exact hr.1 | exact rng0 | exact pmT_rng _) (by first | exact hr.2 | exact rng0 | exact piN_rng _) hp hm)
  generalize faL k c m n = F at *
  have hqs : q.length ≤ 1048576 := by have h1 := parts_mem_len (b := 58) (l := s.data.toList) (p := q) (by rw [hpq]; simp); rw [Array.length_toList] at h1; exact Nat.le_trans h1 hs
  have H5 := hid (sL5_any p q hqs)
  rw [hl5] at H5
  have HC5 := hid (show ∀ W : World, Calls Tryd.prog 65 #[.string s, .int .u8 58] W fun e w' => ∃ (g c : Nat), e = .returned (.slice (some ⟨g, 0, none⟩) 2 c) ∧ (w'.cell? ⟨g, 0, none⟩ = some (.string (st p)) ∧ w'.cell? ⟨g, 1, none⟩ = some (.string (st q)) ∧ W.heap.size ≤ g) ∧ Below W.heap.size W w' from fun W => split_2 s 58 58 rfl hs hpq W)
  obtain ⟨NC6, hNC6⟩ : ∃ N, (TX.parts 47 s.data.toList).length = N := ⟨_, rfl⟩
  have HC6 := hid (show ∀ W : World, Calls Tryd.prog 65 #[.string s, .int .u8 47] W fun e w' => ∃ (A : Option Addr) (c : Nat), e = .returned (.slice A NC6 c) ∧ Below W.heap.size W w' from fun W => split_n s 47 47 rfl hs hNC6 W)
  obtain ⟨NC7, hNC7⟩ : ∃ N, (TX.parts 45 s.data.toList).length = N := ⟨_, rfl⟩
  have HC7 := hid (show ∀ W : World, Calls Tryd.prog 65 #[.string s, .int .u8 45] W fun e w' => ∃ (A : Option Addr) (c : Nat), e = .returned (.slice A NC7 c) ∧ Below W.heap.size W w' from fun W => split_n s 45 45 rfl hs hNC7 W)
  have HCs := hid (fun (W : World) => sCodeOf_any s W)
  obtain ⟨L, hL⟩ : ∃ L, s.data.toList = L := ⟨_, rfl⟩
  rw [hL] at HCs
  have HX0 := hid (Blk.new w 38 a0000)
  have HB0 := hid ((Below.refl w.heap.size w).alloc (Nat.le_refl _) (.cells a0000 38))
  have HP := hid hp
  have HM := hid hm
  clear hp hm hs hL hf h0 hpq hne hl5 hr hqs hNC6 hNC7
  go_enter Tryd.func39, Tryd.ntmps39
  go_wp2_with (first | (go_at_call 16; (with_reducible refine (HCs.out _).mono ?_); rintro e w1 ⟨rfl, hb⟩; have HX1 := hid ((HX0.out.bel hb).alloc (.cells #[.int .i64 2, .int .i64 (cof L : Nat), .int .i64 0, .int .i64 0] 38)); have HY1 := hid (Blk.new w1 38 #[.int .i64 2, .int .i64 (cof L : Nat), .int .i64 0, .int .i64 0]); have HB1 := hid ((Below.step HB0.out hb).alloc (Below.step HB0.out hb).size (.cells #[.int .i64 2, .int .i64 (cof L : Nat), .int .i64 0, .int .i64 0] 38)); have HZ1 := hid (show w.heap.size < w1.heap.size from by have := HB0.out.size; have := hb.size; simp at *; omega); clear hb) | (go_at_call 65; (with_reducible refine (HC5.out _).mono ?_); rintro e w2 ⟨g, cg, rfl, ⟨r0, r1, rg⟩, hb⟩; have HXw2 := hid (HX1.out.bel hb); have HYw2 := hid (HY1.out.bel hb); have HBw2 := hid (Below.step HB1.out hb); have HRw2 := hid r0; have HSw2 := hid r1; have HGw2 := hid (show g ≠ w.heap.size ∧ g ≠ w1.heap.size from by have := HZ1.out; have := HY1.out.lt; have := HX1.out.lt; omega); clear r0 r1 rg; clear hb) | (go_at_call 65; (with_reducible refine (HC6.out _).mono ?_); rintro e w3 ⟨Aw3, cw3, rfl, hb⟩; have HXw3 := hid (HXw2.out.bel hb); have HYw3 := hid (HYw2.out.bel hb); have HBw3 := hid (Below.step HBw2.out hb); have HRw3 := hid (keep_cell HRw2.out hb); have HSw3 := hid (keep_cell HSw2.out hb); have HGw3 := HGw2; clear hb) | (go_at_call 65; (with_reducible refine (HC7.out _).mono ?_); rintro e w4 ⟨Aw4, cw4, rfl, hb⟩; have HXw4 := hid (HXw3.out.bel hb); have HYw4 := hid (HYw3.out.bel hb); have HBw4 := hid (Below.step HBw3.out hb); have HRw4 := hid (keep_cell HRw3.out hb); have HSw4 := hid (keep_cell HSw3.out hb); have HGw4 := HGw3; clear hb; have tr0 := HRw4.out; have ts0 := HSw4.out))
  go_region_held3 (fun w' => w'.cell? ⟨g, 0, none⟩ = some (.string (st p)) ∧ w'.cell? ⟨g, 1, none⟩ = some (.string (st q))) (and_intros <;> first | (with_reducible assumption) | assumption | (simp [*]; done)) ((go_at_call 67; (with_reducible refine (H5.out _).mono ?_); rintro e w6 ⟨rfl, hb⟩; (try replace hb := undrewB hb); have HXw6 := hid (HXw4.out.bel hb); have HYw6 := hid (HYw4.out.bel hb); have HBw6 := hid (Below.step HBw4.out hb); have HRw6 := hid (keep_cell HRw4.out hb); have HSw6 := hid (keep_cell HSw4.out hb); have HGw6 := HGw4; have trw6 := HRw6.out; have tsw6 := HSw6.out; clear hb; obtain ⟨d0, d1, d2, d3, g0, g1, g2, g3⟩ := HYw6.out.four; have HX5 := hid (HXw6.out.far4 (Nat.ne_of_lt HZ1.out) (.int .i64 k) (.int .i64 c) (.int .i64 m) (.int .i64 n)); have HY5 := hid (HYw6.out.fill4 (.int .i64 k) (.int .i64 c) (.int .i64 m) (.int .i64 n)); have HB5 := hid (below_fill4 (.int .i64 k) (.int .i64 c) (.int .i64 m) (.int .i64 n) HBw6.out (Nat.le_of_lt HZ1.out)); have HR5 := hid (cell_fill4 HRw6.out HGw6.out.2 (.int .i64 k) (.int .i64 c) (.int .i64 m) (.int .i64 n)); have HS5 := hid (cell_fill4 HSw6.out HGw6.out.2 (.int .i64 k) (.int .i64 c) (.int .i64 m) (.int .i64 n)); have HG5 := HGw6; have tr5 := HR5.out; have ts5 := HS5.out))
  go_wp2_with (go_at_call 25; (with_reducible refine (HF.out _ (TabIs_below HP.out HB5.out) (HM.out.below HB5.out)).mono ?_); rintro e w9 ⟨rfl, hb⟩; have HX9 := hid (HX5.out.bel hb); have HY9 := hid (HY5.out.bel hb); have HB9 := hid (Below.step HB5.out hb); obtain ⟨c0, c1, c2, c3, f0, f1, f2, f3⟩ := HX9.out.four; obtain ⟨b0, b1, b2, b3, h0, h1, h2, h3⟩ := HY9.out.four; clear hb)
  refine retA2 (v := .bool true) Tryd.results39 rfl rfl (HX9.out.fill4 (.int .i64 k) (.int .i64 c) (.int .i64 m) (.int .i64 n)) rfl ?_
  exact ⟨rfl, below_fill4 _ _ _ _ HB9.out (Nat.le_refl _)⟩
set_option maxRecDepth 100000 in
set_option maxHeartbeats 2000000 in
theorem sPA_col_no {w : World} (hp : Pow10 w) (hm : MaxL w) (s : ByteArray) (hs : s.size ≤ 1048576) (h0 : isWd s.data.toList = false) {p q : List UInt8} (hpq : TX.parts 58 s.data.toList = [p, q]) (hne : s.data.toList ≠ []) {k c m n : Int} (hl5 : l5L p q = (k, c, m, n)) (hr : rng m ∧ rng n) (hf : faL k c m n ≠ s.data.toList) : Calls Tryd.prog 39 #[.string s] w fun e w' => e = .returned (.tuple #[act4V (0, 0, 0, 0), .bool false]) ∧ Below w.heap.size w w' := by
  have q1 := lit_beq s [110, 111, 110, 101]
  have q2 := lit_beq s [112, 97, 115, 115]
  have q3 := lit_beq s [99, 97, 112, 115]
  have qz := lit_beq s []
  rw [decide_eq_false (isWd_no h0).1] at q1
  rw [decide_eq_false (isWd_no h0).2.1] at q2
  rw [decide_eq_false (isWd_no h0).2.2] at q3
  have hq := st_beq (faL k c m n) s
  rw [decide_eq_false hf] at hq
  rw [decide_eq_false hne] at qz
  have HF := hid (fun (W : World) (hp : Pow10 W) (hm : MaxL W) => sFormatAction_any k c m n (by first | exact hr.1 | exact rng0 | exact pmT_rng _) (by first | exact hr.2 | exact rng0 | exact piN_rng _) hp hm)
  generalize faL k c m n = F at *
  have hqs : q.length ≤ 1048576 := by have h1 := parts_mem_len (b := 58) (l := s.data.toList) (p := q) (by rw [hpq]; simp); rw [Array.length_toList] at h1; exact Nat.le_trans h1 hs
  have H5 := hid (sL5_any p q hqs)
  rw [hl5] at H5
  have HC5 := hid (show ∀ W : World, Calls Tryd.prog 65 #[.string s, .int .u8 58] W fun e w' => ∃ (g c : Nat), e = .returned (.slice (some ⟨g, 0, none⟩) 2 c) ∧ (w'.cell? ⟨g, 0, none⟩ = some (.string (st p)) ∧ w'.cell? ⟨g, 1, none⟩ = some (.string (st q)) ∧ W.heap.size ≤ g) ∧ Below W.heap.size W w' from fun W => split_2 s 58 58 rfl hs hpq W)
  obtain ⟨NC6, hNC6⟩ : ∃ N, (TX.parts 47 s.data.toList).length = N := ⟨_, rfl⟩
  have HC6 := hid (show ∀ W : World, Calls Tryd.prog 65 #[.string s, .int .u8 47] W fun e w' => ∃ (A : Option Addr) (c : Nat), e = .returned (.slice A NC6 c) ∧ Below W.heap.size W w' from fun W => split_n s 47 47 rfl hs hNC6 W)
  obtain ⟨NC7, hNC7⟩ : ∃ N, (TX.parts 45 s.data.toList).length = N := ⟨_, rfl⟩
  have HC7 := hid (show ∀ W : World, Calls Tryd.prog 65 #[.string s, .int .u8 45] W fun e w' => ∃ (A : Option Addr) (c : Nat), e = .returned (.slice A NC7 c) ∧ Below W.heap.size W w' from fun W => split_n s 45 45 rfl hs hNC7 W)
  have HCs := hid (fun (W : World) => sCodeOf_any s W)
  obtain ⟨L, hL⟩ : ∃ L, s.data.toList = L := ⟨_, rfl⟩
  rw [hL] at HCs
  have HX0 := hid (Blk.new w 38 a0000)
  have HB0 := hid ((Below.refl w.heap.size w).alloc (Nat.le_refl _) (.cells a0000 38))
  have HP := hid hp
  have HM := hid hm
  clear hp hm hs hL hf h0 hpq hne hl5 hr hqs hNC6 hNC7
  go_enter Tryd.func39, Tryd.ntmps39
  go_wp2_with (first | (go_at_call 16; (with_reducible refine (HCs.out _).mono ?_); rintro e w1 ⟨rfl, hb⟩; have HX1 := hid ((HX0.out.bel hb).alloc (.cells #[.int .i64 2, .int .i64 (cof L : Nat), .int .i64 0, .int .i64 0] 38)); have HY1 := hid (Blk.new w1 38 #[.int .i64 2, .int .i64 (cof L : Nat), .int .i64 0, .int .i64 0]); have HB1 := hid ((Below.step HB0.out hb).alloc (Below.step HB0.out hb).size (.cells #[.int .i64 2, .int .i64 (cof L : Nat), .int .i64 0, .int .i64 0] 38)); have HZ1 := hid (show w.heap.size < w1.heap.size from by have := HB0.out.size; have := hb.size; simp at *; omega); clear hb) | (go_at_call 65; (with_reducible refine (HC5.out _).mono ?_); rintro e w2 ⟨g, cg, rfl, ⟨r0, r1, rg⟩, hb⟩; have HXw2 := hid (HX1.out.bel hb); have HYw2 := hid (HY1.out.bel hb); have HBw2 := hid (Below.step HB1.out hb); have HRw2 := hid r0; have HSw2 := hid r1; have HGw2 := hid (show g ≠ w.heap.size ∧ g ≠ w1.heap.size from by have := HZ1.out; have := HY1.out.lt; have := HX1.out.lt; omega); clear r0 r1 rg; clear hb) | (go_at_call 65; (with_reducible refine (HC6.out _).mono ?_); rintro e w3 ⟨Aw3, cw3, rfl, hb⟩; have HXw3 := hid (HXw2.out.bel hb); have HYw3 := hid (HYw2.out.bel hb); have HBw3 := hid (Below.step HBw2.out hb); have HRw3 := hid (keep_cell HRw2.out hb); have HSw3 := hid (keep_cell HSw2.out hb); have HGw3 := HGw2; clear hb) | (go_at_call 65; (with_reducible refine (HC7.out _).mono ?_); rintro e w4 ⟨Aw4, cw4, rfl, hb⟩; have HXw4 := hid (HXw3.out.bel hb); have HYw4 := hid (HYw3.out.bel hb); have HBw4 := hid (Below.step HBw3.out hb); have HRw4 := hid (keep_cell HRw3.out hb); have HSw4 := hid (keep_cell HSw3.out hb); have HGw4 := HGw3; clear hb; have tr0 := HRw4.out; have ts0 := HSw4.out))
  go_region_held3 (fun w' => w'.cell? ⟨g, 0, none⟩ = some (.string (st p)) ∧ w'.cell? ⟨g, 1, none⟩ = some (.string (st q))) (and_intros <;> first | (with_reducible assumption) | assumption | (simp [*]; done)) ((go_at_call 67; (with_reducible refine (H5.out _).mono ?_); rintro e w6 ⟨rfl, hb⟩; (try replace hb := undrewB hb); have HXw6 := hid (HXw4.out.bel hb); have HYw6 := hid (HYw4.out.bel hb); have HBw6 := hid (Below.step HBw4.out hb); have HRw6 := hid (keep_cell HRw4.out hb); have HSw6 := hid (keep_cell HSw4.out hb); have HGw6 := HGw4; have trw6 := HRw6.out; have tsw6 := HSw6.out; clear hb; obtain ⟨d0, d1, d2, d3, g0, g1, g2, g3⟩ := HYw6.out.four; have HX5 := hid (HXw6.out.far4 (Nat.ne_of_lt HZ1.out) (.int .i64 k) (.int .i64 c) (.int .i64 m) (.int .i64 n)); have HY5 := hid (HYw6.out.fill4 (.int .i64 k) (.int .i64 c) (.int .i64 m) (.int .i64 n)); have HB5 := hid (below_fill4 (.int .i64 k) (.int .i64 c) (.int .i64 m) (.int .i64 n) HBw6.out (Nat.le_of_lt HZ1.out)); have HR5 := hid (cell_fill4 HRw6.out HGw6.out.2 (.int .i64 k) (.int .i64 c) (.int .i64 m) (.int .i64 n)); have HS5 := hid (cell_fill4 HSw6.out HGw6.out.2 (.int .i64 k) (.int .i64 c) (.int .i64 m) (.int .i64 n)); have HG5 := HGw6; have tr5 := HR5.out; have ts5 := HS5.out))
  go_wp2_with (go_at_call 25; (with_reducible refine (HF.out _ (TabIs_below HP.out HB5.out) (HM.out.below HB5.out)).mono ?_); rintro e w9 ⟨rfl, hb⟩; have HX9 := hid (HX5.out.bel hb); have HY9 := hid (HY5.out.bel hb); have HB9 := hid (Below.step HB5.out hb); obtain ⟨c0, c1, c2, c3, f0, f1, f2, f3⟩ := HX9.out.four; obtain ⟨b0, b1, b2, b3, h0, h1, h2, h3⟩ := HY9.out.four; clear hb)
  refine retA2 (v := .bool false) Tryd.results39 rfl rfl (HX9.out.fill4 (.int .i64 0) (.int .i64 0) (.int .i64 0) (.int .i64 0)) rfl ?_
  exact ⟨rfl, below_fill4 _ _ _ _ HB9.out (Nat.le_refl _)⟩
set_option maxRecDepth 100000 in
set_option maxHeartbeats 2000000 in
theorem sPA_da_yes {w : World} (hp : Pow10 w) (hm : MaxL w) (s : ByteArray) (hs : s.size ≤ 1048576) (h0 : isWd s.data.toList = false) {p q : List UInt8} (h5 : (TX.parts 58 s.data.toList).length ≠ 2) (h6 : (TX.parts 47 s.data.toList).length ≠ 2) (hpq : TX.parts 45 s.data.toList = [p, q]) (hne : s.data.toList ≠ []) (hf : faL 2 ((cof q : Nat) : Int) ((TX.pmT p : Nat) : Int) 0 = s.data.toList) : Calls Tryd.prog 39 #[.string s] w fun e w' => e = .returned (.tuple #[act4V (2, ((cof q : Nat) : Int), ((TX.pmT p : Nat) : Int), 0), .bool true]) ∧ Below w.heap.size w w' := by
  have q1 := lit_beq s [110, 111, 110, 101]
  have q2 := lit_beq s [112, 97, 115, 115]
  have q3 := lit_beq s [99, 97, 112, 115]
  have qz := lit_beq s []
  rw [decide_eq_false (isWd_no h0).1] at q1
  rw [decide_eq_false (isWd_no h0).2.1] at q2
  rw [decide_eq_false (isWd_no h0).2.2] at q3
  have hq := st_beq (faL 2 ((cof q : Nat) : Int) ((TX.pmT p : Nat) : Int) 0) s
  rw [decide_eq_true hf] at hq
  rw [decide_eq_false hne] at qz
  have HF := hid (fun (W : World) (hp : Pow10 W) (hm : MaxL W) => sFormatAction_any 2 ((cof q : Nat) : Int) ((TX.pmT p : Nat) : Int) 0 (by first | exact rng0 | exact pmT_rng _) (by first | exact rng0 | exact piN_rng _) hp hm)
  generalize faL 2 ((cof q : Nat) : Int) ((TX.pmT p : Nat) : Int) 0 = F at *
  have HO := hid (codS_any q)
  have HQ := hid (modS_any p)
  obtain ⟨NC5, hNC5⟩ : ∃ N, (TX.parts 58 s.data.toList).length = N := ⟨_, rfl⟩
  have HC5 := hid (show ∀ W : World, Calls Tryd.prog 65 #[.string s, .int .u8 58] W fun e w' => ∃ (A : Option Addr) (c : Nat), e = .returned (.slice A NC5 c) ∧ Below W.heap.size W w' from fun W => split_n s 58 58 rfl hs hNC5 W)
  have zC5 : ((NC5 : Int) == 2) = false := by rw [beq_eq_false_iff_ne]; intro h; exact h5 (by omega)
  obtain ⟨NC6, hNC6⟩ : ∃ N, (TX.parts 47 s.data.toList).length = N := ⟨_, rfl⟩
  have HC6 := hid (show ∀ W : World, Calls Tryd.prog 65 #[.string s, .int .u8 47] W fun e w' => ∃ (A : Option Addr) (c : Nat), e = .returned (.slice A NC6 c) ∧ Below W.heap.size W w' from fun W => split_n s 47 47 rfl hs hNC6 W)
  have zC6 : ((NC6 : Int) == 2) = false := by rw [beq_eq_false_iff_ne]; intro h; exact h6 (by omega)
  have HC7 := hid (show ∀ W : World, Calls Tryd.prog 65 #[.string s, .int .u8 45] W fun e w' => ∃ (g c : Nat), e = .returned (.slice (some ⟨g, 0, none⟩) 2 c) ∧ (w'.cell? ⟨g, 0, none⟩ = some (.string (st p)) ∧ w'.cell? ⟨g, 1, none⟩ = some (.string (st q)) ∧ W.heap.size ≤ g) ∧ Below W.heap.size W w' from fun W => split_2 s 45 45 rfl hs hpq W)
  have HCs := hid (fun (W : World) => sCodeOf_any s W)
  obtain ⟨L, hL⟩ : ∃ L, s.data.toList = L := ⟨_, rfl⟩
  rw [hL] at HCs
  have HX0 := hid (Blk.new w 38 a0000)
  have HB0 := hid ((Below.refl w.heap.size w).alloc (Nat.le_refl _) (.cells a0000 38))
  have HP := hid hp
  have HM := hid hm
  clear hp hm hs hL hf h0 hpq hne h5 h6 hNC5 hNC6
  go_enter Tryd.func39, Tryd.ntmps39
  go_wp2_with (first | (go_at_call 16; (with_reducible refine (HCs.out _).mono ?_); rintro e w1 ⟨rfl, hb⟩; have HX1 := hid ((HX0.out.bel hb).alloc (.cells #[.int .i64 2, .int .i64 (cof L : Nat), .int .i64 0, .int .i64 0] 38)); have HY1 := hid (Blk.new w1 38 #[.int .i64 2, .int .i64 (cof L : Nat), .int .i64 0, .int .i64 0]); have HB1 := hid ((Below.step HB0.out hb).alloc (Below.step HB0.out hb).size (.cells #[.int .i64 2, .int .i64 (cof L : Nat), .int .i64 0, .int .i64 0] 38)); have HZ1 := hid (show w.heap.size < w1.heap.size from by have := HB0.out.size; have := hb.size; simp at *; omega); clear hb) | (go_at_call 65; (with_reducible refine (HC5.out _).mono ?_); rintro e w2 ⟨Aw2, cw2, rfl, hb⟩; have HXw2 := hid (HX1.out.bel hb); have HYw2 := hid (HY1.out.bel hb); have HBw2 := hid (Below.step HB1.out hb); clear hb) | (go_at_call 65; (with_reducible refine (HC6.out _).mono ?_); rintro e w3 ⟨Aw3, cw3, rfl, hb⟩; have HXw3 := hid (HXw2.out.bel hb); have HYw3 := hid (HYw2.out.bel hb); have HBw3 := hid (Below.step HBw2.out hb); clear hb) | (go_at_call 65; (with_reducible refine (HC7.out _).mono ?_); rintro e w4 ⟨g, cg, rfl, ⟨r0, r1, rg⟩, hb⟩; have HXw4 := hid (HXw3.out.bel hb); have HYw4 := hid (HYw3.out.bel hb); have HBw4 := hid (Below.step HBw3.out hb); have HRw4 := hid r0; have HSw4 := hid r1; have HGw4 := hid (show g ≠ w.heap.size ∧ g ≠ w1.heap.size from by have := HZ1.out; have := HYw3.out.lt; have := HXw3.out.lt; omega); clear r0 r1 rg; clear hb; have tr0 := HRw4.out; have ts0 := HSw4.out))
  go_region_held3 (fun w' => w'.cell? ⟨g, 0, none⟩ = some (.string (st p)) ∧ w'.cell? ⟨g, 1, none⟩ = some (.string (st q))) (and_intros <;> first | (with_reducible assumption) | assumption | (simp [*]; done)) (first | (go_at_call 16; (with_reducible refine (HO.out _).mono ?_); rintro e w6 ⟨rfl, hb⟩; (try replace hb := undrewB hb); have HXw6 := hid (HXw4.out.bel hb); have HYw6 := hid (HYw4.out.bel hb); have HBw6 := hid (Below.step HBw4.out hb); have HRw6 := hid (keep_cell HRw4.out hb); have HSw6 := hid (keep_cell HSw4.out hb); have HGw6 := HGw4; have trw6 := HRw6.out; have tsw6 := HSw6.out; clear hb) | (go_at_call 68; (with_reducible refine (HQ.out _).mono ?_); rintro e w7 ⟨rfl, hb⟩; (try replace hb := undrewB hb); have HXw7 := hid (HXw6.out.bel hb); have HYw7 := hid (HYw6.out.bel hb); have HBw7 := hid (Below.step HBw6.out hb); have HRw7 := hid (keep_cell HRw6.out hb); have HSw7 := hid (keep_cell HSw6.out hb); have HGw7 := HGw6; have trw7 := HRw7.out; have tsw7 := HSw7.out; clear hb; obtain ⟨d0, d1, d2, d3, g0, g1, g2, g3⟩ := HYw7.out.four; have HX5 := hid (HXw7.out.far4 (Nat.ne_of_lt HZ1.out) (.int .i64 2) (.int .i64 ((cof q : Nat) : Int)) (.int .i64 ((TX.pmT p : Nat) : Int)) (.int .i64 0)); have HY5 := hid (HYw7.out.fill4 (.int .i64 2) (.int .i64 ((cof q : Nat) : Int)) (.int .i64 ((TX.pmT p : Nat) : Int)) (.int .i64 0)); have HB5 := hid (below_fill4 (.int .i64 2) (.int .i64 ((cof q : Nat) : Int)) (.int .i64 ((TX.pmT p : Nat) : Int)) (.int .i64 0) HBw7.out (Nat.le_of_lt HZ1.out)); have HR5 := hid (cell_fill4 HRw7.out HGw7.out.2 (.int .i64 2) (.int .i64 ((cof q : Nat) : Int)) (.int .i64 ((TX.pmT p : Nat) : Int)) (.int .i64 0)); have HS5 := hid (cell_fill4 HSw7.out HGw7.out.2 (.int .i64 2) (.int .i64 ((cof q : Nat) : Int)) (.int .i64 ((TX.pmT p : Nat) : Int)) (.int .i64 0)); have HG5 := HGw7; have tr5 := HR5.out; have ts5 := HS5.out))
  go_wp2_with (go_at_call 25; (with_reducible refine (HF.out _ (TabIs_below HP.out HB5.out) (HM.out.below HB5.out)).mono ?_); rintro e w9 ⟨rfl, hb⟩; have HX9 := hid (HX5.out.bel hb); have HY9 := hid (HY5.out.bel hb); have HB9 := hid (Below.step HB5.out hb); obtain ⟨c0, c1, c2, c3, f0, f1, f2, f3⟩ := HX9.out.four; obtain ⟨b0, b1, b2, b3, h0, h1, h2, h3⟩ := HY9.out.four; clear hb)
  refine retA2 (v := .bool true) Tryd.results39 rfl rfl (HX9.out.fill4 (.int .i64 2) (.int .i64 ((cof q : Nat) : Int)) (.int .i64 ((TX.pmT p : Nat) : Int)) (.int .i64 0)) rfl ?_
  exact ⟨rfl, below_fill4 _ _ _ _ HB9.out (Nat.le_refl _)⟩
set_option maxRecDepth 100000 in
set_option maxHeartbeats 2000000 in
theorem sPA_da_no {w : World} (hp : Pow10 w) (hm : MaxL w) (s : ByteArray) (hs : s.size ≤ 1048576) (h0 : isWd s.data.toList = false) {p q : List UInt8} (h5 : (TX.parts 58 s.data.toList).length ≠ 2) (h6 : (TX.parts 47 s.data.toList).length ≠ 2) (hpq : TX.parts 45 s.data.toList = [p, q]) (hne : s.data.toList ≠ []) (hf : faL 2 ((cof q : Nat) : Int) ((TX.pmT p : Nat) : Int) 0 ≠ s.data.toList) : Calls Tryd.prog 39 #[.string s] w fun e w' => e = .returned (.tuple #[act4V (0, 0, 0, 0), .bool false]) ∧ Below w.heap.size w w' := by
  have q1 := lit_beq s [110, 111, 110, 101]
  have q2 := lit_beq s [112, 97, 115, 115]
  have q3 := lit_beq s [99, 97, 112, 115]
  have qz := lit_beq s []
  rw [decide_eq_false (isWd_no h0).1] at q1
  rw [decide_eq_false (isWd_no h0).2.1] at q2
  rw [decide_eq_false (isWd_no h0).2.2] at q3
  have hq := st_beq (faL 2 ((cof q : Nat) : Int) ((TX.pmT p : Nat) : Int) 0) s
  rw [decide_eq_false hf] at hq
  rw [decide_eq_false hne] at qz
  have HF := hid (fun (W : World) (hp : Pow10 W) (hm : MaxL W) => sFormatAction_any 2 ((cof q : Nat) : Int) ((TX.pmT p : Nat) : Int) 0 (by first | exact rng0 | exact pmT_rng _) (by first | exact rng0 | exact piN_rng _) hp hm)
  generalize faL 2 ((cof q : Nat) : Int) ((TX.pmT p : Nat) : Int) 0 = F at *
  have HO := hid (codS_any q)
  have HQ := hid (modS_any p)
  obtain ⟨NC5, hNC5⟩ : ∃ N, (TX.parts 58 s.data.toList).length = N := ⟨_, rfl⟩
  have HC5 := hid (show ∀ W : World, Calls Tryd.prog 65 #[.string s, .int .u8 58] W fun e w' => ∃ (A : Option Addr) (c : Nat), e = .returned (.slice A NC5 c) ∧ Below W.heap.size W w' from fun W => split_n s 58 58 rfl hs hNC5 W)
  have zC5 : ((NC5 : Int) == 2) = false := by rw [beq_eq_false_iff_ne]; intro h; exact h5 (by omega)
  obtain ⟨NC6, hNC6⟩ : ∃ N, (TX.parts 47 s.data.toList).length = N := ⟨_, rfl⟩
  have HC6 := hid (show ∀ W : World, Calls Tryd.prog 65 #[.string s, .int .u8 47] W fun e w' => ∃ (A : Option Addr) (c : Nat), e = .returned (.slice A NC6 c) ∧ Below W.heap.size W w' from fun W => split_n s 47 47 rfl hs hNC6 W)
  have zC6 : ((NC6 : Int) == 2) = false := by rw [beq_eq_false_iff_ne]; intro h; exact h6 (by omega)
  have HC7 := hid (show ∀ W : World, Calls Tryd.prog 65 #[.string s, .int .u8 45] W fun e w' => ∃ (g c : Nat), e = .returned (.slice (some ⟨g, 0, none⟩) 2 c) ∧ (w'.cell? ⟨g, 0, none⟩ = some (.string (st p)) ∧ w'.cell? ⟨g, 1, none⟩ = some (.string (st q)) ∧ W.heap.size ≤ g) ∧ Below W.heap.size W w' from fun W => split_2 s 45 45 rfl hs hpq W)
  have HCs := hid (fun (W : World) => sCodeOf_any s W)
  obtain ⟨L, hL⟩ : ∃ L, s.data.toList = L := ⟨_, rfl⟩
  rw [hL] at HCs
  have HX0 := hid (Blk.new w 38 a0000)
  have HB0 := hid ((Below.refl w.heap.size w).alloc (Nat.le_refl _) (.cells a0000 38))
  have HP := hid hp
  have HM := hid hm
  clear hp hm hs hL hf h0 hpq hne h5 h6 hNC5 hNC6
  go_enter Tryd.func39, Tryd.ntmps39
  go_wp2_with (first | (go_at_call 16; (with_reducible refine (HCs.out _).mono ?_); rintro e w1 ⟨rfl, hb⟩; have HX1 := hid ((HX0.out.bel hb).alloc (.cells #[.int .i64 2, .int .i64 (cof L : Nat), .int .i64 0, .int .i64 0] 38)); have HY1 := hid (Blk.new w1 38 #[.int .i64 2, .int .i64 (cof L : Nat), .int .i64 0, .int .i64 0]); have HB1 := hid ((Below.step HB0.out hb).alloc (Below.step HB0.out hb).size (.cells #[.int .i64 2, .int .i64 (cof L : Nat), .int .i64 0, .int .i64 0] 38)); have HZ1 := hid (show w.heap.size < w1.heap.size from by have := HB0.out.size; have := hb.size; simp at *; omega); clear hb) | (go_at_call 65; (with_reducible refine (HC5.out _).mono ?_); rintro e w2 ⟨Aw2, cw2, rfl, hb⟩; have HXw2 := hid (HX1.out.bel hb); have HYw2 := hid (HY1.out.bel hb); have HBw2 := hid (Below.step HB1.out hb); clear hb) | (go_at_call 65; (with_reducible refine (HC6.out _).mono ?_); rintro e w3 ⟨Aw3, cw3, rfl, hb⟩; have HXw3 := hid (HXw2.out.bel hb); have HYw3 := hid (HYw2.out.bel hb); have HBw3 := hid (Below.step HBw2.out hb); clear hb) | (go_at_call 65; (with_reducible refine (HC7.out _).mono ?_); rintro e w4 ⟨g, cg, rfl, ⟨r0, r1, rg⟩, hb⟩; have HXw4 := hid (HXw3.out.bel hb); have HYw4 := hid (HYw3.out.bel hb); have HBw4 := hid (Below.step HBw3.out hb); have HRw4 := hid r0; have HSw4 := hid r1; have HGw4 := hid (show g ≠ w.heap.size ∧ g ≠ w1.heap.size from by have := HZ1.out; have := HYw3.out.lt; have := HXw3.out.lt; omega); clear r0 r1 rg; clear hb; have tr0 := HRw4.out; have ts0 := HSw4.out))
  go_region_held3 (fun w' => w'.cell? ⟨g, 0, none⟩ = some (.string (st p)) ∧ w'.cell? ⟨g, 1, none⟩ = some (.string (st q))) (and_intros <;> first | (with_reducible assumption) | assumption | (simp [*]; done)) (first | (go_at_call 16; (with_reducible refine (HO.out _).mono ?_); rintro e w6 ⟨rfl, hb⟩; (try replace hb := undrewB hb); have HXw6 := hid (HXw4.out.bel hb); have HYw6 := hid (HYw4.out.bel hb); have HBw6 := hid (Below.step HBw4.out hb); have HRw6 := hid (keep_cell HRw4.out hb); have HSw6 := hid (keep_cell HSw4.out hb); have HGw6 := HGw4; have trw6 := HRw6.out; have tsw6 := HSw6.out; clear hb) | (go_at_call 68; (with_reducible refine (HQ.out _).mono ?_); rintro e w7 ⟨rfl, hb⟩; (try replace hb := undrewB hb); have HXw7 := hid (HXw6.out.bel hb); have HYw7 := hid (HYw6.out.bel hb); have HBw7 := hid (Below.step HBw6.out hb); have HRw7 := hid (keep_cell HRw6.out hb); have HSw7 := hid (keep_cell HSw6.out hb); have HGw7 := HGw6; have trw7 := HRw7.out; have tsw7 := HSw7.out; clear hb; obtain ⟨d0, d1, d2, d3, g0, g1, g2, g3⟩ := HYw7.out.four; have HX5 := hid (HXw7.out.far4 (Nat.ne_of_lt HZ1.out) (.int .i64 2) (.int .i64 ((cof q : Nat) : Int)) (.int .i64 ((TX.pmT p : Nat) : Int)) (.int .i64 0)); have HY5 := hid (HYw7.out.fill4 (.int .i64 2) (.int .i64 ((cof q : Nat) : Int)) (.int .i64 ((TX.pmT p : Nat) : Int)) (.int .i64 0)); have HB5 := hid (below_fill4 (.int .i64 2) (.int .i64 ((cof q : Nat) : Int)) (.int .i64 ((TX.pmT p : Nat) : Int)) (.int .i64 0) HBw7.out (Nat.le_of_lt HZ1.out)); have HR5 := hid (cell_fill4 HRw7.out HGw7.out.2 (.int .i64 2) (.int .i64 ((cof q : Nat) : Int)) (.int .i64 ((TX.pmT p : Nat) : Int)) (.int .i64 0)); have HS5 := hid (cell_fill4 HSw7.out HGw7.out.2 (.int .i64 2) (.int .i64 ((cof q : Nat) : Int)) (.int .i64 ((TX.pmT p : Nat) : Int)) (.int .i64 0)); have HG5 := HGw7; have tr5 := HR5.out; have ts5 := HS5.out))
  go_wp2_with (go_at_call 25; (with_reducible refine (HF.out _ (TabIs_below HP.out HB5.out) (HM.out.below HB5.out)).mono ?_); rintro e w9 ⟨rfl, hb⟩; have HX9 := hid (HX5.out.bel hb); have HY9 := hid (HY5.out.bel hb); have HB9 := hid (Below.step HB5.out hb); obtain ⟨c0, c1, c2, c3, f0, f1, f2, f3⟩ := HX9.out.four; obtain ⟨b0, b1, b2, b3, h0, h1, h2, h3⟩ := HY9.out.four; clear hb)
  refine retA2 (v := .bool false) Tryd.results39 rfl rfl (HX9.out.fill4 (.int .i64 0) (.int .i64 0) (.int .i64 0) (.int .i64 0)) rfl ?_
  exact ⟨rfl, below_fill4 _ _ _ _ HB9.out (Nat.le_refl _)⟩
end Go.Proofs.YtpfocjdhjkifmaaDoor
