/- What the reference takes a text with a sign in it for: by contract. Conditions: none. -/
import Derived.Test.YtpfocjdhjkifmaaDoorPacJ
namespace Go.Proofs.YtpfocjdhjkifmaaDoor
open Go.RowKit
set_option linter.unusedVariables false

theorem pinS_any {w : World} (l : List UInt8) (hl : l.length ≤ 1048576) : Calls Tryd.prog 23 #[.string (st l)] w fun e w' => e = .returned (.tuple #[.int .i64 (piN l), .bool (piB l)]) ∧ Below w.heap.size w w' := sParseInt_any (st l) (by rw [st_size]; unfold maxLen; omega)
theorem codS_any (l : List UInt8) (w : World) : Calls Tryd.prog 16 #[.string (st l)] w fun e w' => e = .returned (.int .i64 (cof l : Nat)) ∧ Below w.heap.size w w' := sCodeOf_any (st l) w
theorem modS_any (l : List UInt8) (w : World) : Calls Tryd.prog 68 #[.string (st l)] w fun e w' => e = .returned (.int .i64 (TX.pmT l : Nat)) ∧ Below w.heap.size w w' := (sParseMods_any (st l) w).mono fun e w' h => ⟨h.1, h.2 ▸ Below.refl _ _⟩
theorem stl_beq (a l : List UInt8) : ((st a).toList == l) = decide (a = l) := lit_beq (st a) l
set_option maxRecDepth 100000 in
theorem sL5_any (a b : List UInt8) (hb : b.length ≤ 1048576) (w : World) : Calls Tryd.prog 67 #[.int .i64 8, .string (st a), .string (st b)] w fun e w' => e = .returned (act4V (l5L a b)) ∧ Below w.heap.size w w' := by
  have HI := hid (fun (W : World) => pinS_any (w := W) b hb)
  have HQ := hid (modS_any b)
  have q1 := stl_beq a [109, 111]
  have q2 := stl_beq a [116, 103]
  have q3 := stl_beq a [116, 111]
  have q4 := stl_beq a [109, 97, 99, 114, 111]
  have hg : l5L a b = (show Int × Int × Int × Int from if a = [109, 111] then (3, 0, 0, piN b) else if a = [116, 103] then (4, 0, 0, piN b) else if a = [116, 111] then (5, 0, 0, piN b) else if a = [109, 97, 99, 114, 111] then (9, 0, 0, piN b) else (8, 0, (TX.pmT b : Nat), 0)) := rfl
  simp only at hg
  clear hb
  by_cases h1 : a = [109, 111]
  · rw [if_pos h1] at hg
    rw [decide_eq_true h1] at q1
    have HG := hid hg
    clear hg h1 q2 q3 q4
    go_enter Tryd.func67, Tryd.ntmps67
    go_wp2_with (go_at_call 23; (with_reducible refine (HI.out _).mono ?_); rintro e w1 ⟨rfl, hb1⟩; have HX := hid ((Blk.new w 38 a0000).bel hb1); have HB := hid (Below.step ((Below.refl _ _).alloc (Nat.le_refl _) _) hb1); obtain ⟨c0, c1, c2, c3, f0, f1, f2, f3⟩ := HX.out.four; clear hb1)
    rw [HG.out]
    refine retA Tryd.results67 rfl rfl (HX.out.fill4 (.int .i64 3) (.int .i64 0) (.int .i64 0) (.int .i64 (piN b))) ?_
    exact ⟨rfl, below_fill4 _ _ _ _ HB.out (Nat.le_refl _)⟩
  rw [if_neg h1] at hg
  rw [decide_eq_false h1] at q1
  by_cases h2 : a = [116, 103]
  · rw [if_pos h2] at hg
    rw [decide_eq_true h2] at q2
    have HG := hid hg
    clear hg h1 h2 q3 q4
    go_enter Tryd.func67, Tryd.ntmps67
    go_wp2_with (go_at_call 23; (with_reducible refine (HI.out _).mono ?_); rintro e w1 ⟨rfl, hb1⟩; have HX := hid ((Blk.new w 38 a0000).bel hb1); have HB := hid (Below.step ((Below.refl _ _).alloc (Nat.le_refl _) _) hb1); obtain ⟨c0, c1, c2, c3, f0, f1, f2, f3⟩ := HX.out.four; clear hb1)
    rw [HG.out]
    refine retA Tryd.results67 rfl rfl (HX.out.fill4 (.int .i64 4) (.int .i64 0) (.int .i64 0) (.int .i64 (piN b))) ?_
    exact ⟨rfl, below_fill4 _ _ _ _ HB.out (Nat.le_refl _)⟩
  rw [if_neg h2] at hg
  rw [decide_eq_false h2] at q2
  by_cases h3 : a = [116, 111]
  · rw [if_pos h3] at hg
    rw [decide_eq_true h3] at q3
    have HG := hid hg
    clear hg h1 h2 h3 q4
    go_enter Tryd.func67, Tryd.ntmps67
    go_wp2_with (go_at_call 23; (with_reducible refine (HI.out _).mono ?_); rintro e w1 ⟨rfl, hb1⟩; have HX := hid ((Blk.new w 38 a0000).bel hb1); have HB := hid (Below.step ((Below.refl _ _).alloc (Nat.le_refl _) _) hb1); obtain ⟨c0, c1, c2, c3, f0, f1, f2, f3⟩ := HX.out.four; clear hb1)
    rw [HG.out]
    refine retA Tryd.results67 rfl rfl (HX.out.fill4 (.int .i64 5) (.int .i64 0) (.int .i64 0) (.int .i64 (piN b))) ?_
    exact ⟨rfl, below_fill4 _ _ _ _ HB.out (Nat.le_refl _)⟩
  rw [if_neg h3] at hg
  rw [decide_eq_false h3] at q3
  by_cases h4 : a = [109, 97, 99, 114, 111]
  · rw [if_pos h4] at hg
    rw [decide_eq_true h4] at q4
    have HG := hid hg
    clear hg h1 h2 h3 h4
    go_enter Tryd.func67, Tryd.ntmps67
    go_wp2_with (go_at_call 23; (with_reducible refine (HI.out _).mono ?_); rintro e w1 ⟨rfl, hb1⟩; have HX := hid ((Blk.new w 38 a0000).bel hb1); have HB := hid (Below.step ((Below.refl _ _).alloc (Nat.le_refl _) _) hb1); obtain ⟨c0, c1, c2, c3, f0, f1, f2, f3⟩ := HX.out.four; clear hb1)
    rw [HG.out]
    refine retA Tryd.results67 rfl rfl (HX.out.fill4 (.int .i64 9) (.int .i64 0) (.int .i64 0) (.int .i64 (piN b))) ?_
    exact ⟨rfl, below_fill4 _ _ _ _ HB.out (Nat.le_refl _)⟩
  rw [if_neg h4] at hg
  rw [decide_eq_false h4] at q4
  have HG := hid hg
  clear hg h1 h2 h3 h4
  go_enter Tryd.func67, Tryd.ntmps67
  go_wp2_with (first | (go_at_call 23; (with_reducible refine (HI.out _).mono ?_); rintro e w1 ⟨rfl, hb1⟩; have HX1 := hid ((Blk.new w 38 a0000).bel hb1); have HB1 := hid (Below.step ((Below.refl _ _).alloc (Nat.le_refl _) _) hb1); clear hb1) | (go_at_call 68; (with_reducible refine (HQ.out _).mono ?_); rintro e w2 ⟨rfl, hb1⟩; have HX := hid (HX1.out.bel hb1); have HB := hid (Below.step HB1.out hb1); obtain ⟨c0, c1, c2, c3, f0, f1, f2, f3⟩ := HX.out.four; clear hb1))
  rw [HG.out]
  refine retA Tryd.results67 rfl rfl (HX.out.fill4 (.int .i64 8) (.int .i64 0) (.int .i64 ((TX.pmT b : Nat) : Int)) (.int .i64 0)) ?_
  exact ⟨rfl, below_fill4 _ _ _ _ HB.out (Nat.le_refl _)⟩

/-! ### the ways of the switch -/
theorem gS_ne {l : List UInt8} (h0 : isWd l = false) : gS l = (if (TX.parts 58 l).length = 2 then l5L ((TX.parts 58 l).getD 0 []) ((TX.parts 58 l).getD 1 [])
  else if (TX.parts 47 l).length = 2 then (if piB ((TX.parts 47 l).getD 0 []) then (7, (cof ((TX.parts 47 l).getD 1 []) : Nat), 0, piN ((TX.parts 47 l).getD 0 [])) else (6, (cof ((TX.parts 47 l).getD 1 []) : Nat), (TX.pmT ((TX.parts 47 l).getD 0 []) : Nat), 0))
  else if (TX.parts 45 l).length = 2 then (2, (cof ((TX.parts 45 l).getD 1 []) : Nat), (TX.pmT ((TX.parts 45 l).getD 0 []) : Nat), 0)
  else (2, (cof l : Nat), 0, 0)) := by
  obtain ⟨w1, w2, w3⟩ := isWd_no h0
  unfold gS
  rw [if_neg w1, if_neg w2, if_neg w3]
theorem parts_mem_len {b : UInt8} {l p : List UInt8} (h : p ∈ TX.parts b l) : p.length ≤ l.length := by
  have hj := TX.join_parts b l
  have h2 : ∀ (xs : List (List UInt8)), p ∈ xs → p.length ≤ (Lib.join xs [b]).length := by
    intro xs
    induction xs with
    | nil => intro h; cases h
    | cons a r ih =>
      intro hp
      cases r with
      | nil => rw [Lib.join_one]; rcases List.mem_cons.1 hp with rfl | hp
               · exact Nat.le_refl _
               · cases hp
      | cons c r =>
        have e : Lib.join (a :: c :: r) [b] = a ++ b :: Lib.join (c :: r) [b] := by rw [Lib.join_cons, Lib.join_cons]; simp [Lib.joinTail]
        rw [e, List.length_append, List.length_cons]
        rcases List.mem_cons.1 hp with rfl | hp
        · omega
        · have := ih hp; omega
  have := h2 _ h
  rwa [hj] at this
/-- Divided into other than two. -/
theorem split_n (s : ByteArray) (b : UInt8) (bn : Nat) (hbn : b.toNat = bn) (hs : s.size ≤ 1048576) {N : Nat} (hN : (TX.parts b s.data.toList).length = N) (w : World) :
    Calls Tryd.prog 65 #[.string s, .int .u8 bn] w fun e w' => ∃ (A : Option Addr) (c : Nat), e = .returned (.slice A N c) ∧ Below w.heap.size w w' := by
  refine (sSplitText_any s b bn hbn (by omega) w).mono ?_
  rintro e w' ⟨A, c, rfl, ho, hb⟩
  rw [List.length_map, hN]
  exact ⟨A, c, rfl, hb⟩
/-- Divided into two. -/
theorem split_2 (s : ByteArray) (b : UInt8) (bn : Nat) (hbn : b.toNat = bn) (hs : s.size ≤ 1048576) {p q : List UInt8} (hN : TX.parts b s.data.toList = [p, q]) (w : World) :
    Calls Tryd.prog 65 #[.string s, .int .u8 bn] w fun e w' => ∃ (g c : Nat), e = .returned (.slice (some ⟨g, 0, none⟩) 2 c) ∧ (w'.cell? ⟨g, 0, none⟩ = some (.string (st p)) ∧ w'.cell? ⟨g, 1, none⟩ = some (.string (st q)) ∧ w.heap.size ≤ g) ∧ Below w.heap.size w w' := by
  refine (sSplitText_any s b bn hbn (by omega) w).mono ?_
  rintro e w' ⟨A, c, rfl, ho, hb⟩
  rw [hN] at ho ⊢
  have hnew : ∀ g, A = some ⟨g, 0, none⟩ → w.heap.size ≤ g := by
    rintro g rfl
    rcases Nat.lt_or_ge g w.heap.size with h | h
    · exact absurd rfl (own_ne ho.2 h)
    · exact h
  obtain ⟨g, rfl⟩ := OwnG.form ho (by simp)
  obtain ⟨ad, e0, h0⟩ := ho.rd.at_ ByteArray.empty (k := 0) (by simp)
  obtain ⟨ad', e1, h1⟩ := ho.rd.at_ ByteArray.empty (k := 1) (by simp)
  cases e0
  cases e1
  exact ⟨g, c, rfl, ⟨h0, h1, hnew g rfl⟩, hb⟩
end Go.Proofs.YtpfocjdhjkifmaaDoor
