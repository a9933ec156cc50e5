/- The codes' names: by contract in both programs. Conditions: the library's MaxLen holds some number. -/
import Derived.Test.YtpfocjdhjkifmaaDoorSplB
import Derived.Test.YtpfocjdhjkifmaaDoorModA0
import Derived.Test.YtpfocjdhjkifmaaDoorShelf
namespace Go.Proofs.YtpfocjdhjkifmaaDoor
open Go.RowKit
set_option linter.unusedVariables false

/-- The text of all names. -/
def cnL : List UInt8 := [97, 32, 98, 32, 99, 32, 100, 32, 101, 32, 102, 32, 103, 32, 104, 32, 105, 32, 106, 32, 107, 32, 108, 32, 109, 32, 110, 32, 111, 32, 112, 32, 113, 32, 114, 32, 115, 32, 116, 32, 117, 32, 118, 32, 119, 32, 120, 32, 121, 32, 122, 32, 49, 32, 50, 32, 51, 32, 52, 32, 53, 32, 54, 32, 55, 32, 56, 32, 57, 32, 48, 32, 101, 110, 116, 101, 114, 32, 101, 115, 99, 32, 98, 97, 99, 107, 32, 116, 97, 98, 32, 115, 112, 97, 99, 101, 32, 109, 105, 110, 117, 115, 32, 101, 113, 117, 97, 108, 32, 108, 101, 102, 116, 32, 114, 105, 103, 104, 116, 32, 117, 112, 32, 100, 111, 119, 110, 32, 102, 49, 32, 102, 50, 32, 102, 51, 32, 102, 52, 32, 102, 53, 32, 102, 54, 32, 102, 55, 32, 102, 56, 32, 102, 57]
/-- The names. -/
def nmL : List (List UInt8) := [[97], [98], [99], [100], [101], [102], [103], [104], [105], [106], [107], [108], [109], [110], [111], [112], [113], [114], [115], [116], [117], [118], [119], [120], [121], [122], [49], [50], [51], [52], [53], [54], [55], [56], [57], [48], [101, 110, 116, 101, 114], [101, 115, 99], [98, 97, 99, 107], [116, 97, 98], [115, 112, 97, 99, 101], [109, 105, 110, 117, 115], [101, 113, 117, 97, 108], [108, 101, 102, 116], [114, 105, 103, 104, 116], [117, 112], [100, 111, 119, 110], [102, 49], [102, 50], [102, 51], [102, 52], [102, 53], [102, 54], [102, 55], [102, 56], [102, 57]]
set_option maxRecDepth 100000 in
theorem parts_names : TX.parts 32 cnL = nmL := by kernel_rfl
theorem nmL_length : nmL.length = 56 := by kernel_rfl
set_option maxRecDepth 100000 in
theorem splitB_names : Lib.splitB ⟨#[32]⟩ 0 (Lib.countB (st cnL) ⟨#[32]⟩) (st cnL) = nmL.map st := by
  have h := splitB_parts 32 (st cnL).size (st cnL) (Nat.le_refl _)
  have e : (st cnL).data.toList = cnL := rfl
  rw [e, parts_names] at h
  exact h
theorem count_names : cnL.count 32 = 55 := by kernel_rfl
theorem countB_names : Lib.countB (st cnL) ⟨#[32]⟩ = 55 := (Lib.count_one 32 cnL).trans count_names
/-- The library's variable holds some number. -/
abbrev MaxL (w : World) : Prop := ∃ m, w.cell? ⟨2, 0, none⟩ = some (.int .i64 m)
theorem MaxL.below {w w' : World} (h : MaxL w) (hb : Below w.heap.size w w') : MaxL w' := by
  obtain ⟨m, hm⟩ := h
  exact ⟨m, (hb.cell (World.block_lt_of_cell? w _ hm)).trans hm⟩
theorem own_allocT (w : World) (xs : List ByteArray) (hx : xs.length ≤ 1048577) : OwnT (w.alloc (.cells (xs.map Value.string).toArray 9)) w.heap.size (some ⟨w.heap.size, 0, none⟩) xs.length xs.length xs :=
  ⟨rfl, World.ownsRow_lit (base := w.heap.size) (e := 9) (size := 1) w (xs.map Value.string).toArray xs.length (Nat.le_refl _) (by unfold maxLen; omega) (by simp)⟩
theorem split_names {w : World} (hm : MaxL w) (s : ByteArray) (hs : s = st cnL) (q : ByteArray) (hq : q = ⟨#[32]⟩) : Calls Tryd.prog 45 #[.string s, .string q] w (MadeT w (nmL.map st)) := by
  obtain ⟨m, hm⟩ := hm
  subst hs hq
  refine (Tryd.strings_Split (st cnL) ⟨#[32]⟩ m w (by rw [st_size, show cnL.length = 154 by kernel_rfl]; omega) hm (by decide)).mono ?_
  rintro e w' ⟨rfl, rfl⟩
  have ho := own_allocT w (nmL.map st) (by rw [List.length_map, nmL_length]; omega)
  rw [splitB_names, countB_names]
  exact ⟨_, _, by rw [List.length_map, nmL_length], ho, (Below.refl _ _).alloc (Nat.le_refl _) _⟩
set_option maxRecDepth 100000 in
theorem l5Names_any (w : World) : Calls Tryd.prog 44 #[] w (MadeT w (nmL.map st)) := by
  have HS := hid (fun (s : ByteArray) (hs : s = st cnL) (w : World) => (show Calls Tryd.prog 65 #[.string s, .int .u8 32] w (MadeT w (nmL.map st)) by
    subst hs
    have h := sSplitText_any (st cnL) 32 32 rfl (by rw [st_size, show cnL.length = 154 by kernel_rfl]; omega) w
    have e : (st cnL).data.toList = cnL := rfl
    rw [e, parts_names] at h
    exact h))
  go_enter Tryd.func44, Tryd.ntmps44
  go_wp2_with fail
  refine (HS.out _ ?_ _).mono ?_
  · kernel_rfl
  rintro e w1 ⟨A, c, rfl, ho, hb⟩
  go_wp2
  go_ret
  exact ⟨A, c, rfl, ho, hb⟩
/-- The name of a code. -/
def cnm (code : Int) : List UInt8 := if 1 ≤ code ∧ code ≤ 56 then nmL.getD (code - 1).toNat [] else []
theorem names_getD (k : Nat) (hk : k < 56) : (nmL.map st).getD k ByteArray.empty = st (nmL.getD k []) := by
  have h1 : k < nmL.length := by rw [nmL_length]; exact hk
  rw [List.getD_eq_getElem?_getD, List.getD_eq_getElem?_getD, List.getElem?_map, List.getElem?_eq_getElem h1]; rfl
theorem cnm_at (k : Nat) (hk : k < 56) : cnm ((k : Int) + 1) = nmL.getD k [] := by
  unfold cnm
  rw [if_pos (by omega), show ((k : Int) + 1 - 1).toNat = k by omega]
theorem cnm_out {code : Int} (h : ¬ (1 ≤ code ∧ code ≤ 56)) : cnm code = [] := by unfold cnm; rw [if_neg h]
set_option maxRecDepth 100000 in
theorem sCodeName_any (code : Int) (w : World) : Calls Tryd.prog 14 #[.int .i64 code] w fun e w' => e = .returned (.string (st (cnm code))) ∧ Below w.heap.size w w' := by
  by_cases h : 1 ≤ code ∧ code ≤ 56
  · obtain ⟨k, rfl⟩ : ∃ k : Nat, code = (k : Int) + 1 := ⟨(code - 1).toNat, by omega⟩
    have hk : k < 56 := by omega
    rw [cnm_at k hk]
    have HIN := hid (l1In_yes ((k : Int) + 1) 1 56 h)
    have hks : (k : Int) + 1 - 1 = (k : Int) := by omega
    have hk2 : (k : Int) < 56 := by omega
    have HN := hid (names_getD k hk)
    have HL := hid (show (nmL.map st).length = 56 by rw [List.length_map, nmL_length])
    have HM := hid (fun w => l5Names_any w)
    unfold MadeT MadeG at HM
    rw [HL.out] at HM
    clear h
    go_enter Tryd.func14, Tryd.ntmps14
    go_wp2_with (first | (go_at_call 43; (with_reducible refine (HIN.out _).mono ?_); rintro e w' ⟨rfl, rfl⟩) | (go_at_call 44; (with_reducible refine (HM.out _).mono ?_); rintro e w1 ⟨A, c, rfl, ho, hb⟩; obtain ⟨ad, rfl, hc⟩ := ho.rd.at_ ByteArray.empty hk; rw [HN.out] at hc; simp only [sV] at hc; have HB := hid hb; clear ho hb))
    go_ret
    exact ⟨rfl, HB.out⟩
  · rw [cnm_out h]
    have HIN := hid (l1In_no code 1 56 h)
    clear h
    go_enter Tryd.func14, Tryd.ntmps14
    go_wp2_with (first | (go_at_call 43; (with_reducible refine (HIN.out _).mono ?_); rintro e w' ⟨rfl, rfl⟩))
    go_ret
    exact ⟨rfl, Below.refl _ _⟩
set_option maxRecDepth 100000 in
theorem iCodeName_any {w : World} (hm : MaxL w) (code : Int) : Calls Tryd.prog 15 #[.int .i64 code] w fun e w' => e = .returned (.string (st (cnm code))) ∧ Below w.heap.size w w' := by
  by_cases h : 1 ≤ code ∧ code ≤ 56
  · obtain ⟨k, rfl⟩ : ∃ k : Nat, code = (k : Int) + 1 := ⟨(code - 1).toNat, by omega⟩
    have hk : k < 56 := by omega
    rw [cnm_at k hk]
    have hks : (k : Int) + 1 - 1 = (k : Int) := by omega
    have hk2 : (k : Int) < 56 := by omega
    have hk3 : ¬ (k : Int) + 1 < 1 := by omega
    have hk4 : ¬ 56 < (k : Int) + 1 := by omega
    have HN := hid (names_getD k hk)
    have HL := hid (show (nmL.map st).length = 56 by rw [List.length_map, nmL_length])
    have HM := hid (split_names hm)
    unfold MadeT MadeG at HM
    rw [HL.out] at HM
    clear h hm
    go_enter Tryd.func15, Tryd.ntmps15
    go_wp2_with fail
    refine (HM.out _ ?_ _ ?_).mono ?_
    · kernel_rfl
    · rfl
    rintro e w1 ⟨A, c, rfl, ho, hb⟩
    obtain ⟨ad, rfl, hc⟩ := ho.rd.at_ ByteArray.empty hk
    rw [HN.out] at hc; simp only [sV] at hc
    have HB := hid hb
    clear ho hb
    go_wp2
    go_ret
    exact ⟨rfl, HB.out⟩
  · rw [cnm_out h]
    rcases (show code < 1 ∨ (1 ≤ code ∧ 56 < code) by omega) with h1 | ⟨h1, h2⟩
    all_goals
      clear h hm
      go_enter Tryd.func15, Tryd.ntmps15
      go_wp2
      go_ret
      exact ⟨rfl, Below.refl _ _⟩
/-- The code of a name, from code k on. -/
def cofK (l : List UInt8) : Nat → Nat → Nat
  | 0, _ => 0
  | f + 1, k => if nmL.getD (k - 1) [] = l then k else cofK l f (k + 1)
def cof (l : List UInt8) : Nat := cofK l 56 1
theorem cofK_yes {l : List UInt8} {f k : Nat} (h : nmL.getD (k - 1) [] = l) : cofK l (f + 1) k = k := by rw [cofK, if_pos h]
theorem cofK_no {l : List UInt8} {f k : Nat} (h : ¬ nmL.getD (k - 1) [] = l) : cofK l (f + 1) k = cofK l f (k + 1) := by rw [cofK, if_neg h]
set_option maxRecDepth 100000 in
set_option maxHeartbeats 1000000 in
theorem sCodeOf_any (s : ByteArray) (w : World) : Calls Tryd.prog 16 #[.string s] w fun e w' => e = .returned (.int .i64 (cof s.data.toList : Nat)) ∧ Below w.heap.size w w' := by
  have HF := hid (fun (k : Nat) (hk : k < 56) (w : World) => cnm_at k hk ▸ sCodeName_any ((k : Int) + 1) w)
  go_enter Tryd.func16, Tryd.ntmps16
  go_wp2_with fail
  go_loopw [3] (fun i wr => ∃ j : Nat, j ≤ 56 ∧ i = .int .i64 ((j : Int) + 1) ∧ cof s.data.toList = cofK s.data.toList (56 - j) (j + 1) ∧ Below w.heap.size w wr) (fun i _ => 57 - (intOf i).toNat)
  case atStart => exact ⟨0, by omega, rfl, rfl, Below.refl _ _⟩
  case round =>
    obtain ⟨j, hj, rfl, hp, hbel⟩ := hrel
    have HP := hid hp; clear hp
    by_cases hlt : j < 56
    · have H1 := hid (HF.out j hlt)
      have e5 : (j : Int) + 1 ≤ 56 := by omega
      have e6 : (j : Int) < 56 := by omega
      have hq := st_beq (nmL.getD j []) s
      by_cases hb : nmL.getD j [] = s.data.toList
      · rw [decide_eq_true hb] at hq
        have HK := hid (show cofK s.data.toList ((55 - j) + 1) (j + 1) = j + 1 from cofK_yes (by rw [show j + 1 - 1 = j by omega]; exact hb))
        generalize nmL.getD j [] = nm at *
        clear hb
        go_wp2_with (go_at_call 14; (with_reducible refine (H1.out _).mono ?_); rintro e w' ⟨rfl, hb1⟩)
        go_ret
        refine ⟨ret_int ?_, Below.step hbel hb1⟩
        rw [HP.out, show 56 - j = (55 - j) + 1 by omega, HK.out]; omega
      · rw [decide_eq_false hb] at hq
        have HK := hid (show cofK s.data.toList ((55 - j) + 1) (j + 1) = cofK s.data.toList (55 - j) (j + 2) from cofK_no (by rw [show j + 1 - 1 = j by omega]; exact hb))
        generalize nmL.getD j [] = nm at *
        clear hb
        go_wp2_with (go_at_call 14; (with_reducible refine (H1.out _).mono ?_); rintro e w' ⟨rfl, hb1⟩)
        go_roundw
        case rel =>
          refine ⟨j + 1, by omega, by go_num, ?_, Below.step hbel hb1⟩
          rw [HP.out, show 56 - j = (55 - j) + 1 by omega, HK.out, show 56 - (j + 1) = 55 - j by omega]
        case measure => simp [intOf]; omega
    · obtain rfl : j = 56 := by omega
      go_wp2
      go_ret
      exact ⟨ret_int (by rw [HP.out]; rfl), hbel⟩
set_option maxRecDepth 100000 in
set_option maxHeartbeats 1000000 in
theorem iCodeOf_any {w : World} (hm : MaxL w) (s : ByteArray) : Calls Tryd.prog 17 #[.string s] w fun e w' => e = .returned (.int .i64 (cof s.data.toList : Nat)) ∧ Below w.heap.size w w' := by
  have HL := hid (show (nmL.map st).length = 56 by rw [List.length_map, nmL_length])
  have HM := hid (split_names hm)
  unfold MadeT MadeG at HM
  rw [HL.out] at HM
  clear hm
  go_enter Tryd.func17, Tryd.ntmps17
  go_wp2_with fail
  refine (HM.out _ ?_ _ ?_).mono ?_
  · kernel_rfl
  · rfl
  rintro e w1 ⟨A, c, rfl, ho, hb⟩
  have HO := hid ho.rd
  have HB := hid hb
  clear ho hb
  go_wp2
  go_loopw [3, 4, 7] (fun _ _ i wr => ∃ j : Nat, j ≤ 56 ∧ i = .int .i64 j ∧ cof s.data.toList = cofK s.data.toList (56 - j) (j + 1) ∧ w1 = wr) (fun _ _ i _ => 56 - (intOf i).toNat)
  case atStart => exact ⟨0, by omega, rfl, rfl, rfl⟩
  case round =>
    obtain ⟨j, hj, rfl, hp, rfl⟩ := hrel
    have HP := hid hp; clear hp
    by_cases hlt : j < 56
    · have e6 : (j : Int) < 56 := by omega
      obtain ⟨ad, rfl, hc⟩ := HO.out.at_ ByteArray.empty hlt
      rw [names_getD j hlt] at hc; simp only [sV] at hc
      have hq := st_beq (nmL.getD j []) s
      by_cases hb : nmL.getD j [] = s.data.toList
      · rw [decide_eq_true hb] at hq
        have HK := hid (show cofK s.data.toList ((55 - j) + 1) (j + 1) = j + 1 from cofK_yes (by rw [show j + 1 - 1 = j by omega]; exact hb))
        generalize nmL.getD j [] = nm at *
        clear hb
        go_wp2
        go_ret
        refine ⟨ret_int ?_, HB.out⟩
        rw [HP.out, show 56 - j = (55 - j) + 1 by omega, HK.out]; omega
      · rw [decide_eq_false hb] at hq
        have HK := hid (show cofK s.data.toList ((55 - j) + 1) (j + 1) = cofK s.data.toList (55 - j) (j + 2) from cofK_no (by rw [show j + 1 - 1 = j by omega]; exact hb))
        generalize nmL.getD j [] = nm at *
        clear hb
        go_wp2
        go_roundw
        case rel =>
          refine ⟨j + 1, by omega, by go_num, ?_, by first | rfl | trivial⟩
          rw [HP.out, show 56 - j = (55 - j) + 1 by omega, HK.out, show 56 - (j + 1) = 55 - j by omega]
        case measure => simp [intOf]; omega
    · obtain rfl : j = 56 := by omega
      go_wp2
      go_ret
      exact ⟨ret_int (by rw [HP.out]; rfl), HB.out⟩
theorem walk_FnExactCodeName {w : World} (code : Int) (_ : (Lit.int .i64 code).wf = true) (hm : MaxL w) : Calls Tryd.prog 4 #[.int .i64 code] w fun e w' => e = .returned (.bool true) ∧ Below w.heap.size w w' := by
  have HS := hid (fun (W : World) => sCodeName_any code W)
  have HI := hid (fun (W : World) (hm : MaxL W) => iCodeName_any hm code)
  have HT := hid hm
  clear hm
  go_enter Tryd.func4, Tryd.ntmps4
  go_wp2_with fail
  refine (HS.out _).mono ?_
  rintro e w1 ⟨rfl, hb1⟩
  have HT1 := hid (HT.out.below hb1)
  go_wp2_with fail
  refine (HI.out _ HT1.out).mono ?_
  rintro e w2 ⟨rfl, hb2⟩
  go_wp2
  go_ret
  exact ⟨rfl, Below.step hb1 hb2⟩
theorem walk_FnExactCodeOf {w : World} (s : ByteArray) (wf : s.size ≤ maxLen) (hm : MaxL w) : Calls Tryd.prog 5 #[.string s] w fun e w' => e = .returned (.bool true) ∧ Below w.heap.size w w' := by
  have HS := hid (fun (W : World) => sCodeOf_any s W)
  have HI := hid (fun (W : World) (hm : MaxL W) => iCodeOf_any hm s)
  have HT := hid hm
  clear hm
  by_cases h : 1048576 < s.size
  · unfold maxLen at wf
    go_enter Tryd.func5, Tryd.ntmps5
    go_wp2
    go_ret
    exact ⟨rfl, Below.refl _ _⟩
  · go_enter Tryd.func5, Tryd.ntmps5
    go_wp2_with fail
    refine (HS.out _).mono ?_
    rintro e w1 ⟨rfl, hb1⟩
    have HT1 := hid (HT.out.below hb1)
    go_wp2_with fail
    refine (HI.out _ HT1.out).mono ?_
    rintro e w2 ⟨rfl, hb2⟩
    go_wp2
    go_ret
    exact ⟨rfl, Below.step hb1 hb2⟩
end Go.Proofs.YtpfocjdhjkifmaaDoor
