/- Actions read from texts: what both programs answer, in plain words, and that it is the same. Conditions: none; no program in sight. -/
import Derived.Test.YtpfocjdhjkifmaaDoorActF
import Derived.Test.YtpfocjdhjkifmaaDoorPevM
import Derived.Test.YtpfocjdhjkifmaaDoorSplB
import Derived.Lib.IndexMore
namespace Go.Proofs.YtpfocjdhjkifmaaDoor
set_option linter.unusedVariables false

/-- What the program takes a text for. -/
def gI (l : List UInt8) : Int × Int × Int × Int :=
  if l = [110, 111, 110, 101] then (0, 0, 0, 0) else if l = [112, 97, 115, 115] then (1, 0, 0, 0) else if l = [99, 97, 112, 115] then (10, 0, 0, 0)
  else if Lib.hasPrefix l [109, 111, 58] then (3, 0, 0, piN (Lib.trimPrefix l [109, 111, 58]))
  else if Lib.hasPrefix l [116, 103, 58] then (4, 0, 0, piN (Lib.trimPrefix l [116, 103, 58]))
  else if Lib.hasPrefix l [116, 111, 58] then (5, 0, 0, piN (Lib.trimPrefix l [116, 111, 58]))
  else if Lib.hasPrefix l [109, 97, 99, 114, 111, 58] then (9, 0, 0, piN (Lib.trimPrefix l [109, 97, 99, 114, 111, 58]))
  else if Lib.hasPrefix l [111, 110, 99, 101, 58] then (8, 0, (TX.pmT (Lib.trimPrefix l [111, 110, 99, 101, 58]) : Nat), 0)
  else if (Lib.cut l [47]).2.2 then (if piB (Lib.cut l [47]).1 then (7, (cof (Lib.cut l [47]).2.1 : Nat), 0, piN (Lib.cut l [47]).1) else (6, (cof (Lib.cut l [47]).2.1 : Nat), (TX.pmT (Lib.cut l [47]).1 : Nat), 0))
  else if (Lib.cut l [45]).2.2 then (2, (cof (Lib.cut l [45]).2.1 : Nat), (TX.pmT (Lib.cut l [45]).1 : Nat), 0)
  else (2, (cof l : Nat), 0, 0)
/-- What the reference takes a text for. -/
def l5L (a b : List UInt8) : Int × Int × Int × Int :=
  if a = [109, 111] then (3, 0, 0, piN b) else if a = [116, 103] then (4, 0, 0, piN b) else if a = [116, 111] then (5, 0, 0, piN b) else if a = [109, 97, 99, 114, 111] then (9, 0, 0, piN b)
  else (8, 0, (TX.pmT b : Nat), 0)
def gS (l : List UInt8) : Int × Int × Int × Int :=
  if l = [110, 111, 110, 101] then (0, 0, 0, 0) else if l = [112, 97, 115, 115] then (1, 0, 0, 0) else if l = [99, 97, 112, 115] then (10, 0, 0, 0)
  else if (TX.parts 58 l).length = 2 then l5L ((TX.parts 58 l).getD 0 []) ((TX.parts 58 l).getD 1 [])
  else if (TX.parts 47 l).length = 2 then (if piB ((TX.parts 47 l).getD 0 []) then (7, (cof ((TX.parts 47 l).getD 1 []) : Nat), 0, piN ((TX.parts 47 l).getD 0 [])) else (6, (cof ((TX.parts 47 l).getD 1 []) : Nat), (TX.pmT ((TX.parts 47 l).getD 0 []) : Nat), 0))
  else if (TX.parts 45 l).length = 2 then (2, (cof ((TX.parts 45 l).getD 1 []) : Nat), (TX.pmT ((TX.parts 45 l).getD 0 []) : Nat), 0)
  else (2, (cof l : Nat), 0, 0)
def act4 (a : Int × Int × Int × Int) : Bool := isAct a.1 a.2.1 a.2.2.1 a.2.2.2
def fa4 (a : Int × Int × Int × Int) : List UInt8 := faL a.1 a.2.1 a.2.2.1 a.2.2.2
def paI (l : List UInt8) : Option (Int × Int × Int × Int) := if act4 (gI l) = true ∧ fa4 (gI l) = l then some (gI l) else none
def paS (l : List UInt8) : Option (Int × Int × Int × Int) := if l ≠ [] ∧ fa4 (gS l) = l then some (gS l) else none

/-! ### the parts of the texts -/
theorem cof_cnm : ∀ c : Nat, c < 57 → cof (cnm (c : Int)) = c := by
  have h : (List.range 57).all (fun c => cof (cnm (c : Int)) == c) = true := by kernel_rfl
  intro c hc
  have := List.all_eq_true.1 h c (List.mem_range.2 hc)
  simpa using this
theorem pmT_fmT : ∀ m : Nat, m < 16 → TX.pmT (TX.fmT (m : Int)) = m := by
  have h : (List.range 16).all (fun m => TX.pmT (TX.fmT (m : Int)) == m) = true := by kernel_rfl
  intro m hm
  have := List.all_eq_true.1 h m (List.mem_range.2 hm)
  simpa using this
def plainB (l : List UInt8) : Bool := l.all fun b => !(b == 45 || b == 47 || b == 58 || b == 43)
theorem cnm_plain : ∀ c : Nat, c < 57 → plainB (cnm (c : Int)) = true := by
  have h : (List.range 57).all (fun c => plainB (cnm (c : Int))) = true := by kernel_rfl
  intro c hc
  exact List.all_eq_true.1 h c (List.mem_range.2 hc)
theorem fmT_plain : ∀ m : Nat, m < 16 → plainB (TX.fmT (m : Int)) = true := by
  have h : (List.range 16).all (fun m => plainB (TX.fmT (m : Int))) = true := by kernel_rfl
  intro m hm
  exact List.all_eq_true.1 h m (List.mem_range.2 hm)
theorem plain_no {l : List UInt8} (h : plainB l = true) : (45 : UInt8) ∉ l ∧ (47 : UInt8) ∉ l ∧ (58 : UInt8) ∉ l := by
  unfold plainB at h
  rw [List.all_eq_true] at h
  refine ⟨fun hm => ?_, fun hm => ?_, fun hm => ?_⟩
  · have := h _ hm; simp at this
  · have := h _ hm; simp at this
  · have := h _ hm; simp at this
/-- Names are no words of kinds. -/
theorem cnm_word : ∀ c : Nat, c < 57 → cnm (c : Int) ≠ [110, 111, 110, 101] ∧ cnm (c : Int) ≠ [112, 97, 115, 115] ∧ cnm (c : Int) ≠ [99, 97, 112, 115] := by
  have h : (List.range 57).all (fun c => !(cnm (c : Int) == [110, 111, 110, 101]) && !(cnm (c : Int) == [112, 97, 115, 115]) && !(cnm (c : Int) == [99, 97, 112, 115])) = true := by kernel_rfl
  intro c hc
  have := List.all_eq_true.1 h c (List.mem_range.2 hc)
  simp only [Bool.and_eq_true, Bool.not_eq_true', beq_eq_false_iff_ne] at this
  exact ⟨this.1.1, this.1.2, this.2⟩
theorem cnm_ne : ∀ c : Nat, 1 ≤ c → c < 57 → cnm (c : Int) ≠ [] := by
  have h : (List.range 57).all (fun c => c == 0 || !(cnm (c : Int) == [])) = true := by kernel_rfl
  intro c h1 hc
  have := List.all_eq_true.1 h c (List.mem_range.2 hc)
  simp only [Bool.or_eq_true, beq_iff_eq, Bool.not_eq_true', beq_eq_false_iff_ne] at this
  rcases this with h | h
  · omega
  · exact h
theorem itoa_small (n : Int) (h : 0 ≤ n ∧ n ≤ 3) : Lib.itoa n = [UInt8.ofNat (48 + n.toNat)] := by
  rw [itoa_nat h.1, Lib.decDigits_one (by omega)]
theorem itoa_plain (n : Int) (h : 0 ≤ n ∧ n ≤ 3) : plainB (Lib.itoa n) = true := by
  rw [itoa_small n h]
  have : n.toNat = 0 ∨ n.toNat = 1 ∨ n.toNat = 2 ∨ n.toNat = 3 := by omega
  rcases this with e | e | e | e <;> rw [e] <;> rfl
theorem piN_small (n : Int) (h : 0 ≤ n ∧ n ≤ 3) : piN (Lib.itoa n) = n ∧ piB (Lib.itoa n) = true := by
  unfold piN piB
  rw [piO_itoa h.1 (by omega)]; exact ⟨rfl, rfl⟩
theorem piB_fmT (m : Nat) (h : m < 16) : piB (TX.fmT (m : Int)) = false := by
  have h2 : (List.range 16).all (fun m => (Lib.atoi (TX.fmT (m : Int))).isNone) = true := by kernel_rfl
  have h3 := List.all_eq_true.1 h2 m (List.mem_range.2 h)
  unfold piB
  rw [piO_none (by simpa using h3)]; rfl
theorem pre_no {l p : List UInt8} (hl : (58 : UInt8) ∉ l) (hp : (58 : UInt8) ∈ p) : Lib.hasPrefix l p = false := by
  cases h : Lib.hasPrefix l p with
  | false => rfl
  | true =>
    unfold Lib.hasPrefix at h
    rw [List.isPrefixOf_iff_prefix] at h
    exact absurd (h.subset hp) hl
theorem cut_no {l : List UInt8} {b : UInt8} (h : b ∉ l) : Lib.cut l [b] = (l, [], false) := by
  have e : Lib.index l [b] = Lib.indexByte l b := Lib.index_one l b
  have e2 : Lib.indexByte l b = -1 := by
    by_cases hi : Lib.indexByte l b = -1
    · exact hi
    · have hge := Lib.indexByte_ge l b
      obtain ⟨i, hi1⟩ := Int.eq_ofNat_of_zero_le (show 0 ≤ Lib.indexByte l b by omega)
      exact absurd (List.mem_of_getElem? (Lib.indexByte_some hi1).1) h
  unfold Lib.cut
  rw [e, e2, if_neg (by omega)]
theorem cut_hit {a r : List UInt8} {b : UInt8} (h : b ∉ a) : Lib.cut (a ++ b :: r) [b] = (a, r, true) := by
  have e : Lib.index (a ++ b :: r) [b] = Lib.indexByte (a ++ b :: r) b := Lib.index_one _ b
  have hge := Lib.indexByte_ge (a ++ b :: r) b
  have e2 : Lib.indexByte (a ++ b :: r) b = a.length := by
    by_cases hi : Lib.indexByte (a ++ b :: r) b = -1
    · exact absurd (by simp) (Lib.indexByte_none hi a.length)
    · obtain ⟨i, hi1⟩ := Int.eq_ofNat_of_zero_le (show 0 ≤ Lib.indexByte (a ++ b :: r) b by omega)
      obtain ⟨h1, h2⟩ := Lib.indexByte_some hi1
      rcases Nat.lt_trichotomy i a.length with hlt | heq | hgt
      · rw [List.getElem?_append_left hlt] at h1
        exact absurd (List.mem_of_getElem? h1) h
      · rw [hi1, heq]
      · exact absurd (by simp) (h2 a.length hgt)
  unfold Lib.cut
  rw [e, e2, if_pos (by omega)]
  simp
theorem app_no {b c : UInt8} {x y : List UInt8} (hx : c ∉ x) (hb : c ≠ b) (hy : c ∉ y) : c ∉ x ++ b :: y := by
  simp [hx, hb, hy]
theorem ne_word {l w : List UInt8} {b : UInt8} (h : b ∈ l) (hw : b ∉ w) : l ≠ w := fun e => hw (e ▸ h)

/-! ### what is written is taken for what it is -/
theorem g_slash {A N : List UInt8} (hA : plainB A = true) (hN : plainB N = true) :
    gI (A ++ 47 :: N) = (if piB A then (7, ((cof N : Nat) : Int), 0, piN A) else (6, ((cof N : Nat) : Int), ((TX.pmT A : Nat) : Int), 0)) ∧
    gS (A ++ 47 :: N) = (if piB A then (7, ((cof N : Nat) : Int), 0, piN A) else (6, ((cof N : Nat) : Int), ((TX.pmT A : Nat) : Int), 0)) := by
  obtain ⟨a1, a2, a3⟩ := plain_no hA
  obtain ⟨n1, n2, n3⟩ := plain_no hN
  have h58 : (58 : UInt8) ∉ A ++ 47 :: N := app_no a3 (by decide) n3
  have hm : (47 : UInt8) ∈ A ++ 47 :: N := by simp
  have w1 := ne_word hm (show (47 : UInt8) ∉ [110, 111, 110, 101] by decide)
  have w2 := ne_word hm (show (47 : UInt8) ∉ [112, 97, 115, 115] by decide)
  have w3 := ne_word hm (show (47 : UInt8) ∉ [99, 97, 112, 115] by decide)
  have p1 := TX.parts_none h58
  have p2 : TX.parts 47 (A ++ 47 :: N) = [A, N] := by rw [TX.parts_hit a2, TX.parts_none n2]
  constructor
  · unfold gI
    rw [if_neg w1, if_neg w2, if_neg w3, pre_no h58 (by decide), pre_no h58 (by decide), pre_no h58 (by decide), pre_no h58 (by decide), pre_no h58 (by decide), cut_hit a2]
    rfl
  · unfold gS
    rw [if_neg w1, if_neg w2, if_neg w3, p1, p2]
    rfl
theorem g_dash {A N : List UInt8} (hA : plainB A = true) (hN : plainB N = true) :
    gI (A ++ 45 :: N) = (2, ((cof N : Nat) : Int), ((TX.pmT A : Nat) : Int), 0) ∧ gS (A ++ 45 :: N) = (2, ((cof N : Nat) : Int), ((TX.pmT A : Nat) : Int), 0) := by
  obtain ⟨a1, a2, a3⟩ := plain_no hA
  obtain ⟨n1, n2, n3⟩ := plain_no hN
  have h58 : (58 : UInt8) ∉ A ++ 45 :: N := app_no a3 (by decide) n3
  have h47 : (47 : UInt8) ∉ A ++ 45 :: N := app_no a2 (by decide) n2
  have hm : (45 : UInt8) ∈ A ++ 45 :: N := by simp
  have w1 := ne_word hm (show (45 : UInt8) ∉ [110, 111, 110, 101] by decide)
  have w2 := ne_word hm (show (45 : UInt8) ∉ [112, 97, 115, 115] by decide)
  have w3 := ne_word hm (show (45 : UInt8) ∉ [99, 97, 112, 115] by decide)
  have p1 := TX.parts_none h58
  have p3 := TX.parts_none h47
  have p2 : TX.parts 45 (A ++ 45 :: N) = [A, N] := by rw [TX.parts_hit a1, TX.parts_none n1]
  constructor
  · unfold gI
    rw [if_neg w1, if_neg w2, if_neg w3, pre_no h58 (by decide), pre_no h58 (by decide), pre_no h58 (by decide), pre_no h58 (by decide), pre_no h58 (by decide), cut_no h47, cut_hit a1]
    rfl
  · unfold gS
    rw [if_neg w1, if_neg w2, if_neg w3, p1, p3, p2]
    rfl
theorem g_name {N : List UInt8} (hN : plainB N = true) (w1 : N ≠ [110, 111, 110, 101]) (w2 : N ≠ [112, 97, 115, 115]) (w3 : N ≠ [99, 97, 112, 115]) :
    gI N = (2, ((cof N : Nat) : Int), 0, 0) ∧ gS N = (2, ((cof N : Nat) : Int), 0, 0) := by
  obtain ⟨n1, n2, n3⟩ := plain_no hN
  constructor
  · unfold gI
    rw [if_neg w1, if_neg w2, if_neg w3, pre_no n3 (by decide), pre_no n3 (by decide), pre_no n3 (by decide), pre_no n3 (by decide), pre_no n3 (by decide), cut_no n2, cut_no n1]
    rfl
  · unfold gS
    rw [if_neg w1, if_neg w2, if_neg w3, TX.parts_none n3, TX.parts_none n2, TX.parts_none n1]
    rfl
theorem trim_app (p x : List UInt8) : Lib.trimPrefix (p ++ x) p = x := by
  unfold Lib.trimPrefix Lib.hasPrefix
  rw [if_pos (by rw [List.isPrefixOf_iff_prefix]; exact List.prefix_append p x)]; simp
theorem parts_col {a x : List UInt8} (ha : (58 : UInt8) ∉ a) (hx : (58 : UInt8) ∉ x) : TX.parts 58 (a ++ 58 :: x) = [a, x] := by rw [TX.parts_hit ha, TX.parts_none hx]
theorem g_mo {x : List UInt8} (h : (58 : UInt8) ∉ x) : gI ([109, 111, 58] ++ x) = (3, 0, 0, piN x) ∧ gS ([109, 111, 58] ++ x) = (3, 0, 0, piN x) := by
  constructor
  · unfold gI; rw [trim_app]; rfl
  · unfold gS; rw [show [109, 111, 58] ++ x = [109, 111] ++ 58 :: x from rfl, parts_col (by decide) h]; rfl
theorem g_tg {x : List UInt8} (h : (58 : UInt8) ∉ x) : gI ([116, 103, 58] ++ x) = (4, 0, 0, piN x) ∧ gS ([116, 103, 58] ++ x) = (4, 0, 0, piN x) := by
  constructor
  · unfold gI; rw [trim_app]; rfl
  · unfold gS; rw [show [116, 103, 58] ++ x = [116, 103] ++ 58 :: x from rfl, parts_col (by decide) h]; rfl
theorem g_to {x : List UInt8} (h : (58 : UInt8) ∉ x) : gI ([116, 111, 58] ++ x) = (5, 0, 0, piN x) ∧ gS ([116, 111, 58] ++ x) = (5, 0, 0, piN x) := by
  constructor
  · unfold gI; rw [trim_app]; rfl
  · unfold gS; rw [show [116, 111, 58] ++ x = [116, 111] ++ 58 :: x from rfl, parts_col (by decide) h]; rfl
theorem g_macro {x : List UInt8} (h : (58 : UInt8) ∉ x) : gI ([109, 97, 99, 114, 111, 58] ++ x) = (9, 0, 0, piN x) ∧ gS ([109, 97, 99, 114, 111, 58] ++ x) = (9, 0, 0, piN x) := by
  constructor
  · unfold gI; rw [trim_app]; rfl
  · unfold gS; rw [show [109, 97, 99, 114, 111, 58] ++ x = [109, 97, 99, 114, 111] ++ 58 :: x from rfl, parts_col (by decide) h]; rfl
theorem g_once {x : List UInt8} (h : (58 : UInt8) ∉ x) : gI ([111, 110, 99, 101, 58] ++ x) = (8, 0, ((TX.pmT x : Nat) : Int), 0) ∧ gS ([111, 110, 99, 101, 58] ++ x) = (8, 0, ((TX.pmT x : Nat) : Int), 0) := by
  constructor
  · unfold gI; rw [trim_app]; rfl
  · unfold gS; rw [show [111, 110, 99, 101, 58] ++ x = [111, 110, 99, 101] ++ 58 :: x from rfl, parts_col (by decide) h]; rfl
theorem in_out {lo hi x : Int} (h : inB lo hi x = true) : lo ≤ x ∧ x ≤ hi := inB_out h
/-- A valid action's text is taken for it, by both. -/
theorem g_fT {k c m n : Int} (h : isAct k c m n = true) : (gI (fT k c m n) = (k, c, m, n) ∧ gS (fT k c m n) = (k, c, m, n)) ∧ fT k c m n ≠ [] := by
  rcases kinds k with hk | rfl | rfl | rfl | rfl | rfl | rfl | rfl | rfl | rfl | rfl | rfl
  · unfold isAct at h; rw [act_other hk] at h; cases h
  · have h2 : (decide (c = 0) && decide (m = 0) && decide (n = 0)) = true := h
    simp only [Bool.and_eq_true, decide_eq_true_eq] at h2
    obtain ⟨⟨rfl, rfl⟩, rfl⟩ := h2
    exact ⟨⟨rfl, rfl⟩, by decide⟩
  · have h2 : (decide (c = 0) && decide (m = 0) && decide (n = 0)) = true := h
    simp only [Bool.and_eq_true, decide_eq_true_eq] at h2
    obtain ⟨⟨rfl, rfl⟩, rfl⟩ := h2
    exact ⟨⟨rfl, rfl⟩, by decide⟩
  · have h2 : (decide (n = 0) && (decide (c = 0) || inB 1 56 c) && (decide (m = 0) || inB 1 15 m) && !(decide (c = 0) && decide (m = 0))) = true := h
    simp only [Bool.and_eq_true, Bool.or_eq_true, decide_eq_true_eq, Bool.not_eq_true', Bool.and_eq_false_iff, decide_eq_false_iff_not] at h2
    obtain ⟨⟨⟨rfl, hc⟩, hm⟩, hcm⟩ := h2
    have hc' : 0 ≤ c ∧ c ≤ 56 := by rcases hc with hc | hc; omega; have := in_out hc; omega
    have hm' : 0 ≤ m ∧ m ≤ 15 := by rcases hm with hm | hm; omega; have := in_out hm; omega
    obtain ⟨C, rfl⟩ := Int.eq_ofNat_of_zero_le hc'.1
    obtain ⟨M, rfl⟩ := Int.eq_ofNat_of_zero_le hm'.1
    have c57 : C < 57 := by omega
    have m16 : M < 16 := by omega
    by_cases hM : M = 0
    · subst hM
      have hC : 1 ≤ C := by omega
      obtain ⟨w1, w2, w3⟩ := cnm_word C c57
      have hg := g_name (cnm_plain C c57) w1 w2 w3
      rw [cof_cnm C c57] at hg
      exact ⟨hg, cnm_ne C hC c57⟩
    · have hg := g_dash (fmT_plain M m16) (cnm_plain C c57)
      rw [cof_cnm C c57, pmT_fmT M m16] at hg
      have e : fT 2 (C : Int) (M : Int) 0 = TX.fmT (M : Int) ++ 45 :: cnm (C : Int) := by
        have : ¬ (M : Int) = 0 := by omega
        unfold fT
        rw [if_neg (by decide), if_neg (by decide), if_neg (by decide), if_pos rfl, if_neg this]
      rw [e]
      exact ⟨hg, by simp⟩
  · have h2 : (decide (c = 0) && decide (m = 0) && inB 1 3 n) = true := h
    simp only [Bool.and_eq_true, decide_eq_true_eq] at h2
    obtain ⟨⟨rfl, rfl⟩, hn⟩ := h2
    have hn' : 0 ≤ n ∧ n ≤ 3 := by have := in_out hn; omega
    have hg := g_mo (plain_no (itoa_plain n hn')).2.2
    rw [(piN_small n hn').1] at hg
    exact ⟨hg, by show [109, 111, 58] ++ Lib.itoa n ≠ []; simp⟩
  · have h2 : (decide (c = 0) && decide (m = 0) && inB 1 3 n) = true := h
    simp only [Bool.and_eq_true, decide_eq_true_eq] at h2
    obtain ⟨⟨rfl, rfl⟩, hn⟩ := h2
    have hn' : 0 ≤ n ∧ n ≤ 3 := by have := in_out hn; omega
    have hg := g_tg (plain_no (itoa_plain n hn')).2.2
    rw [(piN_small n hn').1] at hg
    exact ⟨hg, by show [116, 103, 58] ++ Lib.itoa n ≠ []; simp⟩
  · have h2 : (decide (c = 0) && decide (m = 0) && inB 0 3 n) = true := h
    simp only [Bool.and_eq_true, decide_eq_true_eq] at h2
    obtain ⟨⟨rfl, rfl⟩, hn⟩ := h2
    have hn' : 0 ≤ n ∧ n ≤ 3 := by have := in_out hn; omega
    have hg := g_to (plain_no (itoa_plain n hn')).2.2
    rw [(piN_small n hn').1] at hg
    exact ⟨hg, by show [116, 111, 58] ++ Lib.itoa n ≠ []; simp⟩
  · have h2 : (inB 1 56 c && inB 1 15 m && decide (n = 0)) = true := h
    simp only [Bool.and_eq_true, decide_eq_true_eq] at h2
    obtain ⟨⟨hc, hm⟩, rfl⟩ := h2
    have hc' := in_out hc
    have hm' := in_out hm
    obtain ⟨C, rfl⟩ := Int.eq_ofNat_of_zero_le (show 0 ≤ c by omega)
    obtain ⟨M, rfl⟩ := Int.eq_ofNat_of_zero_le (show 0 ≤ m by omega)
    have c57 : C < 57 := by omega
    have m16 : M < 16 := by omega
    have hg := g_slash (fmT_plain M m16) (cnm_plain C c57)
    rw [cof_cnm C c57, pmT_fmT M m16, piB_fmT M m16] at hg
    exact ⟨hg, by show TX.fmT (M : Int) ++ 47 :: cnm (C : Int) ≠ []; simp⟩
  · have h2 : (inB 1 56 c && decide (m = 0) && inB 1 3 n) = true := h
    simp only [Bool.and_eq_true, decide_eq_true_eq] at h2
    obtain ⟨⟨hc, rfl⟩, hn⟩ := h2
    have hc' := in_out hc
    have hn' : 0 ≤ n ∧ n ≤ 3 := by have := in_out hn; omega
    obtain ⟨C, rfl⟩ := Int.eq_ofNat_of_zero_le (show 0 ≤ c by omega)
    have c57 : C < 57 := by omega
    have hg := g_slash (itoa_plain n hn') (cnm_plain C c57)
    rw [cof_cnm C c57, (piN_small n hn').1, (piN_small n hn').2] at hg
    exact ⟨hg, by show Lib.itoa n ++ 47 :: cnm (C : Int) ≠ []; simp⟩
  · have h2 : (decide (c = 0) && inB 1 15 m && decide (n = 0)) = true := h
    simp only [Bool.and_eq_true, decide_eq_true_eq] at h2
    obtain ⟨⟨rfl, hm⟩, rfl⟩ := h2
    have hm' := in_out hm
    obtain ⟨M, rfl⟩ := Int.eq_ofNat_of_zero_le (show 0 ≤ m by omega)
    have m16 : M < 16 := by omega
    have hg := g_once (plain_no (fmT_plain M m16)).2.2
    rw [pmT_fmT M m16] at hg
    exact ⟨hg, by show [111, 110, 99, 101, 58] ++ TX.fmT (M : Int) ≠ []; simp⟩
  · have h2 : (decide (c = 0) && decide (m = 0) && inB 0 3 n) = true := h
    simp only [Bool.and_eq_true, decide_eq_true_eq] at h2
    obtain ⟨⟨rfl, rfl⟩, hn⟩ := h2
    have hn' : 0 ≤ n ∧ n ≤ 3 := by have := in_out hn; omega
    have hg := g_macro (plain_no (itoa_plain n hn')).2.2
    rw [(piN_small n hn').1] at hg
    exact ⟨hg, by show [109, 97, 99, 114, 111, 58] ++ Lib.itoa n ≠ []; simp⟩
  · have h2 : (decide (c = 0) && decide (m = 0) && decide (n = 0)) = true := h
    simp only [Bool.and_eq_true, decide_eq_true_eq] at h2
    obtain ⟨⟨rfl, rfl⟩, rfl⟩ := h2
    exact ⟨⟨rfl, rfl⟩, by decide⟩
/-- Both answer alike. -/
theorem pa_same (l : List UInt8) : paS l = paI l := by
  have hg : ∀ a : Int × Int × Int × Int, act4 a = true → fa4 a = l → gI l = a ∧ gS l = a ∧ l ≠ [] := by
    rintro ⟨k, c, m, n⟩ h1 h2
    have h3 : fT k c m n = l := by
      unfold fa4 faL at h2
      unfold act4 at h1
      simp only at h1 h2
      rw [if_pos h1] at h2
      exact h2
    obtain ⟨⟨e1, e2⟩, e3⟩ := g_fT (k := k) (c := c) (m := m) (n := n) h1
    rw [h3] at e1 e2 e3
    exact ⟨e1, e2, e3⟩
  have hact : ∀ a : Int × Int × Int × Int, fa4 a = l → l ≠ [] → act4 a = true := by
    intro a h1 h2
    cases h : act4 a with
    | true => rfl
    | false =>
      unfold act4 at h
      unfold fa4 faL at h1
      rw [h] at h1
      exact absurd h1.symm h2
  unfold paS paI
  by_cases hI : act4 (gI l) = true ∧ fa4 (gI l) = l
  · obtain ⟨e1, e2, e3⟩ := hg _ hI.1 hI.2
    rw [if_pos hI, if_pos ⟨e3, by rw [e2]; exact hI.2⟩, e2]
  · rw [if_neg hI, if_neg]
    rintro ⟨h1, h2⟩
    have h3 := hact _ h2 h1
    obtain ⟨e1, e2, e3⟩ := hg _ h3 h2
    exact hI ⟨by rw [e1]; exact h3, by rw [e1]; exact h2⟩
end Go.Proofs.YtpfocjdhjkifmaaDoor
