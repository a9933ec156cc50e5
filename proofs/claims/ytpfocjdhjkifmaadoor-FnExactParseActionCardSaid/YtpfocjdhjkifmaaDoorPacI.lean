/- What the program takes a text for: by contract. Conditions: the library's table and MaxLen as the cards give them, ErrSyntax some error. -/
import Derived.Test.YtpfocjdhjkifmaaDoorPacM
import Derived.Test.YtpfocjdhjkifmaaDoorPinS
import Derived.Deep.DeepCutAuto
namespace Go.Proofs.YtpfocjdhjkifmaaDoor
open Go.RowKit
set_option linter.unusedVariables false

abbrev act4V (a : Int × Int × Int × Int) : Value := actW a.1 a.2.1 a.2.2.1 a.2.2.2
theorem lit_beq (s : ByteArray) (l : List UInt8) : (s.toList == l) = decide (s.data.toList = l) := by
  rw [ByteArray.toList_eq, Bool.eq_iff_iff]; simp
theorem Blk.four {w : World} {g : Nat} {t : TypeId} {v0 v1 v2 v3 : Value} (h : Blk w g t #[v0, v1, v2, v3]) :
    w.cell? ⟨g, 0, none⟩ = some v0 ∧ w.cell? ⟨g, 1, none⟩ = some v1 ∧ w.cell? ⟨g, 2, none⟩ = some v2 ∧ w.cell? ⟨g, 3, none⟩ = some v3 ∧
      w.frozen? ⟨g, 0, none⟩ = false ∧ w.frozen? ⟨g, 1, none⟩ = false ∧ w.frozen? ⟨g, 2, none⟩ = false ∧ w.frozen? ⟨g, 3, none⟩ = false :=
  ⟨h.cell 0, h.cell 1, h.cell 2, h.cell 3, h.frozen 0, h.frozen 1, h.frozen 2, h.frozen 3⟩
abbrev a0000 : Array Value := #[.int .i64 0, .int .i64 0, .int .i64 0, .int .i64 0]
abbrev k3459 : Array Value := #[.int .i64 3, .int .i64 4, .int .i64 5, .int .i64 9]
/-- An action that lies in a block of its own. -/
theorem loadA {w : World} {g : Nat} {v0 v1 v2 v3 : Value} (hb : Blk w g 38 #[v0, v1, v2, v3]) : (loadVar 38 ⟨g, 0, none⟩).run Tryd.prog w = .ok (.agg #[v0, v1, v2, v3]) w := by
  obtain ⟨q0, q1, q2, q3, _⟩ := hb.four
  simp [loadVar, go_sem, q0, q1, q2, q3]
theorem retA {fn : Func} {R : Ending → World → Prop} {a : Act} {w : World} {s g : Nat} {v0 v1 v2 v3 : Value} (hr : fn.results = #[.cell s 38]) (hd : a.defers = []) (hp : a.tmps.getD s undef = .pointer (some ⟨g, 0, none⟩))
    (hb : Blk w g 38 #[v0, v1, v2, v3]) (hR : R (.returned (.agg #[v0, v1, v2, v3])) w) : bodyPost Tryd.prog fn R .ret a w :=
  bodyPost_ret (v := .agg #[v0, v1, v2, v3]) (by rw [Array.getD_eq_getD_getElem?] at hp; simp [results, hr, hp, asAddr, loadA hb]) hd hR
theorem retA2 {fn : Func} {R : Ending → World → Prop} {a : Act} {w : World} {s u g : Nat} {v0 v1 v2 v3 v : Value} (hr : fn.results = #[.cell s 38, .tmp u]) (hd : a.defers = []) (hp : a.tmps.getD s undef = .pointer (some ⟨g, 0, none⟩))
    (hb : Blk w g 38 #[v0, v1, v2, v3]) (hv : a.tmps.getD u undef = v) (hR : R (.returned (.tuple #[.agg #[v0, v1, v2, v3], v])) w) : bodyPost Tryd.prog fn R .ret a w :=
  bodyPost_ret (v := .tuple #[.agg #[v0, v1, v2, v3], v]) (by rw [Array.getD_eq_getD_getElem?] at hp hv; simp [results, hr, hp, hv, asAddr, loadA hb]) hd hR
abbrev fill4 (w : World) (g : Nat) (u0 u1 u2 u3 : Value) : World := (((w.setCell ⟨g, 0, none⟩ u0).setCell ⟨g, 1, none⟩ u1).setCell ⟨g, 2, none⟩ u2).setCell ⟨g, 3, none⟩ u3
theorem Blk.fill4 {w : World} {g : Nat} {t : TypeId} {v0 v1 v2 v3 : Value} (u0 u1 u2 u3 : Value) (h : Blk w g t #[v0, v1, v2, v3]) : Blk (fill4 w g u0 u1 u2 u3) g t #[u0, u1, u2, u3] :=
  (((h.set_ 0 u0).set_ 1 u1).set_ 2 u2).set_ 3 u3
theorem Blk.far4 {w : World} {g b : Nat} {t : TypeId} {cs : Array Value} (h : Blk w g t cs) (hne : g ≠ b) (u0 u1 u2 u3 : Value) : Blk (Go.Proofs.YtpfocjdhjkifmaaDoor.fill4 w b u0 u1 u2 u3) g t cs :=
  (((h.far (p := ⟨b, 0, none⟩) hne u0).far (p := ⟨b, 1, none⟩) hne u1).far (p := ⟨b, 2, none⟩) hne u2).far (p := ⟨b, 3, none⟩) hne u3
theorem below_fill4 {B : Nat} {a w : World} {g : Nat} (u0 u1 u2 u3 : Value) (h : Below B a w) (hg : B ≤ g) : Below B a (fill4 w g u0 u1 u2 u3) :=
  (((h.setCell hg u0).setCell hg u1).setCell hg u2).setCell hg u3
def wd (j : Nat) : List UInt8 := [[109, 111, 58], [116, 103, 58], [116, 111, 58], [109, 97, 99, 114, 111, 58]].getD j []
def kd (j : Nat) : Int := [3, 4, 5, 9].getD j 0
theorem kd_cell (j : Nat) (h : j < 4) : k3459[j]? = some (.int .i64 (kd j)) := by
  have hj : j = 0 ∨ j = 1 ∨ j = 2 ∨ j = 3 := by omega
  rcases hj with rfl | rfl | rfl | rfl <;> rfl
theorem wordOf_any (j : Nat) (h : j < 4) (w : World) : Calls Tryd.prog 57 #[.int .i64 (kd j)] w fun e w' => e = .returned (.string (st (wd j))) ∧ w = w' := by
  have hj : j = 0 ∨ j = 1 ∨ j = 2 ∨ j = 3 := by omega
  rcases hj with rfl | rfl | rfl | rfl
  · exact iWordOf_3 w
  · exact iWordOf_4 w
  · exact iWordOf_5 w
  · exact iWordOf_9 w
theorem cutPre_any (s : ByteArray) (p : List UInt8) (w : World) : Calls Tryd.prog 88 #[.string s, .string (st p)] w fun e w' => e = .returned (.tuple #[.string (st (Lib.trimPrefix s.data.toList p)), .bool (Lib.hasPrefix s.data.toList p)]) ∧ w = w' :=
  (Tryd.strings_CutPrefix s (st p) w).mono fun e w' h => ⟨h.1, h.2.symm⟩
theorem cut_any (b : UInt8) {w : World} (hm : MaxL w) (s : ByteArray) (hs : s.size ≤ 1048576) : Calls Tryd.prog 90 #[.string s, .string ⟨#[b]⟩] w fun e w' => e = .returned (.tuple #[.string (st (Lib.cut s.data.toList [b]).1), .string (st (Lib.cut s.data.toList [b]).2.1), .bool (Lib.cut s.data.toList [b]).2.2]) ∧ Below w.heap.size w w' := by
  obtain ⟨m, hm⟩ := hm
  refine (Tryd.strings_Cut s ⟨#[b]⟩ m w (by omega) hm).mono ?_
  rintro e w' ⟨h1, n, rfl⟩
  exact ⟨h1, below_drewN (Below.refl _ _) n⟩
theorem pinI_any {w : World} (hp : Pow10 w) (he : ErrS w) (l : List UInt8) : Calls Tryd.prog 24 #[.string (st l)] w fun e w' => e = .returned (.tuple #[.int .i64 (piN l), .bool (piB l)]) ∧ Below w.heap.size w w' := iParseInt_any hp he (st l)
theorem codI_any {w : World} (hm : MaxL w) (l : List UInt8) : Calls Tryd.prog 17 #[.string (st l)] w fun e w' => e = .returned (.int .i64 (cof l : Nat)) ∧ Below w.heap.size w w' := iCodeOf_any hm (st l)
theorem modI_any (l : List UInt8) (w : World) : Calls Tryd.prog 89 #[.string (st l)] w fun e w' => e = .returned (.int .i64 (TX.pmT l : Nat)) ∧ Below w.heap.size w w' := iParseMods_any (st l) w
/-- The texts that are words of kinds. -/
def isWd (l : List UInt8) : Bool := decide (l = [110, 111, 110, 101]) || decide (l = [112, 97, 115, 115]) || decide (l = [99, 97, 112, 115])
theorem isWd_no {l : List UInt8} (h : isWd l = false) : l ≠ [110, 111, 110, 101] ∧ l ≠ [112, 97, 115, 115] ∧ l ≠ [99, 97, 112, 115] := by
  unfold isWd at h
  simp only [Bool.or_eq_false_iff, decide_eq_false_iff_not] at h
  exact ⟨h.1.1, h.1.2, h.2⟩
def gR (l : List UInt8) : Int × Int × Int × Int :=
  if Lib.hasPrefix l [111, 110, 99, 101, 58] then (8, 0, (TX.pmT (Lib.trimPrefix l [111, 110, 99, 101, 58]) : Nat), 0)
  else if (Lib.cut l [47]).2.2 then (if piB (Lib.cut l [47]).1 then (7, (cof (Lib.cut l [47]).2.1 : Nat), 0, piN (Lib.cut l [47]).1) else (6, (cof (Lib.cut l [47]).2.1 : Nat), (TX.pmT (Lib.cut l [47]).1 : Nat), 0))
  else if (Lib.cut l [45]).2.2 then (2, (cof (Lib.cut l [45]).2.1 : Nat), (TX.pmT (Lib.cut l [45]).1 : Nat), 0)
  else (2, (cof l : Nat), 0, 0)
theorem gI_pre {l : List UInt8} (h0 : isWd l = false) {j : Nat} (hj : j < 4) (hn : ∀ p, p < j → Lib.hasPrefix l (wd p) = false) (h : Lib.hasPrefix l (wd j) = true) : gI l = (kd j, 0, 0, piN (Lib.trimPrefix l (wd j))) := by
  obtain ⟨w1, w2, w3⟩ := isWd_no h0
  unfold gI
  rw [if_neg w1, if_neg w2, if_neg w3]
  have hj : j = 0 ∨ j = 1 ∨ j = 2 ∨ j = 3 := by omega
  rcases hj with rfl | rfl | rfl | rfl
  · have e0 : Lib.hasPrefix l [109, 111, 58] = true := h
    rw [e0]; rfl
  · have e0 : Lib.hasPrefix l [109, 111, 58] = false := hn 0 (by omega)
    have e1 : Lib.hasPrefix l [116, 103, 58] = true := h
    rw [e0, e1]; rfl
  · have e0 : Lib.hasPrefix l [109, 111, 58] = false := hn 0 (by omega)
    have e1 : Lib.hasPrefix l [116, 103, 58] = false := hn 1 (by omega)
    have e2 : Lib.hasPrefix l [116, 111, 58] = true := h
    rw [e0, e1, e2]; rfl
  · have e0 : Lib.hasPrefix l [109, 111, 58] = false := hn 0 (by omega)
    have e1 : Lib.hasPrefix l [116, 103, 58] = false := hn 1 (by omega)
    have e2 : Lib.hasPrefix l [116, 111, 58] = false := hn 2 (by omega)
    have e3 : Lib.hasPrefix l [109, 97, 99, 114, 111, 58] = true := h
    rw [e0, e1, e2, e3]; rfl
theorem gI_rest {l : List UInt8} (h0 : isWd l = false) (hn : ∀ p, p < 4 → Lib.hasPrefix l (wd p) = false) : gI l = gR l := by
  obtain ⟨w1, w2, w3⟩ := isWd_no h0
  have e0 : Lib.hasPrefix l [109, 111, 58] = false := hn 0 (by omega)
  have e1 : Lib.hasPrefix l [116, 103, 58] = false := hn 1 (by omega)
  have e2 : Lib.hasPrefix l [116, 111, 58] = false := hn 2 (by omega)
  have e3 : Lib.hasPrefix l [109, 97, 99, 114, 111, 58] = false := hn 3 (by omega)
  unfold gI
  rw [if_neg w1, if_neg w2, if_neg w3, e0, e1, e2, e3]; rfl
theorem iGuess_none (s : ByteArray) (h : s.data.toList = [110, 111, 110, 101]) (w : World) : Calls Tryd.prog 69 #[.string s] w fun e w' => e = .returned (act4V (0, 0, 0, 0)) ∧ Below w.heap.size w w' := by
  have q1 := lit_beq s [110, 111, 110, 101]
  rw [decide_eq_true h] at q1
  clear h
  go_enter Tryd.func69, Tryd.ntmps69
  go_wp2
  go_returns
  exact ⟨rfl, by (first | (go_grown; done) | (refine below_drewN ?_ _; go_grown; done) | (refine Below.drew (below_drewN ?_ _); go_grown; done))⟩
theorem iGuess_pass (s : ByteArray) (h : s.data.toList = [112, 97, 115, 115]) (w : World) : Calls Tryd.prog 69 #[.string s] w fun e w' => e = .returned (act4V (1, 0, 0, 0)) ∧ Below w.heap.size w w' := by
  have q1 := lit_beq s [110, 111, 110, 101]
  have q2 := lit_beq s [112, 97, 115, 115]
  rw [h] at q1 q2
  rw [decide_eq_true rfl] at q2
  rw [decide_eq_false (by decide)] at q1
  clear h
  go_enter Tryd.func69, Tryd.ntmps69
  go_wp2
  go_returns
  exact ⟨rfl, by (first | (go_grown; done) | (refine below_drewN ?_ _; go_grown; done) | (refine Below.drew (below_drewN ?_ _); go_grown; done))⟩
theorem iGuess_caps (s : ByteArray) (h : s.data.toList = [99, 97, 112, 115]) (w : World) : Calls Tryd.prog 69 #[.string s] w fun e w' => e = .returned (act4V (10, 0, 0, 0)) ∧ Below w.heap.size w w' := by
  have q1 := lit_beq s [110, 111, 110, 101]
  have q2 := lit_beq s [112, 97, 115, 115]
  have q3 := lit_beq s [99, 97, 112, 115]
  rw [h] at q1 q2 q3
  rw [decide_eq_true rfl] at q3
  rw [decide_eq_false (by decide)] at q1 q2
  clear h
  go_enter Tryd.func69, Tryd.ntmps69
  go_wp2
  go_returns
  exact ⟨rfl, by (first | (go_grown; done) | (refine below_drewN ?_ _; go_grown; done) | (refine Below.drew (below_drewN ?_ _); go_grown; done))⟩
set_option maxRecDepth 100000 in
set_option maxHeartbeats 2000000 in
theorem iGuess_rest {w : World} (hp : Pow10 w) (he : ErrS w) (hm : MaxL w) (s : ByteArray) (hs : s.size ≤ 1048576) (h0 : isWd s.data.toList = false) : Calls Tryd.prog 69 #[.string s] w fun e w' => e = .returned (act4V (gI s.data.toList)) ∧ Below w.heap.size w w' := by
  have q1 := lit_beq s [110, 111, 110, 101]
  have q2 := lit_beq s [112, 97, 115, 115]
  have q3 := lit_beq s [99, 97, 112, 115]
  rw [decide_eq_false (isWd_no h0).1] at q1
  rw [decide_eq_false (isWd_no h0).2.1] at q2
  rw [decide_eq_false (isWd_no h0).2.2] at q3
  obtain ⟨L, hL⟩ : ∃ L, s.data.toList = L := ⟨_, rfl⟩
  have HW0 := hid h0
  rw [hL] at HW0 ⊢
  have HP := hid hp
  have HE := hid he
  have HM := hid hm
  have HI := hid (fun (W : World) (hp : Pow10 W) (he : ErrS W) (l : List UInt8) => pinI_any hp he l)
  have HC := hid (fun (p : List UInt8) => cutPre_any s p)
  have HK := hid (fun (b : UInt8) (W : World) (hm : MaxL W) => cut_any b hm s hs)
  have HO := hid (fun (W : World) (hm : MaxL W) (l : List UInt8) => codI_any hm l)
  have HOs := hid (fun (W : World) (hm : MaxL W) => iCodeOf_any hm s)
  have HQ := hid (fun (l : List UInt8) (W : World) => modI_any l W)
  rw [hL] at HC HK HOs
  have HL := hid hL
  clear hp he hm hs h0 hL
  go_enter Tryd.func69, Tryd.ntmps69
  go_wp2_with fail
  have hbx := (Blk.new w 38 a0000).alloc (.cells k3459 3)
  have hsl := Blk.new (w.alloc (.cells a0000 38)) 3 k3459
  have hbel : Below w.heap.size w ((w.alloc (.cells a0000 38)).alloc (.cells k3459 3)) := ((Below.refl _ _).alloc (Nat.le_refl _) _).alloc (by simp) _
  rw [show (w.alloc (.cells a0000 38)).heap.size = w.heap.size + 1 by simp] at hsl
  go_loopw [4, 5, 6, 7, 8, 31] (fun _ _ _ _ _ i wr => ∃ j : Nat, j ≤ 4 ∧ i = .int .i64 j ∧ (∀ p, p < j → Lib.hasPrefix L (wd p) = false) ∧ Blk wr w.heap.size 38 a0000 ∧ Blk wr (w.heap.size + 1) 3 k3459 ∧ Below w.heap.size w wr) (fun _ _ _ _ _ i _ => 4 - (intOf i).toNat)
  case atStart => exact ⟨0, by omega, rfl, fun p hp => by omega, hbx, hsl, hbel⟩
  case round =>
    clear hbx hsl hbel
    obtain ⟨j, hj, rfl, hno, hbx, hsl, hbel⟩ := hrel
    have HNO := hid hno
    have HBX := hid hbx
    have HSL := hid hsl
    have HBL := hid hbel
    by_cases hlt : j < 4
    · have hc := hsl.cell j
      rw [kd_cell j hlt] at hc
      have e5 : (j : Int) < 4 := by omega
      have H1 := hid (wordOf_any j hlt)
      have H2 := hid (HC.out (wd j))
      have HKD : Hid (kd j = kd j) := hid rfl
      obtain ⟨kj, hkj⟩ : ∃ kj, kd j = kj := ⟨_, rfl⟩
      rw [hkj] at hc H1
      have HKJ := hid hkj
      clear HKD hkj hno hbx hsl hbel
      cases hpr : Lib.hasPrefix L (wd j)
      · rw [hpr] at H2
        have HPR := hid hpr
        clear hpr
        go_wp2_with (first | (go_at_call 57; (with_reducible refine (H1.out _).mono ?_); rintro e w' ⟨rfl, rfl⟩) | (go_at_call 88; (with_reducible refine (H2.out _).mono ?_); rintro e w' ⟨rfl, rfl⟩))
        go_roundw
        case rel => exact ⟨j + 1, by omega, by go_num, fun p hp => by rcases Nat.lt_or_ge p j with h | h; exact HNO.out p h; obtain rfl : p = j := by omega
                                                                      exact HPR.out, HBX.out, HSL.out, HBL.out⟩
        case measure => simp [intOf]; omega
      · rw [hpr] at H2
        have HG := hid (gI_pre HW0.out hlt HNO.out hpr)
        clear hpr
        rw [HKJ.out] at HG
        have H3 := hid (HI.out _ (TabIs_below HP.out HBL.out) (HE.out.below HBL.out) (Lib.trimPrefix L (wd j)))
        go_wp2_with (first | (go_at_call 57; (with_reducible refine (H1.out _).mono ?_); rintro e w' ⟨rfl, rfl⟩) | (go_at_call 88; (with_reducible refine (H2.out _).mono ?_); rintro e w' ⟨rfl, rfl⟩) | (go_at_call 24; (with_reducible refine H3.out.mono ?_); rintro e w5 ⟨rfl, hb5⟩; obtain ⟨c0, c1, c2, c3, f0, f1, f2, f3⟩ := (HBX.out.bel hb5).four; have hb6 := Below.step HBL.out hb5))
        rw [HG.out]
        refine retA Tryd.results69 rfl rfl ((HBX.out.bel hb5).fill4 (.int .i64 kj) (.int .i64 0) (.int .i64 0) (.int .i64 (piN (Lib.trimPrefix L (wd j))))) ?_
        exact ⟨rfl, below_fill4 _ _ _ _ hb6 (Nat.le_refl _)⟩
    · obtain rfl : j = 4 := by omega
      have HGR := hid (gI_rest HW0.out HNO.out)
      have HBr := HBL
      have HXr := HBX
      have H2 := hid (fun (W : World) => show Calls Tryd.prog 88 #[.string s, .string (ByteArray.mk #[111, 110, 99, 101, 58])] W _ from HC.out [111, 110, 99, 101, 58] W)
      clear hno hbx hsl hbel HNO HSL HC
      obtain ⟨a7, b7, g7, e7⟩ : ∃ a b g, Lib.cut L [47] = (a, b, g) := ⟨_, _, _, rfl⟩
      obtain ⟨a4, b4, g4, e4⟩ : ∃ a b g, Lib.cut L [45] = (a, b, g) := ⟨_, _, _, rfl⟩
      have H47 := hid (HK.out 47)
      have H45 := hid (HK.out 45)
      unfold gR at HGR
      rw [e7, e4] at HGR
      rw [e7] at H47
      rw [e4] at H45
      clear HK e7 e4
      cases hpo : Lib.hasPrefix L [111, 110, 99, 101, 58]
      · rw [hpo] at H2 HGR
        clear hpo
        cases g7
        · cases g4
          · have HG : Hid (gI L = (2, ((cof L : Nat) : Int), 0, 0)) := HGR
            clear HGR
            go_wp2_with (first | (go_at_call 88; (with_reducible refine (H2.out _).mono ?_); rintro e w' ⟨rfl, rfl⟩) | (go_at_call 90; (with_reducible refine (H47.out _ (HM.out.below HBr.out)).mono ?_); rintro e w5 ⟨rfl, hb⟩; have HBw5 := hid (Below.step HBr.out hb); have HXw5 := hid (HXr.out.bel hb); clear hb) | (go_at_call 90; (with_reducible refine (H45.out _ (HM.out.below HBw5.out)).mono ?_); rintro e w6 ⟨rfl, hb⟩; have HBw6 := hid (Below.step HBw5.out hb); have HXw6 := hid (HXw5.out.bel hb); clear hb) | (go_at_call 17; (with_reducible refine (HOs.out _ (HM.out.below HBw6.out)).mono ?_); rintro e w7 ⟨rfl, hb⟩; have HBw7 := hid (Below.step HBw6.out hb); have HXw7 := hid (HXw6.out.bel hb); clear hb; obtain ⟨c0, c1, c2, c3, f0, f1, f2, f3⟩ := HXw7.out.four))
            rw [HG.out]
            refine retA Tryd.results69 rfl rfl (HXw7.out.fill4 (.int .i64 (2)) (.int .i64 (((cof L : Nat) : Int))) (.int .i64 (0)) (.int .i64 (0))) ?_
            exact ⟨rfl, below_fill4 _ _ _ _ HBw7.out (Nat.le_refl _)⟩
          · have HG : Hid (gI L = (2, ((cof b4 : Nat) : Int), ((TX.pmT a4 : Nat) : Int), 0)) := HGR
            clear HGR
            go_wp2_with (first | (go_at_call 88; (with_reducible refine (H2.out _).mono ?_); rintro e w' ⟨rfl, rfl⟩) | (go_at_call 90; (with_reducible refine (H47.out _ (HM.out.below HBr.out)).mono ?_); rintro e w5 ⟨rfl, hb⟩; have HBw5 := hid (Below.step HBr.out hb); have HXw5 := hid (HXr.out.bel hb); clear hb) | (go_at_call 90; (with_reducible refine (H45.out _ (HM.out.below HBw5.out)).mono ?_); rintro e w6 ⟨rfl, hb⟩; have HBw6 := hid (Below.step HBw5.out hb); have HXw6 := hid (HXw5.out.bel hb); clear hb) | (go_at_call 89; (with_reducible refine (HQ.out _ _).mono ?_); rintro e w7 ⟨rfl, hb⟩; have HBw7 := hid (Below.step HBw6.out hb); have HXw7 := hid (HXw6.out.bel hb); clear hb) | (go_at_call 17; (with_reducible refine (HO.out _ (HM.out.below HBw7.out) _).mono ?_); rintro e w8 ⟨rfl, hb⟩; have HBw8 := hid (Below.step HBw7.out hb); have HXw8 := hid (HXw7.out.bel hb); clear hb; obtain ⟨c0, c1, c2, c3, f0, f1, f2, f3⟩ := HXw8.out.four))
            rw [HG.out]
            refine retA Tryd.results69 rfl rfl (HXw8.out.fill4 (.int .i64 (2)) (.int .i64 (((cof b4 : Nat) : Int))) (.int .i64 (((TX.pmT a4 : Nat) : Int))) (.int .i64 (0))) ?_
            exact ⟨rfl, below_fill4 _ _ _ _ HBw8.out (Nat.le_refl _)⟩
        · cases hb7 : piB a7
          · have HG : Hid (gI L = (6, ((cof b7 : Nat) : Int), ((TX.pmT a7 : Nat) : Int), 0)) := hid (by have h := HGR.out; simp only [hb7] at h; exact h)
            have HI7 := hid (fun (W : World) (h1 : Pow10 W) (h2 : ErrS W) => HI.out W h1 h2 a7)
            rw [hb7] at HI7
            clear HGR hb7 HI
            go_wp2_with (first | (go_at_call 88; (with_reducible refine (H2.out _).mono ?_); rintro e w' ⟨rfl, rfl⟩) | (go_at_call 90; (with_reducible refine (H47.out _ (HM.out.below HBr.out)).mono ?_); rintro e w5 ⟨rfl, hb⟩; have HBw5 := hid (Below.step HBr.out hb); have HXw5 := hid (HXr.out.bel hb); clear hb) | (go_at_call 24; (with_reducible refine (HI7.out _ (TabIs_below HP.out HBw5.out) (HE.out.below HBw5.out)).mono ?_); rintro e w6 ⟨rfl, hb⟩; have HBw6 := hid (Below.step HBw5.out hb); have HXw6 := hid (HXw5.out.bel hb); clear hb) | (go_at_call 89; (with_reducible refine (HQ.out _ _).mono ?_); rintro e w7 ⟨rfl, hb⟩; have HBw7 := hid (Below.step HBw6.out hb); have HXw7 := hid (HXw6.out.bel hb); clear hb) | (go_at_call 17; (with_reducible refine (HO.out _ (HM.out.below HBw7.out) _).mono ?_); rintro e w8 ⟨rfl, hb⟩; have HBw8 := hid (Below.step HBw7.out hb); have HXw8 := hid (HXw7.out.bel hb); clear hb; obtain ⟨c0, c1, c2, c3, f0, f1, f2, f3⟩ := HXw8.out.four))
            rw [HG.out]
            refine retA Tryd.results69 rfl rfl (HXw8.out.fill4 (.int .i64 (6)) (.int .i64 (((cof b7 : Nat) : Int))) (.int .i64 (((TX.pmT a7 : Nat) : Int))) (.int .i64 (0))) ?_
            exact ⟨rfl, below_fill4 _ _ _ _ HBw8.out (Nat.le_refl _)⟩
          · have HG : Hid (gI L = (7, ((cof b7 : Nat) : Int), 0, piN a7)) := hid (by have h := HGR.out; simp only [hb7] at h; exact h)
            have HI7 := hid (fun (W : World) (h1 : Pow10 W) (h2 : ErrS W) => HI.out W h1 h2 a7)
            rw [hb7] at HI7
            clear HGR hb7 HI
            go_wp2_with (first | (go_at_call 88; (with_reducible refine (H2.out _).mono ?_); rintro e w' ⟨rfl, rfl⟩) | (go_at_call 90; (with_reducible refine (H47.out _ (HM.out.below HBr.out)).mono ?_); rintro e w5 ⟨rfl, hb⟩; have HBw5 := hid (Below.step HBr.out hb); have HXw5 := hid (HXr.out.bel hb); clear hb) | (go_at_call 24; (with_reducible refine (HI7.out _ (TabIs_below HP.out HBw5.out) (HE.out.below HBw5.out)).mono ?_); rintro e w6 ⟨rfl, hb⟩; have HBw6 := hid (Below.step HBw5.out hb); have HXw6 := hid (HXw5.out.bel hb); clear hb) | (go_at_call 17; (with_reducible refine (HO.out _ (HM.out.below HBw6.out) _).mono ?_); rintro e w7 ⟨rfl, hb⟩; have HBw7 := hid (Below.step HBw6.out hb); have HXw7 := hid (HXw6.out.bel hb); clear hb; obtain ⟨c0, c1, c2, c3, f0, f1, f2, f3⟩ := HXw7.out.four))
            rw [HG.out]
            refine retA Tryd.results69 rfl rfl (HXw7.out.fill4 (.int .i64 (7)) (.int .i64 (((cof b7 : Nat) : Int))) (.int .i64 (0)) (.int .i64 (piN a7))) ?_
            exact ⟨rfl, below_fill4 _ _ _ _ HBw7.out (Nat.le_refl _)⟩
      · rw [hpo] at H2 HGR
        clear hpo
        have HG : Hid (gI L = (8, 0, ((TX.pmT (Lib.trimPrefix L [111, 110, 99, 101, 58]) : Nat) : Int), 0)) := HGR
        clear HGR
        go_wp2_with (first | (go_at_call 88; (with_reducible refine (H2.out _).mono ?_); rintro e w' ⟨rfl, rfl⟩) | (go_at_call 89; (with_reducible refine (HQ.out _ _).mono ?_); rintro e w5 ⟨rfl, hb⟩; have HBw5 := hid (Below.step HBr.out hb); have HXw5 := hid (HXr.out.bel hb); clear hb; obtain ⟨c0, c1, c2, c3, f0, f1, f2, f3⟩ := HXw5.out.four))
        rw [HG.out]
        refine retA Tryd.results69 rfl rfl (HXw5.out.fill4 (.int .i64 (8)) (.int .i64 (0)) (.int .i64 (((TX.pmT (Lib.trimPrefix L [111, 110, 99, 101, 58]) : Nat) : Int))) (.int .i64 (0))) ?_
        exact ⟨rfl, below_fill4 _ _ _ _ HBw5.out (Nat.le_refl _)⟩
/-- What the program takes a text for. -/
theorem iGuess_any {w : World} (hp : Pow10 w) (he : ErrS w) (hm : MaxL w) (s : ByteArray) (hs : s.size ≤ 1048576) : Calls Tryd.prog 69 #[.string s] w fun e w' => e = .returned (act4V (gI s.data.toList)) ∧ Below w.heap.size w w' := by
  by_cases h1 : s.data.toList = [110, 111, 110, 101]
  · have := iGuess_none s h1 w
    rw [h1]; exact this
  by_cases h2 : s.data.toList = [112, 97, 115, 115]
  · have := iGuess_pass s h2 w
    rw [h2]; exact this
  by_cases h3 : s.data.toList = [99, 97, 112, 115]
  · have := iGuess_caps s h3 w
    rw [h3]; exact this
  exact iGuess_rest hp he hm s hs (by unfold isWd; rw [decide_eq_false h1, decide_eq_false h2, decide_eq_false h3]; rfl)
end Go.Proofs.YtpfocjdhjkifmaaDoor
