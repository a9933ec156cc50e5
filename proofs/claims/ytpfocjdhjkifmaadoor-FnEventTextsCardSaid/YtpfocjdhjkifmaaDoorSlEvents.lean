/- Slices of events: copied, compared, marked, held against marks: each helper of the laws by its contract. Conditions: at most 2^20 elements. -/
import Derived.Test.YtpfocjdhjkifmaaDoorEvRd
import Derived.Test.YtpfocjdhjkifmaaDoorEvA
import Derived.Deep.RegionWith
namespace Go.Proofs.YtpfocjdhjkifmaaDoor
open Go.RowKit
set_option linter.unusedVariables false

def fillE (xs : List EV.Ev) (n k : Nat) : List EV.Ev := xs.take k ++ List.replicate (n - k) evD
theorem fillE_length (xs : List EV.Ev) {n k : Nat} (h : xs.length = n) (hk : k ≤ n) : (fillE xs n k).length = n := by unfold fillE; simp; omega
theorem fillE_all (xs : List EV.Ev) : fillE xs xs.length xs.length = xs := by unfold fillE; simp
theorem fillE_set (xs : List EV.Ev) {n k : Nat} (h : xs.length = n) (hk : k < n) : (fillE xs n k).set k (xs.getD k evD) = fillE xs n (k + 1) := by
  have := fillG_set (fun e : EV.Ev => Value.int .i64 0) evD xs h hk
  have hg := fillG_get evD xs h (Nat.le_of_lt hk)
  have hg1 := fillG_get evD xs h (show k + 1 ≤ n from hk)
  apply List.ext_getElem?
  intro i
  show (List.set (fillG evD xs n k) k _)[i]? = (fillG evD xs n (k + 1))[i]?
  rw [List.getElem?_set, fillG_length evD xs h (by omega), hg, hg1]
  by_cases h1 : k = i
  · subst h1
    rw [if_pos rfl, if_pos hk, if_pos (by omega), List.getD_eq_getElem?_getD, List.getElem?_eq_getElem (by omega)]; rfl
  · rw [if_neg h1]
    by_cases h2 : i < k
    · rw [if_pos h2, if_pos (by omega)]
    · rw [if_neg h2, if_neg (show ¬ i < k + 1 by omega)]
theorem evCs_rep (n i : Nat) (h : i < n * 3) : (evCs (List.replicate n evD))[i]? = some (#[Value.int .i64 0, .int .i64 0, .bool false][i % 3]!) := by
  obtain ⟨g0, g1, g2⟩ := evCs_get (List.replicate n evD) (i / 3) (by rw [List.length_replicate]; omega)
  have hd : (List.replicate n evD).getD (i / 3) evD = evD := by
    rw [List.getD_eq_getElem?_getD, List.getElem?_replicate]; split <;> rfl
  rw [hd] at g0 g1 g2
  have h3 : i % 3 = 0 ∨ i % 3 = 1 ∨ i % 3 = 2 := by omega
  rcases h3 with h3 | h3 | h3
  · rw [h3]; rw [show i / 3 * 3 = i by omega] at g0; rw [g0]; rfl
  · rw [h3]; rw [show i / 3 * 3 + 1 = i by omega] at g1; rw [g1]; rfl
  · rw [h3]; rw [show i / 3 * 3 + 2 = i by omega] at g2; rw [g2]; rfl
theorem fillE_zero (xs : List EV.Ev) (n : Nat) : evCs (fillE xs n 0) = (madeCells #[.int .i64 0, .int .i64 0, .bool false] (n * 3)).toList := by
  unfold fillE
  rw [List.take_zero, List.nil_append, Nat.sub_zero]
  apply List.ext_getElem?
  intro i
  by_cases h : i < n * 3
  · rw [evCs_rep n i h]
    unfold madeCells
    rw [Array.getElem?_toList, Array.getElem?_map, Array.getElem?_range, if_pos h]
    rfl
  · rw [List.getElem?_eq_none (by rw [evCs_length, List.length_replicate]; omega), List.getElem?_eq_none (by rw [Array.length_toList, size_madeCells]; omega)]
set_option maxHeartbeats 1000000 in
theorem toEventS_any {w : World} {A : Option Addr} {n cap : Nat} {xs : List EV.Ev} (h : RdE w A n xs) (hn : n ≤ 1048576) : Calls Tryd.prog 20 #[.slice A n cap] w (MadeE w xs) := by
  have hl := h.1
  obtain ⟨i0, hi, hz0, hz1, hz2⟩ := info_parts ev_info
  have HR := hid h; clear h
  have HI := hid (And.intro hi (And.intro hz0 (And.intro hz1 hz2))); clear hi hz0 hz1 hz2
  have HT := hid toEvent_any
  go_enter Tryd.func20, Tryd.ntmps20
  go_wp2_with (at_make; refine wpList_make_full _ rfl _ _ 29 rfl w.heap.size 47 i0 (.agg #[.int .i64 0, .int .i64 0, .bool false]) 3 Tryd.underlying29 HI.out.1 HI.out.2.1 HI.out.2.2.1 .i64 .i64 n n n rfl rfl rfl rfl ?c1 ?c2 (Nat.le_refl _) ?_)
  case c1 => rw [HI.out.2.2.2]; omega
  case c2 => unfold maxLen; omega
  intro w1 hown hg
  have hb1 : Below w.heap.size w w1 := (Below.refl _ _).grown hg (Nat.le_refl _) (fun k hk => by cases hk)
  clear hg
  have hown : w1.ownsRow w.heap.size 47 3 (.slice (some ⟨w.heap.size, 0, none⟩) n n) n (evCs (fillE xs n 0)) := by rw [fillE_zero]; exact hown
  go_wp2
  go_loopw [4] (fun i wr => ∃ k : Nat, k ≤ n ∧ i = .int .i64 k ∧ wr.ownsRow w.heap.size 47 3 (.slice (some ⟨w.heap.size, 0, none⟩) n n) n (evCs (fillE xs n k)) ∧ Below w.heap.size w wr) (fun i _ => n - (intOf i).toNat)
  case atStart => exact ⟨0, Nat.zero_le _, rfl, hown, hb1⟩
  case round =>
    clear hown hb1
    obtain ⟨k, hk, rfl, hown, hbel⟩ := hrel
    have HOwn := hid hown; clear hown
    by_cases hlt : k < n
    · obtain ⟨ad, rfl, c0, c1, c2, hab⟩ := (HR.out.below hbel).at3 hlt
      obtain ⟨ev, hev⟩ : ∃ ev, xs.getD k evD = ev := ⟨_, rfl⟩
      rw [hev] at c0 c1 c2
      have HEV := hid hev; clear hev
      have hlt2 : (k : Int) < (n : Int) := by omega
      go_wp2_with (go_at_call 48; (with_reducible refine (HT.out _ _ _ _).mono ?_); rintro e w2 ⟨rfl, hb2⟩; have HB2 := hid (Below.step hbel hb2); have HO2 := hid (ownsRow_below HOwn.out hb2); obtain ⟨z0, z1, z2, f0, f1, f2⟩ := own_cells3 HO2.out (fillE_length xs hl hk) hlt)
      go_roundw
      case rel =>
        have h3 := own_set3 HO2.out (fillE_length xs hl hk) hlt ev
        have h4 := h3.1
        rw [← HEV.out, fillE_set xs hl hlt, HEV.out] at h4
        exact ⟨k + 1, by omega, by go_num, h4, ((HB2.out.setCell (Nat.le_refl _) _).setCell (Nat.le_refl _) _).setCell (Nat.le_refl _) _⟩
      case measure => simp [intOf]; omega
    · obtain rfl : k = n := by omega
      go_wp2
      go_ret
      subst hl
      have h2 := HOwn.out
      rw [fillE_all] at h2
      exact ⟨_, _, rfl, ⟨rfl, h2⟩, hbel⟩
theorem eqEvent_same (t k : Int) (d : Bool) (w : World) : Calls Tryd.prog 51 #[.agg #[.int .i64 t, .int .i64 k, .bool d], .agg #[.int .i64 t, .int .i64 k, .bool d]] w fun e w' => e = .returned (.bool true) ∧ Below w.heap.size w w' := by
  go_enter Tryd.func51, Tryd.ntmps51
  go_wp2
  go_ret
  exact ⟨rfl, by (first | (go_grown; done) | (refine below_drewN ?_ _; go_grown; done) | (refine Below.drew (below_drewN ?_ _); go_grown; done))⟩
set_option maxHeartbeats 1000000 in
/-- Two slices that read as the same events. -/
theorem eqEventS_same {w : World} {A B : Option Addr} {n c d : Nat} {xs : List EV.Ev} (h : RdE w A n xs) (h' : RdE w B n xs) (hn : n ≤ 1048576) : Calls Tryd.prog 22 #[.slice A n c, .slice B n d] w fun e w' => e = .returned (.bool true) ∧ Below w.heap.size w w' := by
  have HA := hid h; clear h
  have HB := hid h'; clear h'
  have HE := hid eqEvent_same
  go_enter Tryd.func22, Tryd.ntmps22
  go_wp2
  go_loopw [5] (fun i wr => ∃ k : Nat, k ≤ n ∧ i = .int .i64 k ∧ Below w.heap.size w wr) (fun i _ => n - (intOf i).toNat)
  case atStart => exact ⟨0, Nat.zero_le _, rfl, Below.refl _ _⟩
  case round =>
    obtain ⟨k, hk, rfl, hbel⟩ := hrel
    by_cases hlt : k < n
    · obtain ⟨ad, rfl, a0, a1, a2, hab⟩ := (HA.out.below hbel).at3 hlt
      obtain ⟨bd, rfl, b0, b1, b2, hbb⟩ := (HB.out.below hbel).at3 hlt
      have hk0 : (0 : Int) ≤ (k : Int) := by omega
      have hkn : (k : Int) < (n : Int) := by omega
      generalize xs.getD k evD = v at *
      go_wp2_with fail
      go_region_with ((go_at_call 51; (with_reducible refine (HE.out _ _ _ _).mono ?_); rintro e w2 ⟨rfl, hb2⟩; have HB2 := hid (Below.step (Below.drew hbel) hb2)))
      all_goals
        go_wp2
        go_roundw
        case rel => exact ⟨k + 1, by omega, by go_num, HB2.out⟩
        case measure => simp [intOf]; omega
    · obtain rfl : k = n := by omega
      go_wp2
      go_ret
      exact ⟨rfl, hbel⟩
/-- The mark at place i. -/
def mkE (i : Nat) : EV.Ev := ⟨1 + 3 * (i : Int), 2 + 3 * (i : Int), true⟩
theorem mkToG_setL {α : Type} (g : Nat → α) (xs : List α) {j : Nat} (h : j < xs.length) : (mkToG g xs j).set j (g j) = mkToG g xs (j + 1) := by
  apply List.ext_getElem?
  intro i
  rw [List.getElem?_set, mkToG_length g xs (by omega), mkToG_get g xs (by omega), mkToG_get g xs (by omega)]
  by_cases h1 : j = i
  · subst h1; rw [if_pos rfl, if_pos h, if_pos (by omega)]
  · rw [if_neg h1]
    by_cases h2 : i < j
    · rw [if_pos h2, if_pos (by omega)]
    · rw [if_neg h2, if_neg (show ¬ i < j + 1 by omega)]
/-- What marking does. -/
def MarkedE (w : World) (base : Nat) (A : Option Addr) (n cap : Nat) (e : Ending) (w' : World) : Prop :=
  e = .returned (.int .i64 (1 + 3 * (n : Int))) ∧ OwnE w' base A n cap (marksG mkE n) ∧ w.grownBy w' (Value.slice A n cap).ownBlock
theorem OwnE.form {w : World} {base : Nat} {A : Option Addr} {n cap : Nat} {xs : List EV.Ev} (h : OwnE w base A n cap xs) (hn : 0 < n) : ∃ g, A = some ⟨g, 0, none⟩ := by
  obtain ⟨g, cap', hv, _⟩ := h.2.form hn
  injection hv with hA
  exact ⟨g, hA⟩
set_option maxHeartbeats 1000000 in
theorem markEventS_any {w : World} {base : Nat} {A : Option Addr} {n cap : Nat} {xs : List EV.Ev} (h : OwnE w base A n cap xs) (hn : n ≤ 1048576) :
    Calls Tryd.prog 37 #[.slice A n cap, .int .i64 1] w (MarkedE w base A n cap) := by
  by_cases h0 : n = 0
  · subst h0
    have HO := hid h; clear h
    go_enter Tryd.func37, Tryd.ntmps37
    go_wp2_with fail
    refine wp_loop_rounds 1 ?_; rw [rounds_succ]
    go_wp2
    go_ret
    exact ⟨ret_int (by simp), ⟨rfl, by have := HO.out; have e := this.1; cases xs with
      | nil => exact this.2
      | cons a l => simp at e⟩, World.grownBy.refl _ _⟩
  · obtain ⟨g, rfl⟩ := h.form (by omega)
    have hl := h.1
    have HO := hid h; clear h
    have HL := hid hl; clear hl
    go_enter Tryd.func37, Tryd.ntmps37
    go_wp2
    go_loopw [1, 5] (fun q i wr => ∃ j : Nat, j ≤ n ∧ i = .int .i64 j ∧ q = .int .i64 (1 + 3 * (j : Int)) ∧ wr.ownsRow base 47 3 (.slice (some ⟨g, 0, none⟩) n cap) n (evCs (mkToG mkE xs j)) ∧ w.grownBy wr (some g)) (fun _ i _ => n - (intOf i).toNat)
    case atStart => exact ⟨0, Nat.zero_le _, rfl, by simp, by simpa [mkToG, marksG] using HO.out.2, World.grownBy.refl _ _⟩
    case round =>
      obtain ⟨j, hj, rfl, rfl, hown, hg⟩ := hrel
      by_cases hlt : j < n
      · have hml : (mkToG mkE xs j).length = n := by rw [mkToG_length _ xs (by rw [HL.out]; omega), HL.out]
        obtain ⟨z0, z1, z2, f0, f1, f2⟩ := own_cells3 hown hml hlt
        have hst := own_set3 hown hml hlt (mkE j)
        rw [mkToG_setL mkE xs (by rw [HL.out]; exact hlt)] at hst
        have HS := hid hst; clear hst hown hml
        have HG0 := hid hg; clear hg
        generalize (mkToG mkE xs j).getD j evD = old at *
        have hlt2 : (j : Int) < (n : Int) := by omega
        go_wp2
        go_roundw
        case rel =>
          have hs := HS.out
          have e0 : (mkE j).time = 1 + 3 * (j : Int) := rfl
          have e1 : (mkE j).key = 1 + 3 * (j : Int) + 1 := by show 2 + 3 * (j : Int) = _; omega
          have e2 : (mkE j).down = ((1 + 3 * (j : Int) + 1 + 1) % 3 == 0) := by show true = _; symm; simp; omega
          rw [e0, e1, e2] at hs
          exact ⟨j + 1, by omega, by go_num, by go_num, hs.1, grown_trans HG0.out hs.2⟩
        case measure => simp [intOf]; omega
      · obtain rfl : j = n := by omega
        go_wp2
        go_ret
        have hl := HL.out
        subst hl
        rw [mkToG_all] at hown
        exact ⟨rfl, ⟨marksG_length _ _, hown⟩, hg⟩
set_option maxHeartbeats 1000000 in
theorem heldEventS_any {w : World} {A : Option Addr} {n cap : Nat} (h : RdE w A n (marksG mkE n)) (hn : n ≤ 1048576) :
    Calls Tryd.prog 38 #[.slice A n cap, .int .i64 1] w fun e w' => e = .returned (.int .i64 (1 + 3 * (n : Int))) ∧ w = w' := by
  have HA := hid h; clear h
  go_enter Tryd.func38, Tryd.ntmps38
  go_wp2
  go_loop [1, 5] (fun q i => ∃ j : Nat, j ≤ n ∧ i = .int .i64 j ∧ q = .int .i64 (1 + 3 * (j : Int))) (fun _ i => n - (intOf i).toNat)
  case atStart => exact ⟨0, Nat.zero_le _, rfl, by simp⟩
  case round =>
    obtain ⟨j, hj, rfl, rfl⟩ := hrel
    by_cases hlt : j < n
    · obtain ⟨ad, rfl, a0, a1, a2, hab⟩ := HA.out.at3 hlt
      rw [marksG_getD evD hlt] at a0 a1 a2
      have e1 : (mkE j).key = 1 + 3 * (j : Int) + 1 := by show 2 + 3 * (j : Int) = _; omega
      have e2 : (mkE j).down = ((1 + 3 * (j : Int) + 1 + 1) % 3 == 0) := by show true = _; symm; simp; omega
      rw [e1] at a1
      rw [e2] at a2
      replace a0 : w.cell? (ad.add (j * 3)) = some (.int .i64 (1 + 3 * (j : Int))) := a0
      have hlt2 : (j : Int) < (n : Int) := by omega
      clear e1 e2
      go_wp2
      go_round
      case rel => exact ⟨j + 1, by omega, by go_num, by go_num⟩
      case measure => simp [intOf]; omega
    · obtain rfl : j = n := by omega
      go_wp2
      go_ret
      exact ⟨rfl, rfl⟩
end Go.Proofs.YtpfocjdhjkifmaaDoor
