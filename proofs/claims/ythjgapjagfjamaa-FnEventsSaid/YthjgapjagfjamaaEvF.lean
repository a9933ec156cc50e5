/- The events of masks: by contract in both programs. Conditions: none. -/
import Derived.Test.YthjgapjagfjamaaEvE
import Derived.Test.YthjgapjagfjamaaSlInts
namespace Go.Proofs.Ythjgapjagfjamaa
open Go.RowKit
set_option linter.unusedVariables false

/-- Mask i of a list, as a number that is not negative. -/
def mN (xs : List Int) (i : Nat) : Nat := (xs.getD i 0).toNat
/-- The masks are of 32 keys. -/
def okM (xs : List Int) : Bool := xs.all fun m => decide (0 ≤ m) && decide (m ≤ 4294967295)
def eoB (xs : List Int) : Bool := decide (xs.length ≤ 200) && okM xs && decide ((EV.evs (mN xs) xs.length).length ≤ 64)
def eoL (xs : List Int) : List EV.Ev := if eoB xs then EV.evs (mN xs) xs.length else []
theorem okM_at {xs : List Int} (h : okM xs = true) {j : Nat} (hj : j < xs.length) : 0 ≤ xs.getD j 0 ∧ xs.getD j 0 ≤ 4294967295 := by
  unfold okM at h
  rw [List.all_eq_true] at h
  have := h (xs.getD j 0) (by rw [List.getD_eq_getElem?_getD, List.getElem?_eq_getElem hj]; exact List.getElem_mem _)
  simpa using this
theorem okM_no {xs : List Int} {j : Nat} (hj : j < xs.length) (h : ¬ (0 ≤ xs.getD j 0 ∧ xs.getD j 0 ≤ 4294967295)) : okM xs = false := by
  cases e : okM xs with
  | false => rfl
  | true => exact absurd (okM_at e hj) h
theorem okM_all {xs : List Int} (h : ∀ j, j < xs.length → 0 ≤ xs.getD j 0 ∧ xs.getD j 0 ≤ 4294967295) : okM xs = true := by
  unfold okM
  rw [List.all_eq_true]
  intro m hm
  obtain ⟨j, hj, rfl⟩ := List.mem_iff_getElem.1 hm
  have := h j hj
  rw [List.getD_eq_getElem?_getD, List.getElem?_eq_getElem hj] at this
  simpa using this
theorem eo_no {xs : List Int} (h : eoB xs = false) : eoL xs = [] := by unfold eoL; rw [h]; rfl
theorem eo_yes {xs : List Int} (h : eoB xs = true) : eoL xs = EV.evs (mN xs) xs.length := by unfold eoL; rw [h]; rfl
theorem evs_len (m : Nat → Nat) : ∀ n, (EV.evs m n).length ≤ 32 * n
  | 0 => Nat.le_refl _
  | n + 1 => by have h1 := evs_len m n; have h2 := EV.evB_length_le (EV.prevM m n) (m n) (n : Nat) 32; rw [EV.evs, List.length_append]; omega
theorem prevM_lt {m : Nat → Nat} {j : Nat} (h : ∀ i, i < j → m i < 2 ^ 32) : EV.prevM m j < 2 ^ 32 := by
  cases j with
  | zero => exact Nat.two_pow_pos _
  | succ j => exact h j (by omega)
def MadeE2 (w : World) (xs : List EV.Ev) (b : Bool) (e : Ending) (w' : World) : Prop :=
  ∃ (A : Option Addr) (cap : Nat), e = .returned (.tuple #[.slice A xs.length cap, .bool b]) ∧ OwnE w' w.heap.size A xs.length cap xs ∧ Below w.heap.size w w'
theorem OwnE.nil_ (w : World) (base : Nat) : OwnE w base none 0 0 [] := ⟨rfl, World.ownsRow_nil _ _ _ _⟩
theorem evCs_oneC (l : List EV.Ev) : ∀ u ∈ evCs l, u.oneCell' = true := by
  intro u hu
  unfold evCs at hu
  obtain ⟨e, _, he⟩ := List.mem_flatMap.1 hu
  simp [evC] at he
  rcases he with rfl | rfl | rfl <;> rfl

set_option maxRecDepth 100000 in
set_option maxHeartbeats 1000000 in
theorem iEventsOf_any {w : World} {A : Option Addr} {n cap : Nat} {xs : List Int} (h : RdI w A n xs) (hmx : n ≤ maxLen) (hwf : ∀ z ∈ xs, (Lit.int .i64 z).wf = true) :
    Calls Try.prog 23 #[.slice A n cap] w (MadeE2 w (eoL xs) (eoB xs)) := by
  have hl := h.1
  unfold maxLen at hmx
  by_cases hbig : 200 < n
  · have hno : eoB xs = false := by unfold eoB; rw [decide_eq_false (by omega)]; rfl
    rw [eo_no hno, hno]
    clear hno h hl
    go_enter Try.func23, Try.ntmps23
    go_wp2
    go_ret2
    exact ⟨_, _, rfl, OwnE.nil_ _ _, Below.refl _ _⟩
  · obtain ⟨i0, hi, hz0, hz1, hz2⟩ := info_parts ev_info
    have HI0 := hid (And.intro hi (And.intro hz0 (And.intro hz1 hz2))); clear hi hz0 hz1 hz2
    have HR := hid h; clear h
    have HL := hid hl; clear hl
    have HEB := hid (fun (last mask : Nat) (t : Int) (h1 : last < 2 ^ 32) (h2 : mask < 2 ^ 32) => eventsBetween_any last mask t h1 h2)
    have hb2 : ¬ (200 : Int) < (n : Int) := by omega
    go_enter Try.func23, Try.ntmps23
    go_wp2_with fail
    go_loopw [4, 5, 6, 7, 13] (fun o q _ _ i wr => ∃ (j : Nat) (A : Option Addr) (c : Nat), j ≤ n ∧ i = .int .i64 j ∧ q = .int .i64 (EV.prevM (mN xs) j : Nat) ∧ o = .slice A (EV.evs (mN xs) j).length c ∧ (∀ i, i < j → 0 ≤ xs.getD i 0 ∧ xs.getD i 0 ≤ 4294967295) ∧
      wr.ownsRow w.heap.size 26 3 (.slice A (EV.evs (mN xs) j).length c) (EV.evs (mN xs) j).length (evCs (EV.evs (mN xs) j)) ∧ Below w.heap.size w wr) (fun _ _ _ _ i _ => n - (intOf i).toNat)
    case atStart => exact ⟨0, none, 0, Nat.zero_le _, rfl, rfl, rfl, fun i hi => absurd hi (by omega), World.ownsRow_nil _ _ _ _, Below.refl _ _⟩
    case round =>
      obtain ⟨j, A0, c, hj, rfl, rfl, rfl, hall, hown, hbel⟩ := hrel
      have HA := hid hall; clear hall
      have HOwn := hid hown; clear hown
      have hlen := evs_len (mN xs) j
      by_cases hlt : j < n
      · obtain ⟨ad, rfl, hc⟩ := (HR.out.below hbel).at_ hlt
        have hlt2 : (j : Int) < (n : Int) := by omega
        by_cases hneg : 0 ≤ xs.getD j 0 ∧ xs.getD j 0 ≤ 4294967295
        · have hev : EV.evs (mN xs) (j + 1) = EV.evs (mN xs) j ++ EV.evB (EV.prevM (mN xs) j) (mN xs j) (j : Nat) 32 := rfl
          have hpv : EV.prevM (mN xs) (j + 1) = mN xs j := rfl
          have hpl : EV.prevM (mN xs) j < 2 ^ 32 := prevM_lt (fun i hi => by have := HA.out i hi; unfold mN; omega)
          have hml : mN xs j < 2 ^ 32 := by unfold mN; omega
          have hxm : xs.getD j 0 = (mN xs j : Nat) := by unfold mN; omega
          have H1 := hid (HEB.out _ _ (j : Int) hpl hml)
          have hbl := EV.evB_length_le (EV.prevM (mN xs) j) (mN xs j) (j : Nat) 32
          have HNG := hid hneg
          rw [hxm] at hc hneg
          obtain ⟨L, hL⟩ : ∃ L, EV.evs (mN xs) j = L := ⟨_, rfl⟩
          obtain ⟨M, hM⟩ : ∃ M, EV.evB (EV.prevM (mN xs) j) (mN xs j) (j : Nat) 32 = M := ⟨_, rfl⟩
          rw [hL] at hlen HOwn hev ⊢
          rw [hM] at hev H1 hbl
          have HEVS := hid hev
          have HPV := hid hpv
          have hm0 : ¬ ((mN xs j : Nat) : Int) < 0 := by omega
          have hm1 : ¬ (4294967296 : Int) ≤ ((mN xs j : Nat) : Int) := by omega
          generalize hmj : mN xs j = mj at *
          clear hev hpv hL hM hpl hxm hneg
          have h1 := evCs_oneC M
          go_wp2_with (first | (go_at_call 40; (with_reducible refine (H1.out _).mono ?_); rintro e w1 ⟨A1, c1, rfl, ho1, hb1⟩; have HO1 := hid ho1; have HOw1 := hid (ownsRow_below HOwn.out hb1); have hbel1 := Below.step hbel hb1; clear ho1) | (at_builtin; refine wpList_append_any _ rfl _ _ 32 rfl w.heap.size 26 i0 (.agg #[.int .i64 0, .int .i64 0, .bool false]) 3 24 Try.underlying32 HI0.out.1 HI0.out.2.1 HI0.out.2.2.1 HI0.out.2.2.2 rfl (by decide) _ _ _ rfl HOw1.out w1.heap.size _ M.length c1 (evCs M) rfl HO1.out.rd.2 h1 (by unfold maxLen; omega) (by omega) hbel1.size ?_; intro v' w2 hown1 hg1 hat1; obtain ⟨A', c', rfl⟩ := ownsRow_form3 hown1; have hb2 := below_of_grown hbel1 HOw1.out (Nat.le_refl _) hg1; have HOw2 := hid hown1; clear hown1 hg1 hat1))
          go_roundw
          case rel =>
            refine ⟨j + 1, A', c', by omega, by go_num, by rw [HPV.out], by rw [HEVS.out, List.length_append], fun i hi => ?_, by rw [HEVS.out, List.length_append, evCs_append]; exact HOw2.out, hb2⟩
            by_cases e : i = j
            · subst e; exact HNG.out
            · exact HA.out i (by omega)
          case measure => simp [intOf]; omega
        · have hno : eoB xs = false := by unfold eoB; rw [okM_no (by rw [HL.out]; exact hlt) hneg]; simp
          have HNO := hid hno
          clear hno
          have hxr := i64_wf (hwf (xs.getD j 0) (by rw [List.getD_eq_getElem?_getD, List.getElem?_eq_getElem (by rw [HL.out]; exact hlt)]; exact List.getElem_mem _))
          generalize xs.getD j 0 = x at *
          rw [eo_no HNO.out, HNO.out]
          by_cases hx0 : x < 0
          all_goals
            try have hx1 : (4294967296 : Int) ≤ x := by omega
            clear hneg
            go_wp2
            go_ret2
            exact ⟨_, _, rfl, OwnE.nil_ _ _, hbel⟩
      · obtain rfl : j = n := by omega
        have hok : okM xs = true := okM_all (fun i hi => HA.out i (by rw [HL.out] at hi; exact hi))
        by_cases hlg : (EV.evs (mN xs) j).length ≤ 64
        · have hyes : eoB xs = true := by unfold eoB; rw [hok, HL.out, decide_eq_true (by omega), decide_eq_true hlg]; rfl
          have h64 : ¬ (64 : Int) < ((EV.evs (mN xs) j).length : Int) := by omega
          have HY := hid (And.intro (eo_yes hyes) hyes)
          clear hyes hok
          go_wp2
          go_ret2
          rw [HY.out.1, HY.out.2, HL.out]
          exact ⟨A0, c, rfl, ⟨rfl, HOwn.out⟩, hbel⟩
        · have hno : eoB xs = false := by unfold eoB; rw [HL.out, decide_eq_false hlg]; simp
          have h64 : (64 : Int) < ((EV.evs (mN xs) j).length : Int) := by omega
          have HY := hid (And.intro (eo_no hno) hno)
          clear hno hok
          go_wp2
          go_ret2
          rw [HY.out.1, HY.out.2]
          exact ⟨_, _, rfl, OwnE.nil_ _ _, hbel⟩
end Go.Proofs.Ythjgapjagfjamaa
