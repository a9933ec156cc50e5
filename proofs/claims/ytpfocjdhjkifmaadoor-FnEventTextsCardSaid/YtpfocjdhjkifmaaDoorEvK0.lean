/- All keys let go: by contract in both programs. Conditions: at most 2^20 events. -/
import Derived.Test.YtpfocjdhjkifmaaDoorEvP0
namespace Go.Proofs.YtpfocjdhjkifmaaDoor
open Go.RowKit
set_option linter.unusedVariables false

def lastT (l : List EV.Ev) : Int := (l.getD (l.length - 1) evD).time
/-- The events with those that let all keys go. -/
def raO (l : List EV.Ev) (t : Int) : List EV.Ev := l ++ EV.evB (EV.heldAfter l) 0 t 32
def raB (l : List EV.Ev) (t : Int) : Bool := EV.isEvs l && (decide (0 ≤ t) && decide (t ≤ 1000000)) && (decide (l.length = 0) || decide (lastT l ≤ t)) && EV.isEvs (raO l t)
def raL (l : List EV.Ev) (t : Int) : List EV.Ev := if raB l t then raO l t else []
theorem ra_no {l : List EV.Ev} {t : Int} (h : raB l t = false) : raL l t = [] := by unfold raL; rw [h]; rfl
theorem ra_yes {l : List EV.Ev} {t : Int} (h : raB l t = true) : raL l t = raO l t := by unfold raL; rw [h]; rfl
theorem held_lt (l : List EV.Ev) : EV.heldAfter l < 2 ^ 32 := by
  unfold EV.heldAfter
  cases h : EV.isEvs l with
  | false => exact Nat.two_pow_pos _
  | true => exact EV.fw_lt l _ _ (EV.isEvs_fw h).2
theorem raO_len (l : List EV.Ev) (t : Int) : (raO l t).length ≤ l.length + 32 := by
  unfold raO; have := EV.evB_length_le (EV.heldAfter l) 0 t 32; rw [List.length_append]; omega

set_option maxRecDepth 100000 in
set_option maxHeartbeats 1000000 in
theorem iReleaseAll_any {w : World} {A : Option Addr} {n cap : Nat} {l : List EV.Ev} (h : RdE w A n l) (hn : n ≤ 1048576) (t : Int) :
    Calls Tryd.prog 32 #[.slice A n cap, .int .i64 t] w (MadeE2 w (raL l t) (raB l t)) := by
  have hl := h.1
  have hmx : n ≤ maxLen := by unfold maxLen; omega
  have HE := hid (fun (W : World) (h : RdE W A n l) => iIsEvents_any (cap := cap) h hmx)
  have HH := hid (fun (W : World) (h : RdE W A n l) => iHeldAfter_any (cap := cap) h hmx)
  have HEB : Hid (∀ w, Calls Tryd.prog 63 #[.int .i64 (EV.heldAfter l : Nat), .int .i64 0, .int .i64 t] w (MadeE w (EV.evB (EV.heldAfter l) 0 t 32))) := hid (eventsBetween_any (EV.heldAfter l) 0 t (held_lt l) (by omega))
  have HR := hid h; clear h
  have HL := hid hl; clear hl hmx
  cases hev : EV.isEvs l
  · have hno : raB l t = false := by unfold raB; rw [hev]; rfl
    rw [ra_no hno, hno]
    rw [hev] at HE
    clear hev hno
    go_enter Tryd.func32, Tryd.ntmps32
    go_wp2_with (first | (go_at_call 49; (with_reducible refine (HE.out _ HR.out).mono ?_); rintro e w1 ⟨rfl, hb1⟩))
    go_ret2
    exact ⟨_, _, rfl, OwnE.nil_ _ _, hb1⟩
  · rw [hev] at HE
    by_cases ht : 0 ≤ t ∧ t ≤ 1000000
    · by_cases hlast : 0 < n ∧ t < lastT l
      · have hno : raB l t = false := by
          unfold raB
          rw [HL.out, decide_eq_false (show ¬ n = 0 by omega), decide_eq_false (show ¬ lastT l ≤ t by omega)]; simp
        rw [ra_no hno, hno]
        obtain ⟨p, hp⟩ : ∃ p, n = p + 1 := ⟨n - 1, by omega⟩
        have HPP : Hid (∀ W, Below w.heap.size w W → ∃ ad, A = some ad ∧ W.cell? (ad.add (p * 3)) = some (.int .i64 (lastT l))) := hid (fun W hb => by
          obtain ⟨ad, e, p0, _⟩ := (HR.out.below hb).at3 (show p < n by omega)
          refine ⟨ad, e, ?_⟩
          unfold lastT
          rw [HL.out, show n - 1 = p by omega]; exact p0)
        obtain ⟨hn0, hlt⟩ := hlast
        have hn1 : (0 : Int) < (n : Int) := by omega
        have hnp : (n : Int) - 1 = (p : Int) := by omega
        have hpn : (p : Int) < (n : Int) := by omega
        have ht0 : ¬ t < 0 := by omega
        have ht1 : ¬ 1000000 < t := by omega
        generalize lastT l = lt at *
        clear hev hno
        have HP := hid hp; clear hp
        go_enter Tryd.func32, Tryd.ntmps32
        go_wp2_with (first | (go_at_call 49; (with_reducible refine (HE.out _ HR.out).mono ?_); rintro e w1 ⟨rfl, hb1⟩; obtain ⟨ad, hA, p0⟩ := HPP.out _ hb1; subst hA))
        go_ret2
        exact ⟨_, _, rfl, OwnE.nil_ _ _, hb1⟩
      · have hgood : raB l t = EV.isEvs (raO l t) := by
          unfold raB
          rw [hev, decide_eq_true ht.1, decide_eq_true ht.2, HL.out]
          by_cases h0 : n = 0
          · rw [decide_eq_true h0]; simp
          · rw [decide_eq_true (show lastT l ≤ t by omega)]; simp
        have ht0 : ¬ t < 0 := by omega
        have ht1 : ¬ 1000000 < t := by omega
        have hro : raO l t = l ++ EV.evB (EV.heldAfter l) 0 t 32 := rfl
        rw [hro] at hgood
        have hbl := EV.evB_length_le (EV.heldAfter l) 0 t 32
        have hraL : raL l t = if raB l t then l ++ EV.evB (EV.heldAfter l) 0 t 32 else [] := rfl
        generalize EV.evB (EV.heldAfter l) 0 t 32 = M at *
        have HEO := hid (fun (W : World) (A : Option Addr) (c : Nat) (h : RdE W A (n + M.length) (l ++ M)) => iIsEvents_any (cap := c) h (by unfold maxLen; omega))
        generalize EV.heldAfter l = hd at *
        obtain ⟨i0, hi, hz0, hz1, hz2⟩ := info_parts ev_info
        have HI0 := hid (And.intro hi (And.intro hz0 (And.intro hz1 hz2))); clear hi hz0 hz1 hz2
        have h1 := evCs_oneC l
        have h2 := evCs_oneC M
        clear hev ht hro
        by_cases h0 : n = 0
        · have hn2 : decide (0 < n) = false := by simp; omega
          clear hlast
          have H0 := hid h0; clear h0
          cases hio : EV.isEvs (l ++ M)
          · rw [hio] at HEO hgood
            rw [hgood] at hraL
            first | simp only [if_true] at hraL | simp only [Bool.false_eq_true, if_false] at hraL
            have HRL := hid hraL
            have HG := hid hgood
            clear hio hgood hraL
            go_enter Tryd.func32, Tryd.ntmps32
            go_wp2_with (first | (go_at_call 49; (with_reducible refine (HE.out _ HR.out).mono ?_); rintro e w1 ⟨rfl, hb1⟩; have HR1 := hid (HR.out.below hb1)) | (at_builtin; (refine wpList_append_any _ rfl _ _ 29 rfl w.heap.size 47 i0 (.agg #[.int .i64 0, .int .i64 0, .bool false]) 3 24 Tryd.underlying29 HI0.out.1 HI0.out.2.1 HI0.out.2.2.1 HI0.out.2.2.2 rfl (by decide) _ 0 [] rfl (World.ownsRow_nil _ _ _ _) w1.heap.size _ n cap (evCs l) rfl HR1.out.2 h1 (by unfold maxLen; omega) (by omega) hb1.size ?_; intro v' w2 hown1 hg1 hat1; obtain ⟨A2, c2, rfl⟩ := ownsRow_form3 hown1; have hb2 : Below w.heap.size w w2 := hb1.grown hg1 hb1.size (fun k hk => by cases hk); have HOw2 := hid (show w2.ownsRow w.heap.size 47 3 (.slice A2 n c2) n (evCs l) by simpa using hown1); rw [Nat.zero_add]; clear hown1 hg1 hat1)) | (go_at_call 34; (with_reducible refine (HH.out _ (HR.out.below hb2)).mono ?_); rintro e w3 ⟨rfl, hb3⟩; have HOw3 := hid (ownsRow_below HOw2.out hb3); have hbw3 := Below.step hb2 hb3) | (go_at_call 63; (with_reducible refine (HEB.out _).mono ?_); rintro e w4 ⟨A4, c4, rfl, ho4, hbx4⟩; have HO4 := hid ho4; have HOw4 := hid (ownsRow_below HOw3.out hbx4); have hb4 := Below.step hbw3 hbx4; clear ho4 hbx4) | (at_builtin; refine wpList_append_any _ rfl _ _ 29 rfl w.heap.size 47 i0 (.agg #[.int .i64 0, .int .i64 0, .bool false]) 3 24 Tryd.underlying29 HI0.out.1 HI0.out.2.1 HI0.out.2.2.1 HI0.out.2.2.2 rfl (by decide) _ _ _ rfl HOw4.out w4.heap.size _ M.length c4 (evCs M) rfl HO4.out.rd.2 h2 (by unfold maxLen; omega) (by omega) hb4.size ?_; intro v' w5 hown1 hg1 hat1; obtain ⟨A5, c5, rfl⟩ := ownsRow_form3 hown1; have hb5 := below_of_grown hb4 HOw4.out (Nat.le_refl _) hg1; have HOw5 := hid hown1; have HE5 := hid (show RdE w5 A5 (n + M.length) (l ++ M) from ⟨by rw [List.length_append, HL.out], by rw [evCs_append]; exact Reads.of_own hown1⟩); clear hown1 hg1 hat1) | (go_at_call 49; (with_reducible refine (HEO.out _ _ _ HE5.out).mono ?_); rintro e w6 ⟨rfl, hb6⟩; have HOw6 := hid (ownsRow_below HOw5.out hb6); have hbw6 := Below.step hb5 hb6))
            go_ret2
            rw [HRL.out, HG.out]
            exact ⟨_, _, rfl, OwnE.nil_ _ _, hbw6⟩
          · rw [hio] at HEO hgood
            rw [hgood] at hraL
            first | simp only [if_true] at hraL | simp only [Bool.false_eq_true, if_false] at hraL
            have HRL := hid hraL
            have HG := hid hgood
            clear hio hgood hraL
            go_enter Tryd.func32, Tryd.ntmps32
            go_wp2_with (first | (go_at_call 49; (with_reducible refine (HE.out _ HR.out).mono ?_); rintro e w1 ⟨rfl, hb1⟩; have HR1 := hid (HR.out.below hb1)) | (at_builtin; (refine wpList_append_any _ rfl _ _ 29 rfl w.heap.size 47 i0 (.agg #[.int .i64 0, .int .i64 0, .bool false]) 3 24 Tryd.underlying29 HI0.out.1 HI0.out.2.1 HI0.out.2.2.1 HI0.out.2.2.2 rfl (by decide) _ 0 [] rfl (World.ownsRow_nil _ _ _ _) w1.heap.size _ n cap (evCs l) rfl HR1.out.2 h1 (by unfold maxLen; omega) (by omega) hb1.size ?_; intro v' w2 hown1 hg1 hat1; obtain ⟨A2, c2, rfl⟩ := ownsRow_form3 hown1; have hb2 : Below w.heap.size w w2 := hb1.grown hg1 hb1.size (fun k hk => by cases hk); have HOw2 := hid (show w2.ownsRow w.heap.size 47 3 (.slice A2 n c2) n (evCs l) by simpa using hown1); rw [Nat.zero_add]; clear hown1 hg1 hat1)) | (go_at_call 34; (with_reducible refine (HH.out _ (HR.out.below hb2)).mono ?_); rintro e w3 ⟨rfl, hb3⟩; have HOw3 := hid (ownsRow_below HOw2.out hb3); have hbw3 := Below.step hb2 hb3) | (go_at_call 63; (with_reducible refine (HEB.out _).mono ?_); rintro e w4 ⟨A4, c4, rfl, ho4, hbx4⟩; have HO4 := hid ho4; have HOw4 := hid (ownsRow_below HOw3.out hbx4); have hb4 := Below.step hbw3 hbx4; clear ho4 hbx4) | (at_builtin; refine wpList_append_any _ rfl _ _ 29 rfl w.heap.size 47 i0 (.agg #[.int .i64 0, .int .i64 0, .bool false]) 3 24 Tryd.underlying29 HI0.out.1 HI0.out.2.1 HI0.out.2.2.1 HI0.out.2.2.2 rfl (by decide) _ _ _ rfl HOw4.out w4.heap.size _ M.length c4 (evCs M) rfl HO4.out.rd.2 h2 (by unfold maxLen; omega) (by omega) hb4.size ?_; intro v' w5 hown1 hg1 hat1; obtain ⟨A5, c5, rfl⟩ := ownsRow_form3 hown1; have hb5 := below_of_grown hb4 HOw4.out (Nat.le_refl _) hg1; have HOw5 := hid hown1; have HE5 := hid (show RdE w5 A5 (n + M.length) (l ++ M) from ⟨by rw [List.length_append, HL.out], by rw [evCs_append]; exact Reads.of_own hown1⟩); clear hown1 hg1 hat1) | (go_at_call 49; (with_reducible refine (HEO.out _ _ _ HE5.out).mono ?_); rintro e w6 ⟨rfl, hb6⟩; have HOw6 := hid (ownsRow_below HOw5.out hb6); have hbw6 := Below.step hb5 hb6))
            go_ret2
            rw [HRL.out, HG.out]
            exact ⟨A5, c5, by rw [List.length_append, HL.out]; rfl, ⟨rfl, by rw [List.length_append, HL.out, evCs_append]; exact HOw6.out⟩, hbw6⟩
        · have hlt : ¬ t < lastT l := fun h1 => hlast ⟨by omega, h1⟩
          have hn1 : (0 : Int) < (n : Int) := by omega
          obtain ⟨p, hp⟩ : ∃ p, n = p + 1 := ⟨n - 1, by omega⟩
          have HPC : Hid (∀ W, Below w.heap.size w W → ∃ ad, A = some ad ∧ W.cell? (ad.add (p * 3)) = some (.int .i64 (lastT l))) := hid (fun W hb => by
            obtain ⟨ad, e, p0, _⟩ := (HR.out.below hb).at3 (show p < n by omega)
            refine ⟨ad, e, ?_⟩
            unfold lastT
            rw [HL.out, show n - 1 = p by omega]; exact p0)
          have hnp : (n : Int) - 1 = (p : Int) := by omega
          have hpn : (p : Int) < (n : Int) := by omega
          generalize lastT l = lt at *
          clear hlast h0
          have HP := hid hp; clear hp
          cases hio : EV.isEvs (l ++ M)
          · rw [hio] at HEO hgood
            rw [hgood] at hraL
            first | simp only [if_true] at hraL | simp only [Bool.false_eq_true, if_false] at hraL
            have HRL := hid hraL
            have HG := hid hgood
            clear hio hgood hraL
            go_enter Tryd.func32, Tryd.ntmps32
            go_wp2_with (first | (go_at_call 49; (with_reducible refine (HE.out _ HR.out).mono ?_); rintro e w1 ⟨rfl, hb1⟩; have HR1 := hid (HR.out.below hb1); obtain ⟨ad, hA, p0⟩ := HPC.out _ hb1; subst hA) | (at_builtin; (refine wpList_append_any _ rfl _ _ 29 rfl w.heap.size 47 i0 (.agg #[.int .i64 0, .int .i64 0, .bool false]) 3 24 Tryd.underlying29 HI0.out.1 HI0.out.2.1 HI0.out.2.2.1 HI0.out.2.2.2 rfl (by decide) _ 0 [] rfl (World.ownsRow_nil _ _ _ _) w1.heap.size _ n cap (evCs l) rfl HR1.out.2 h1 (by unfold maxLen; omega) (by omega) hb1.size ?_; intro v' w2 hown1 hg1 hat1; obtain ⟨A2, c2, rfl⟩ := ownsRow_form3 hown1; have hb2 : Below w.heap.size w w2 := hb1.grown hg1 hb1.size (fun k hk => by cases hk); have HOw2 := hid (show w2.ownsRow w.heap.size 47 3 (.slice A2 n c2) n (evCs l) by simpa using hown1); rw [Nat.zero_add]; clear hown1 hg1 hat1)) | (go_at_call 34; (with_reducible refine (HH.out _ (HR.out.below hb2)).mono ?_); rintro e w3 ⟨rfl, hb3⟩; have HOw3 := hid (ownsRow_below HOw2.out hb3); have hbw3 := Below.step hb2 hb3) | (go_at_call 63; (with_reducible refine (HEB.out _).mono ?_); rintro e w4 ⟨A4, c4, rfl, ho4, hbx4⟩; have HO4 := hid ho4; have HOw4 := hid (ownsRow_below HOw3.out hbx4); have hb4 := Below.step hbw3 hbx4; clear ho4 hbx4) | (at_builtin; refine wpList_append_any _ rfl _ _ 29 rfl w.heap.size 47 i0 (.agg #[.int .i64 0, .int .i64 0, .bool false]) 3 24 Tryd.underlying29 HI0.out.1 HI0.out.2.1 HI0.out.2.2.1 HI0.out.2.2.2 rfl (by decide) _ _ _ rfl HOw4.out w4.heap.size _ M.length c4 (evCs M) rfl HO4.out.rd.2 h2 (by unfold maxLen; omega) (by omega) hb4.size ?_; intro v' w5 hown1 hg1 hat1; obtain ⟨A5, c5, rfl⟩ := ownsRow_form3 hown1; have hb5 := below_of_grown hb4 HOw4.out (Nat.le_refl _) hg1; have HOw5 := hid hown1; have HE5 := hid (show RdE w5 A5 (n + M.length) (l ++ M) from ⟨by rw [List.length_append, HL.out], by rw [evCs_append]; exact Reads.of_own hown1⟩); clear hown1 hg1 hat1) | (go_at_call 49; (with_reducible refine (HEO.out _ _ _ HE5.out).mono ?_); rintro e w6 ⟨rfl, hb6⟩; have HOw6 := hid (ownsRow_below HOw5.out hb6); have hbw6 := Below.step hb5 hb6))
            go_ret2
            rw [HRL.out, HG.out]
            exact ⟨_, _, rfl, OwnE.nil_ _ _, hbw6⟩
          · rw [hio] at HEO hgood
            rw [hgood] at hraL
            first | simp only [if_true] at hraL | simp only [Bool.false_eq_true, if_false] at hraL
            have HRL := hid hraL
            have HG := hid hgood
            clear hio hgood hraL
            go_enter Tryd.func32, Tryd.ntmps32
            go_wp2_with (first | (go_at_call 49; (with_reducible refine (HE.out _ HR.out).mono ?_); rintro e w1 ⟨rfl, hb1⟩; have HR1 := hid (HR.out.below hb1); obtain ⟨ad, hA, p0⟩ := HPC.out _ hb1; subst hA) | (at_builtin; (refine wpList_append_any _ rfl _ _ 29 rfl w.heap.size 47 i0 (.agg #[.int .i64 0, .int .i64 0, .bool false]) 3 24 Tryd.underlying29 HI0.out.1 HI0.out.2.1 HI0.out.2.2.1 HI0.out.2.2.2 rfl (by decide) _ 0 [] rfl (World.ownsRow_nil _ _ _ _) w1.heap.size _ n cap (evCs l) rfl HR1.out.2 h1 (by unfold maxLen; omega) (by omega) hb1.size ?_; intro v' w2 hown1 hg1 hat1; obtain ⟨A2, c2, rfl⟩ := ownsRow_form3 hown1; have hb2 : Below w.heap.size w w2 := hb1.grown hg1 hb1.size (fun k hk => by cases hk); have HOw2 := hid (show w2.ownsRow w.heap.size 47 3 (.slice A2 n c2) n (evCs l) by simpa using hown1); rw [Nat.zero_add]; clear hown1 hg1 hat1)) | (go_at_call 34; (with_reducible refine (HH.out _ (HR.out.below hb2)).mono ?_); rintro e w3 ⟨rfl, hb3⟩; have HOw3 := hid (ownsRow_below HOw2.out hb3); have hbw3 := Below.step hb2 hb3) | (go_at_call 63; (with_reducible refine (HEB.out _).mono ?_); rintro e w4 ⟨A4, c4, rfl, ho4, hbx4⟩; have HO4 := hid ho4; have HOw4 := hid (ownsRow_below HOw3.out hbx4); have hb4 := Below.step hbw3 hbx4; clear ho4 hbx4) | (at_builtin; refine wpList_append_any _ rfl _ _ 29 rfl w.heap.size 47 i0 (.agg #[.int .i64 0, .int .i64 0, .bool false]) 3 24 Tryd.underlying29 HI0.out.1 HI0.out.2.1 HI0.out.2.2.1 HI0.out.2.2.2 rfl (by decide) _ _ _ rfl HOw4.out w4.heap.size _ M.length c4 (evCs M) rfl HO4.out.rd.2 h2 (by unfold maxLen; omega) (by omega) hb4.size ?_; intro v' w5 hown1 hg1 hat1; obtain ⟨A5, c5, rfl⟩ := ownsRow_form3 hown1; have hb5 := below_of_grown hb4 HOw4.out (Nat.le_refl _) hg1; have HOw5 := hid hown1; have HE5 := hid (show RdE w5 A5 (n + M.length) (l ++ M) from ⟨by rw [List.length_append, HL.out], by rw [evCs_append]; exact Reads.of_own hown1⟩); clear hown1 hg1 hat1) | (go_at_call 49; (with_reducible refine (HEO.out _ _ _ HE5.out).mono ?_); rintro e w6 ⟨rfl, hb6⟩; have HOw6 := hid (ownsRow_below HOw5.out hb6); have hbw6 := Below.step hb5 hb6))
            go_ret2
            rw [HRL.out, HG.out]
            exact ⟨A5, c5, by rw [List.length_append, HL.out]; rfl, ⟨rfl, by rw [List.length_append, HL.out, evCs_append]; exact HOw6.out⟩, hbw6⟩
    · have hno : raB l t = false := by
        unfold raB
        by_cases h0 : 0 ≤ t
        · rw [decide_eq_false (show ¬ t ≤ 1000000 from fun h => ht ⟨h0, h⟩)]; simp
        · rw [decide_eq_false h0]; simp
      rw [ra_no hno, hno]
      clear hev hno
      by_cases h0 : t < 0
      all_goals
        try have h1 : (1000000 : Int) < t := by omega
        clear ht
        go_enter Tryd.func32, Tryd.ntmps32
        go_wp2_with (first | (go_at_call 49; (with_reducible refine (HE.out _ HR.out).mono ?_); rintro e w1 ⟨rfl, hb1⟩))
        go_ret2
        exact ⟨_, _, rfl, OwnE.nil_ _ _, hb1⟩
end Go.Proofs.YtpfocjdhjkifmaaDoor
