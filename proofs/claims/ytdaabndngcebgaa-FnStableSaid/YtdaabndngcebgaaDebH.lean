/- The law that the key-wise debouncer shows each key's last stable value. Conditions: none. -/
import Derived.Test.YtdaabndngcebgaaDebG
import Derived.Test.YtdaabndngcebgaaStaB
import Derived.Deep.DeepCutAuto
namespace Go.Proofs.Ytdaabndngcebgaa
open Go.RowKit
set_option linter.unusedVariables false

theorem ls_stable {t m : Nat} {ms : List Nat} (h1 : 1 ≤ t) (h2 : t ≤ 5) (h3 : 1 ≤ m) (h4 : m ≤ 4) (hall : ∀ x ∈ ms, x < 2 ^ m) {k : Nat} (hk : k < m) :
    tbI ((DB.run (DB.new 0 t m) ms).shown : Int) k = ((lsV (nats ms) t k).value && (lsV (nats ms) t k).found) := by
  have q := DB.stable (kind := 0) (time := t) (keys := m) rfl h1 (by omega) h3 (by omega) ms hall k hk
  have e : lsV (nats ms) t k = DB.lsRun t (ms.map (·.testBit k)) := by
    unfold lsV
    rw [in23 hk h4, inB_true ⟨by omega, by omega⟩]
    simp only [Bool.and_self, if_true, Int.toNat_natCast, nats_length, kb_nats]
    have e1 := DB.lsTo_lsRun t (ms.map (·.testBit k)) ms.length (by simp)
    rw [List.take_of_length_le (by simp)] at e1
    rw [← e1]
    congr 1
    funext i
    rw [List.getD_eq_getElem?_getD, List.getD_eq_getElem?_getD, List.getElem?_map]
    cases ms[i]? <;> simp
  rw [e, tbI_nat]
  exact q
set_option maxRecDepth 100000 in
set_option maxHeartbeats 2000000 in
theorem walk_FnStable (A : Option Addr) (n cap : Nat) (bs : List Int) (w : World) (hin : InBytes w A n bs) :
    Calls Try.prog 5 #[.slice A n cap] w fun e w' => e = .returned (.bool true) ∧ Below w.heap.size w w' := by
  by_cases hbig : 1048576 < n
  · have H := hid (big_yes (A := A) (cap := cap) hbig)
    clear hin
    go_enter Try.func5, Try.ntmps5
    go_wp2_with (go_at_call 19; (with_reducible refine (H.out _).mono ?_); rintro e w' ⟨rfl, rfl⟩)
    go_ret
    exact ⟨rfl, Below.refl _ _⟩
  · have H := hid (big_no (A := A) (cap := cap) hbig)
    have HC := hid (hin.code (by omega))
    clear hin hbig
    go_enter Try.func5, Try.ntmps5
    go_wp2_with fail
    refine (H.out _).mono ?_
    rintro e w' ⟨rfl, rfl⟩
    go_wp2_with fail
    refine (MakeDebouncer_any HC.out).mono ?_
    rintro e w1 ⟨kd, t, m, ms, A1, c1, B1, d1, rfl, hr1⟩
    have HR1 := hid hr1
    have b0 := hr1.kd
    have b1 := hr1.t0
    have b2 := hr1.t1
    have b3 := hr1.m0
    have b4 := hr1.m1
    have hrun := new_run (show 0 ≤ 2 by omega) b1 b2 b3 b4 hr1.all hr1.len
    have hd0 := DB.new_ok (kind := 0) (time := t) (keys := m) (by omega) b1 (by omega) b3 (by omega)
    have HRUN := hid hrun
    have HD0 := hid hd0
    have hB1 := hr1.b
    have e1 := hr1.len
    have hst : ∀ k, k < m → tbI ((DB.run (DB.new 0 t m) ms).shown : Int) k = ((lsV (nats ms) t k).value && (lsV (nats ms) t k).found) := fun k hk => ls_stable b1 b2 b3 b4 hr1.all hk
    have hrg := rng_nats b4 hr1.all
    have hsr : rng ((DB.run (DB.new 0 t m) ms).shown : Int) := by
      obtain ⟨o, _, _, e3⟩ := DB.run_ok hd0 ms hr1.all
      have h := o.shown
      rw [e3] at h
      have h' : (DB.run (DB.new 0 t m) ms).shown < 2 ^ m := h
      have hp : 2 ^ m ≤ 2 ^ 4 := Nat.pow_le_pow_right (by omega) b4
      have h16 : (2 : Nat) ^ 4 = 16 := by decide
      unfold rng; omega
    have hsl : (nats (DB.shows (DB.new 0 t m) ms)).length = ms.length := by rw [nats_length, DB.shows_length]
    have HST := hid hst
    have HRG := hid hrg
    have HSR := hid hsr
    clear hst hrg hsr
    clear hr1 hrun hd0
    have HI := hid (fun (W : World) (A : Option Addr) (c : Nat) (B : Option Addr) (cb : Nat) (h : RdI W A m (n99 m)) (h2 : RdI W B ms.length (nats ms)) => iRun_ok (DB.new 0 t m) HD0.out (cap := c) (cb := cb) h h2 (by omega) HRUN.out)
    go_wp2_with fail
    refine (HI.out _ _ _ _ _ (HR1.out.o1.rd.alloc _) (HR1.out.o2.rd.alloc _)).mono ?_
    rintro e w2 ⟨A2, c2, B2, d2, rfl, hro, hb2⟩
    rw [hsl]
    have HM2 := hid ((HR1.out.o2.rd.alloc _).below hb2)
    have HD2 := hid ((Blk.new w1 33 #[.int .i64 0, .int .i64 t, .int .i64 m, .int .i64 0, .int .i64 0, .slice A1 m c1]).bel hb2)
    have hz1 := hB1.size
    have hB2 := Below.step (Below.alloc hB1 hz1 _) hb2
    have hz2 : w1.heap.size + 1 ≤ w2.heap.size := by have := hb2.size; simpa using this
    clear hro hb2 HR1 HI H
    generalize (DB.run (DB.new 0 t m) ms).ages = ags at *
    generalize (DB.run (DB.new 0 t m) ms).shown = sh at *
    generalize (DB.run (DB.new 0 t m) ms).last = la at *
    generalize DB.shows (DB.new 0 t m) ms = shs at *
    go_wp2_with fail
    go_loopw [8, 9, 10] (fun i _ _ wr => ∃ k : Nat, k ≤ m ∧ i = .int .i64 k ∧ Blk wr w1.heap.size 33 #[.int .i64 0, .int .i64 t, .int .i64 m, .int .i64 0, .int .i64 0, .slice A1 m c1] ∧
        Blk wr w2.heap.size 33 #[.int .i64 0, .int .i64 t, .int .i64 m, .int .i64 sh, .int .i64 la, .slice A2 ags.length c2] ∧ RdI wr B1 ms.length (nats ms) ∧ Below w.heap.size w wr) (fun i _ _ _ => m - (intOf i).toNat)
    case atStart => exact ⟨0, Nat.zero_le _, rfl, HD2.out.alloc _, Blk.new _ _ _, HM2.out.alloc _, hB2.alloc hB2.size _⟩
    case round =>
      obtain ⟨k, hk, rfl, hD, hX, hM, hB⟩ := hrel
      obtain ⟨q0, q1, q2, q3, q4, q5⟩ := hD.six
      have HD := hid hD
      have HX := hid hX
      have HM := hid hM
      clear hD hX hM
      by_cases hlt : k < m
      · have hs1 := HST.out k hlt
        have HL := hid (fun (W : World) (c : Nat) (h : RdI W B1 ms.length (nats ms)) => iLastStable_any (cap := c) h HRG.out (by omega) t k)
        generalize (lsV (nats ms) t k).value = v at *
        generalize (lsV (nats ms) t k).found = f at *
        have e1 := and_one_shr (sh : Int) k HSR.out
        have HE := hid (And.intro hs1 e1)
        clear hs1 e1
        go_wp2_with fail
        refine (HL.out _ _ HM.out).mono ?_
        rintro e w6 ⟨rfl, hb6⟩
        have HM6 := hid (HM.out.below hb6)
        have HD6 := hid (HD.out.bel hb6)
        have HX6 := hid (HX.out.bel hb6)
        have hB6 := Below.step hB hb6
        clear HD HX HM hb6 q0 q1 q2 q3 q4 q5
        obtain ⟨q0, q1, q2, q3, q4, q5⟩ := HX6.out.six
        obtain ⟨hs1, e1⟩ := HE.out
        cases v <;> cases f
        all_goals
          simp only [Bool.and_self, Bool.and_false, Bool.false_and, Bool.and_true] at hs1
          rw [hs1] at e1
          simp only [if_true, Bool.false_eq_true, if_false] at e1
          clear hs1
          go_wp2
          go_roundw
          case rel => exact ⟨k + 1, by omega, by go_num, HD6.out, HX6.out, HM6.out, hB6⟩
          case measure => simp [intOf]; omega
      · obtain rfl : k = m := by omega
        go_wp2
        go_ret
        exact ⟨rfl, hB⟩
end Go.Proofs.Ytdaabndngcebgaa
