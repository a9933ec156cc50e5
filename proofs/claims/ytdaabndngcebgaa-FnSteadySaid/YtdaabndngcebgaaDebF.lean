/- The law that equal samples are shown in the end. Conditions: none. -/
import Derived.Test.YtdaabndngcebgaaDebE
import Derived.Deep.DeepCutAuto
namespace Go.Proofs.Ytdaabndngcebgaa
open Go.RowKit
set_option linter.unusedVariables false

set_option maxRecDepth 100000 in
set_option maxHeartbeats 2000000 in
theorem walk_FnSteady (A : Option Addr) (n cap : Nat) (bs : List Int) (w : World) (hin : InBytes w A n bs) :
    Calls Try.prog 9 #[.slice A n cap] w fun e w' => e = .returned (.bool true) ∧ Below w.heap.size w w' := by
  by_cases hbig : 1048576 < n
  · have H := hid (big_yes (A := A) (cap := cap) hbig)
    clear hin
    go_enter Try.func9, Try.ntmps9
    go_wp2_with (go_at_call 19; (with_reducible refine (H.out _).mono ?_); rintro e w' ⟨rfl, rfl⟩)
    go_ret
    exact ⟨rfl, Below.refl _ _⟩
  · have H := hid (big_no (A := A) (cap := cap) hbig)
    have HC := hid (hin.code (by omega))
    clear hin hbig
    go_enter Try.func9, Try.ntmps9
    go_wp2_with fail
    refine (H.out _).mono ?_
    rintro e w' ⟨rfl, rfl⟩
    go_wp2_with fail
    refine (MakeDebouncer_any HC.out).mono ?_
    rintro e w1 ⟨kd, t, m, ms, A1, c1, B1, d1, rfl, hr1⟩
    have HR1 := hid hr1
    have b0 := hr1.kd
    have b1 := hr1.t0
    have b2 := hr1.t1
    have b3 := hr1.m0
    have b4 := hr1.m1
    have hrun := new_run b0 b1 b2 b3 b4 hr1.all hr1.len
    have hd0 := DB.new_ok (kind := kd) (time := t) (keys := m) b0 b1 (by omega) b3 (by omega)
    have HRUN := hid hrun
    have HD0 := hid hd0
    have hst := DB.run_ok hd0 ms hr1.all
    have HST := hid hst
    have hB1 := hr1.b
    have hml : (nats ms).length = ms.length := by unfold nats; simp
    have HML := hid hml
    have e1 := hr1.len
    clear hr1 hrun hd0 hst hml
    have HI := hid (fun (W : World) (A : Option Addr) (c : Nat) (B : Option Addr) (cb : Nat) (h : RdI W A m (n99 m)) (h2 : RdI W B ms.length (nats ms)) => iRun_ok (DB.new kd t m) HD0.out (cap := c) (cb := cb) h h2 (by omega) HRUN.out)
    go_wp2_with fail
    refine (HI.out _ _ _ _ _ (HR1.out.o1.rd.alloc _) (HR1.out.o2.rd.alloc _)).mono ?_
    rintro e w2 ⟨A2, c2, B2, d2, rfl, hro, hb2⟩
    have hag : (DB.run (DB.new kd t m) ms).ages.length = m := by
      obtain ⟨o, _, _, e3⟩ := HST.out
      rw [o.len, e3]; rfl
    rw [hag]
    have HAG := hid hag
    have HO2 := hid hro.o1
    have HD2 := hid ((Blk.new w1 33 #[.int .i64 kd, .int .i64 t, .int .i64 m, .int .i64 0, .int .i64 0, .slice A1 m c1]).bel hb2)
    have hz1 := hB1.size
    have hB2 := Below.step (Below.alloc hB1 hz1 _) hb2
    have hz2 : w1.heap.size + 1 ≤ w2.heap.size := by have := hb2.size; simpa using this
    clear hag hro hb2 HR1 HI H
    have s1 := shl_one m (by omega)
    have e2 : ((2 ^ m : Nat) : Int) = (2 : Int) ^ m := by simp
    rw [e2] at s1
    have hp16 : 2 ^ m ≤ 2 ^ 4 := Nat.pow_le_pow_right (by omega) b4
    have h16 : (2 : Nat) ^ 4 = 16 := by decide
    rw [h16] at hp16
    have hp0 := Nat.two_pow_pos m
    have HMN := hid (fun (W : World) (hc : Code W w.heap.size A n bs) (hB : w.heap.size ≤ W.heap.size) => MakeNumber_any (cap := cap) hc hB 3 ((2 ^ m : Nat) : Int) (by omega) (by omega))
    rw [e2] at HMN
    have HP := hid (And.intro hp16 hp0)
    clear hp16 hp0 h16 e2
    have z0 := fun o => (HD2.out.alloc o).six.1
    have z1 := fun o => (HD2.out.alloc o).six.2.1
    have z2 := fun o => (HD2.out.alloc o).six.2.2.1
    go_wp2_with fail
    refine (HMN.out _ (HC.out.below (hB2.alloc hB2.size _)) (by have := hB2.size; simp; omega)).mono ?_
    rintro e w3 ⟨x, ⟨x0, x1⟩, rfl, hb3⟩
    obtain ⟨raw, rfl⟩ := Int.eq_ofNat_of_zero_le x0
    have hz2w := hB2.size
    have HD3 := hid ((HD2.out.alloc (.cells #[.int .i64 kd, .int .i64 t, .int .i64 m, .int .i64 (DB.run (DB.new kd t m) ms).shown, .int .i64 (DB.run (DB.new kd t m) ms).last, .slice A2 m c2] 33)).bel hb3)
    have HX3 := hid ((Blk.new w2 33 #[.int .i64 kd, .int .i64 t, .int .i64 m, .int .i64 (DB.run (DB.new kd t m) ms).shown, .int .i64 (DB.run (DB.new kd t m) ms).last, .slice A2 m c2]).bel hb3)
    have HO3 := hid ((HO2.out.alloc (.cells #[.int .i64 kd, .int .i64 t, .int .i64 m, .int .i64 (DB.run (DB.new kd t m) ms).shown, .int .i64 (DB.run (DB.new kd t m) ms).last, .slice A2 m c2] 33)).below hb3)
    have hB3 := Below.step (hB2.alloc hz2w (.cells #[.int .i64 kd, .int .i64 t, .int .i64 m, .int .i64 (DB.run (DB.new kd t m) ms).shown, .int .i64 (DB.run (DB.new kd t m) ms).last, .slice A2 m c2] 33)) hb3
    have hraw : raw < 2 ^ m := by
      have e2 : ((2 ^ m : Nat) : Int) = (2 : Int) ^ m := by simp
      rw [← e2] at x1; omega
    have HRW := hid hraw
    clear hb3 HMN HO2 HD2 z0 z1 z2 x0 x1 hraw s1
    have hS : ∀ k, (DB.St.mk kd t m (DB.stepN (DB.run (DB.new kd t m) ms) raw k).shown (DB.stepN (DB.run (DB.new kd t m) ms) raw k).last (DB.stepN (DB.run (DB.new kd t m) ms) raw k).ages).Ok ∧
        DB.stepN (DB.run (DB.new kd t m) ms) raw (k + 1) = DB.step ⟨kd, t, m, (DB.stepN (DB.run (DB.new kd t m) ms) raw k).shown, (DB.stepN (DB.run (DB.new kd t m) ms) raw k).last, (DB.stepN (DB.run (DB.new kd t m) ms) raw k).ages⟩ raw := fun k => by
      obtain ⟨o, f1, f2, f3⟩ := HST.out
      have hk : raw < 2 ^ (DB.run (DB.new kd t m) ms).keys := by rw [f3]; exact HRW.out
      obtain ⟨o', g1, g2, g3⟩ := DB.stepN_ok o hk k
      have e : DB.stepN (DB.run (DB.new kd t m) ms) raw k = ⟨kd, t, m, (DB.stepN (DB.run (DB.new kd t m) ms) raw k).shown, (DB.stepN (DB.run (DB.new kd t m) ms) raw k).last, (DB.stepN (DB.run (DB.new kd t m) ms) raw k).ages⟩ := by
        have h1 : (DB.stepN (DB.run (DB.new kd t m) ms) raw k).kind = kd := g1.trans f1
        have h2 : (DB.stepN (DB.run (DB.new kd t m) ms) raw k).time = t := g2.trans f2
        have h3 : (DB.stepN (DB.run (DB.new kd t m) ms) raw k).keys = m := g3.trans f3
        generalize DB.stepN (DB.run (DB.new kd t m) ms) raw k = S at *
        cases S
        simp only at h1 h2 h3
        subst h1 h2 h3
        rfl
      refine ⟨e ▸ o', ?_⟩
      show DB.step (DB.stepN (DB.run (DB.new kd t m) ms) raw k) raw = _
      rw [← e]
    have hfin : (DB.stepN (DB.run (DB.new kd t m) ms) raw t).shown = raw ∧ (DB.stepN (DB.run (DB.new kd t m) ms) raw t).last = raw := by
      obtain ⟨o, f1, f2, f3⟩ := HST.out
      have q := DB.steady o (raw := raw) (by rw [f3]; exact HRW.out)
      rw [f2] at q
      exact q
    have HSS := hid hS
    have HFIN := hid hfin
    have hse : DB.stepN (DB.run (DB.new kd t m) ms) raw 0 = DB.run (DB.new kd t m) ms := rfl
    have HSE := hid hse
    clear hS hfin hse
    generalize DB.run (DB.new kd t m) ms = dk at *
    go_wp2
    go_loopw [9] (fun i wr => ∃ (k : Nat) (Ak : Option Addr) (ck : Nat), k ≤ t ∧ i = .int .i64 k ∧ Blk wr w1.heap.size 33 #[.int .i64 kd, .int .i64 t, .int .i64 m, .int .i64 0, .int .i64 0, .slice A1 m c1] ∧
        Blk wr w2.heap.size 33 #[.int .i64 kd, .int .i64 t, .int .i64 m, .int .i64 (DB.stepN dk raw k).shown, .int .i64 (DB.stepN dk raw k).last, .slice Ak m ck] ∧
        Own wr w.heap.size Ak m ck (DB.stepN dk raw k).ages ∧ Below w.heap.size w wr) (fun i _ => t - (intOf i).toNat)
    case atStart =>
      have q := HO3.out.base (base' := w.heap.size) (by simp; omega)
      rw [HAG.out] at q
      exact ⟨0, A2, c2, Nat.zero_le _, rfl, HD3.out, HX3.out, q, hB3⟩
    case round =>
      obtain ⟨k, Ak, ck, hk, rfl, hD, hX, hO, hB⟩ := hrel
      obtain ⟨q0, q1, q2, q3, q4, q5⟩ := hD.six
      obtain ⟨x0, x1, x2, x3, x4, x5⟩ := hX.six
      have HD := hid hD
      have HX := hid hX
      have HO := hid hO
      have hzr := hB.size
      have hxl := hX.lt
      have hdl := hD.lt
      clear hD hX hO
      by_cases hlt : k < t
      · have hs1 := step_run (HSS.out k).1 HRW.out
        rw [← (HSS.out k).2] at hs1
        have hok1 := dbOk_of (HSS.out (k + 1)).1
        have hid1 := fun (W : World) (A : Option Addr) (c : Nat) (h : RdI W A m (DB.stepN dk raw (k + 1)).ages) => iIsDebouncer_any (cap := c) h (by omega) kd t m _ _ true ⟨fun _ => hok1, fun _ => rfl⟩
        generalize hE1 : (DB.stepN dk raw (k + 1)).shown = sk1 at *
        generalize hE2 : (DB.stepN dk raw (k + 1)).last = lk1 at *
        generalize hE3 : (DB.stepN dk raw (k + 1)).ages = ag1 at *
        have HE := hid (And.intro hE1 (And.intro hE2 hE3))
        have HS1 := hid hs1
        have HID := hid hid1
        clear hE1 hE2 hE3 hs1 hid1 hok1
        go_upto_region 14 with (first | (go_at_call 34; (with_reducible refine (HS1.out _ _ _ HO.out.rd).mono ?_); rintro e w4 ⟨A4, c4, rfl, ho4, hb4⟩; have HO4 := hid ho4; have HD4 := hid (HD.out.bel hb4); have HX4 := hid (HX.out.bel hb4); have hz4 := hb4.size; have hB4 := Below.step hB hb4; clear ho4 hb4 q0 q1 q2 q3 q4 q5 x0 x1 x2 x3 x4 x5) | (go_at_call 27; (with_reducible refine (HID.out _ _ _ (HO4.out.rd.alloc _)).mono ?_); rintro e w5 ⟨rfl, hb5⟩; have HB5 := hid hb5; clear hb5))
        have HX5 := hid ((HX4.out.alloc _).bel HB5.out)
        have HD5 := hid ((HD4.out.alloc _).bel HB5.out)
        have HY5 := hid (Blk.bel (Blk.new w4 _ _) HB5.out)
        have HO5 := hid ((HO4.out.alloc _).below HB5.out)
        have hz5 := HB5.out.size
        simp only [World.size_alloc] at hz5
        have hB5 := Below.step (hB4.alloc hB4.size _) HB5.out
        obtain ⟨n0, n1, n2, n3, n4, n5⟩ := HY5.out.six
        obtain ⟨z0, z1, z2, z3, z4, z5⟩ := HX5.out.six
        have g0 := HX5.out.frozen 0
        have g1 := HX5.out.frozen 1
        have g2 := HX5.out.frozen 2
        have g3 := HX5.out.frozen 3
        have g4 := HX5.out.frozen 4
        have g5 := HX5.out.frozen 5
        clear HX4 HD4 HO4 HB5 HX HD HO hB4
        go_wp2
        go_roundw
        case rel =>
          refine ⟨k + 1, A4, c4, by omega, by go_num, ?_, ?_, ?_, ?_⟩
          · exact (((((HD5.out.far (by simp; omega) _).far (by simp; omega) _).far (by simp; omega) _).far (by simp; omega) _).far (by simp; omega) _).far (by simp; omega) _
          · rw [HE.out.1, HE.out.2.1]; exact (((((HX5.out.set_ 0 _).set_ 1 _).set_ 2 _).set_ 3 _).set_ 4 _).set_ 5 _
          · rw [HE.out.2.2]; exact ((((((HO5.out.far (by simp; omega) _).far (by simp; omega) _).far (by simp; omega) _).far (by simp; omega) _).far (by simp; omega) _).far (by simp; omega) _).base (by omega)
          · exact Below.setCell (Below.setCell (Below.setCell (Below.setCell (Below.setCell (Below.setCell hB5 (by simp; omega) _) (by simp; omega) _) (by simp; omega) _) (by simp; omega) _) (by simp; omega) _) (by simp; omega) _
        case measure => simp [intOf]; omega
      · obtain rfl : k = t := by omega
        rw [HFIN.out.1] at x3
        rw [HFIN.out.2] at x4
        have hq : ((raw : Int) == (raw : Int)) = true := by simp
        go_wp2
        go_ret
        exact ⟨rfl, hB⟩
end Go.Proofs.Ytdaabndngcebgaa
