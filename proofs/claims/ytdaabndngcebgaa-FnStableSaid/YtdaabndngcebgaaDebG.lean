/- The law that no debouncer shows more changes than its samples have. Conditions: none. -/
import Derived.Test.YtdaabndngcebgaaDebE
import Derived.Test.YtdaabndngcebgaaChgB
import Derived.Deep.DeepCutAuto
namespace Go.Proofs.Ytdaabndngcebgaa
open Go.RowKit
set_option linter.unusedVariables false

theorem kb_nats (ms : List Nat) (K : Nat) : kb (nats ms) K = fun i => (ms.getD i 0).testBit K := by
  funext i
  unfold kb
  have e : (nats ms).getD i 0 = ((ms.getD i 0 : Nat) : Int) := by
    unfold nats
    rw [List.getD_eq_getElem?_getD, List.getD_eq_getElem?_getD, List.getElem?_map]
    cases ms[i]? <;> rfl
  rw [e, tbI_nat]
theorem in23 {k m : Nat} (h : k < m) (h4 : m ≤ 4) : inB 0 23 (k : Int) = true := inB_true ⟨by omega, by omega⟩
theorem cc_fewer {kd t m : Nat} {ms : List Nat} (h0 : kd ≤ 2) (h1 : 1 ≤ t) (h2 : t ≤ 5) (h3 : 1 ≤ m) (h4 : m ≤ 4) (hall : ∀ x ∈ ms, x < 2 ^ m) {k : Nat} (hk : k < m) :
    ccI (nats (DB.shows (DB.new kd t m) ms)) k ≤ ccI (nats ms) k := by
  have hd0 := DB.new_ok (kind := kd) (time := t) (keys := m) h0 h1 (by omega) h3 (by omega)
  have q := DB.fewer_shown hd0 rfl ms hall k hk
  unfold ccI
  rw [in23 hk h4]
  simp only [if_true, kb_nats, nats_length, DB.shows_length, Int.toNat_natCast]
  exact_mod_cast q
theorem sp_eager {t m : Nat} {ms : List Nat} (h1 : 1 ≤ t) (h2 : t ≤ 5) (h3 : 1 ≤ m) (h4 : m ≤ 4) (hall : ∀ x ∈ ms, x < 2 ^ m) {k : Nat} (hk : k < m) :
    SpB (nats (DB.shows (DB.new 2 t m) ms)) k t true := by
  have hd0 := DB.new_ok (kind := 2) (time := t) (keys := m) (by omega) h1 (by omega) h3 (by omega)
  have q := DB.spaced_shown hd0 rfl rfl ms hall k hk
  refine ⟨fun _ => ⟨in23 hk h4, ?_⟩, fun _ => rfl⟩
  rw [kb_nats, nats_length, DB.shows_length, Int.toNat_natCast]
  exact q
theorem rng_nats {ms : List Nat} {m : Nat} (h4 : m ≤ 4) (hall : ∀ x ∈ ms, x < 2 ^ m) : ∀ x ∈ nats ms, rng x := by
  intro x hx
  unfold nats at hx
  obtain ⟨z, hz, rfl⟩ := List.mem_map.1 hx
  have h := hall z hz
  have hp : 2 ^ m ≤ 2 ^ 4 := Nat.pow_le_pow_right (by omega) h4
  have h16 : (2 : Nat) ^ 4 = 16 := by decide
  unfold rng; omega
theorem shows_lt {kd t m : Nat} {ms : List Nat} (h0 : kd ≤ 2) (h1 : 1 ≤ t) (h2 : t ≤ 5) (h3 : 1 ≤ m) (h4 : m ≤ 4) (hall : ∀ x ∈ ms, x < 2 ^ m) : ∀ x ∈ DB.shows (DB.new kd t m) ms, x < 2 ^ m := by
  intro x hx
  have hd0 := DB.new_ok (kind := kd) (time := t) (keys := m) h0 h1 (by omega) h3 (by omega)
  obtain ⟨i, hi, rfl⟩ := List.mem_iff_getElem.1 hx
  rw [DB.shows_length] at hi
  have e := DB.shows_getD (DB.new kd t m) ms i hi
  rw [List.getD_eq_getElem?_getD, List.getElem?_eq_getElem (by rw [DB.shows_length]; exact hi)] at e
  simp only [Option.getD_some] at e
  rw [e]
  obtain ⟨o, _, _, e3⟩ := DB.run_ok hd0 (ms.take (i + 1)) (fun y hy => hall y (List.mem_of_mem_take hy))
  have := o.shown
  rw [e3] at this
  exact this
set_option maxRecDepth 100000 in
set_option maxHeartbeats 2000000 in
theorem walk_FnFewer (A : Option Addr) (n cap : Nat) (bs : List Int) (w : World) (hin : InBytes w A n bs) :
    Calls Try.prog 11 #[.slice A n cap] w fun e w' => e = .returned (.bool true) ∧ Below w.heap.size w w' := by
  by_cases hbig : 1048576 < n
  · have H := hid (big_yes (A := A) (cap := cap) hbig)
    clear hin
    go_enter Try.func11, Try.ntmps11
    go_wp2_with (go_at_call 19; (with_reducible refine (H.out _).mono ?_); rintro e w' ⟨rfl, rfl⟩)
    go_ret
    exact ⟨rfl, Below.refl _ _⟩
  · have H := hid (big_no (A := A) (cap := cap) hbig)
    have HC := hid (hin.code (by omega))
    clear hin hbig
    go_enter Try.func11, Try.ntmps11
    go_wp2_with fail
    refine (H.out _).mono ?_
    rintro e w' ⟨rfl, rfl⟩
    go_wp2_with fail
    refine (MakeDebouncer_any HC.out).mono ?_
    rintro e w1 ⟨kd, t, m, ms, A1, c1, B1, d1, rfl, hr1⟩
    have HR1 := hid hr1
    have b0 := hr1.kd
    have b1 := hr1.t0
    have b2 := hr1.t1
    have b3 := hr1.m0
    have b4 := hr1.m1
    have hrun := new_run b0 b1 b2 b3 b4 hr1.all hr1.len
    have hd0 := DB.new_ok (kind := kd) (time := t) (keys := m) b0 b1 (by omega) b3 (by omega)
    have HRUN := hid hrun
    have HD0 := hid hd0
    have hB1 := hr1.b
    have e1 := hr1.len
    have hcc : ∀ k, k < m → ccI (nats (DB.shows (DB.new kd t m) ms)) k ≤ ccI (nats ms) k := fun k hk => cc_fewer b0 b1 b2 b3 b4 hr1.all hk
    have hsp : kd = 2 → ∀ k, k < m → SpB (nats (DB.shows (DB.new kd t m) ms)) k t true := fun e k hk => by
      subst e; exact sp_eager b1 b2 b3 b4 hr1.all hk
    have hrg := rng_nats b4 hr1.all
    have hrs := rng_nats b4 (shows_lt b0 b1 b2 b3 b4 hr1.all)
    have hsl : (nats (DB.shows (DB.new kd t m) ms)).length = ms.length := by rw [nats_length, DB.shows_length]
    have HCC := hid hcc
    have HSP := hid hsp
    have HRG := hid hrg
    have HRS := hid hrs
    clear hcc hsp hrg hrs
    clear hr1 hrun hd0
    have HI := hid (fun (W : World) (A : Option Addr) (c : Nat) (B : Option Addr) (cb : Nat) (h : RdI W A m (n99 m)) (h2 : RdI W B ms.length (nats ms)) => iRun_ok (DB.new kd t m) HD0.out (cap := c) (cb := cb) h h2 (by omega) HRUN.out)
    go_wp2_with fail
    refine (HI.out _ _ _ _ _ (HR1.out.o1.rd.alloc _) (HR1.out.o2.rd.alloc _)).mono ?_
    rintro e w2 ⟨A2, c2, B2, d2, rfl, hro, hb2⟩
    rw [hsl]
    have ho2 := hro.o2
    rw [hsl] at ho2
    have HO2 := hid ho2.rd
    have HM2 := hid ((HR1.out.o2.rd.alloc _).below hb2)
    have HD2 := hid ((Blk.new w1 33 #[.int .i64 kd, .int .i64 t, .int .i64 m, .int .i64 0, .int .i64 0, .slice A1 m c1]).bel hb2)
    have hz1 := hB1.size
    have hB2 := Below.step (Below.alloc hB1 hz1 _) hb2
    have hz2 : w1.heap.size + 1 ≤ w2.heap.size := by have := hb2.size; simpa using this
    clear hro hb2 HR1 HI H ho2
    have hSH := hid (DB.shows_length (DB.new kd t m) ms)
    generalize hxs : nats (DB.shows (DB.new kd t m) ms) = xs at *
    clear hxs
    go_wp2_with fail
    go_loopw [8] (fun i wr => ∃ k : Nat, k ≤ m ∧ i = .int .i64 k ∧ Blk wr w1.heap.size 33 #[.int .i64 kd, .int .i64 t, .int .i64 m, .int .i64 0, .int .i64 0, .slice A1 m c1] ∧
        RdI wr B2 ms.length xs ∧ RdI wr B1 ms.length (nats ms) ∧ Below w.heap.size w wr) (fun i _ => m - (intOf i).toNat)
    case atStart => exact ⟨0, Nat.zero_le _, rfl, HD2.out.alloc _, HO2.out.alloc _, HM2.out.alloc _, hB2.alloc hB2.size _⟩
    case round =>
      obtain ⟨k, hk, rfl, hD, hX, hM, hB⟩ := hrel
      obtain ⟨q0, q1, q2, q3, q4, q5⟩ := hD.six
      have HD := hid hD
      have HX := hid hX
      have HM := hid hM
      clear hD hX hM
      by_cases hlt : k < m
      · have hle := HCC.out k hlt
        have HSK := hid (fun e => HSP.out e k hlt)
        have HC1 := hid (fun (W : World) (c : Nat) (h : RdS W B2 ms.length xs) => iCountChanges_any (cap := c) h.out HRS.out (by omega) k)
        have HC2 := hid (fun (W : World) (c : Nat) (h : RdS W B1 ms.length (nats ms)) => iCountChanges_any (cap := c) h.out HRG.out (by omega) k)
        have HI3 := hid (fun (e : kd = 2) (W : World) (c : Nat) (h : RdS W B2 ms.length xs) => iIsSpaced_any (cap := c) h.out HRS.out (by omega) k t true (HSK.out e))
        generalize ccI xs k = a1 at *
        generalize ccI (nats ms) k = a2 at *
        have hcmp : decide (a2 < a1) = false := decide_eq_false (by omega)
        have hr2 := RdS.mk HX.out
        have hr1 := RdS.mk HM.out
        go_upto_region 10 with fail
        go_cut [50] (fun s wx => s = .bool false ∧ Below wr.heap.size wr wx)
        case first =>
          clear hr1 hr2
          go_wp2_with fail
          refine (HC1.out _ _ (RdS.mk HX.out)).mono ?_
          rintro e w6 ⟨rfl, hb6⟩
          have HX6 := hid (HX.out.below hb6)
          have HM6 := hid (HM.out.below hb6)
          have HD6 := hid (HD.out.bel hb6)
          go_wp2_with fail
          refine (HC2.out _ _ (RdS.mk HM6.out)).mono ?_
          rintro e w7 ⟨rfl, hb7⟩
          have HX7 := hid (HX6.out.below hb7)
          have HD7 := hid (HD6.out.bel hb7)
          have hb67 := Below.step hb6 hb7
          clear HX6 HM6 HD6 q0 q1 q2 q3 q4 q5 hb6 hb7
          obtain ⟨q0, q1, q2, q3, q4, q5⟩ := HD7.out.six
          by_cases h2 : kd = 2
          · have HI4 := hid (HI3.out h2)
            clear HI3
            subst h2
            go_wp2_with fail
            refine (HI4.out _ _ (RdS.mk HX7.out)).mono ?_
            rintro e w8 ⟨rfl, hb8⟩
            have hb9 := Below.step hb67 hb8
            clear hb8 hb67 q0 q1 q2 q3 q4 q5 HX7 HD7
            go_wp2_with fail
            go_meet
            exact ⟨rfl, hb9⟩
          · have hk2 : ((kd : Int) == 2) = false := by simp; omega
            go_wp2_with fail
            go_meet
            exact ⟨rfl, hb67⟩
        case rest =>
          obtain ⟨rfl, hb6⟩ := hcut
          have HD6 := hid (HD.out.bel hb6)
          have HX6 := hid (HX.out.below hb6)
          have HM6 := hid (HM.out.below hb6)
          have hB6 := Below.step hB hb6
          clear HD HX HM hr1 hr2 q0 q1 q2 q3 q4 q5 hb6
          go_wp2
          go_roundw
          case rel => exact ⟨k + 1, by omega, by go_num, HD6.out, HX6.out, HM6.out, hB6⟩
          case measure => simp [intOf]; omega
      · obtain rfl : k = m := by omega
        go_wp2
        go_ret
        exact ⟨rfl, hB⟩
end Go.Proofs.Ytdaabndngcebgaa
