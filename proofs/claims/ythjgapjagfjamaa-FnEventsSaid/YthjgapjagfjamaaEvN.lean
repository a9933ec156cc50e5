/- The law that drawn samples make their events, and the events the samples again. Conditions: none. -/
import Derived.Test.YthjgapjagfjamaaEvI
import Derived.Test.YthjgapjagfjamaaDebE0
import Derived.Test.YthjgapjagfjamaaChgI
import Derived.Deep.DeepCutAuto
namespace Go.Proofs.Ythjgapjagfjamaa
open Go.RowKit
set_option linter.unusedVariables false

set_option maxHeartbeats 1000000 in
/-- Two slices that read as the same integers. -/
theorem sameInts_same {w : World} {A B : Option Addr} {n c d : Nat} {xs : List Int} (h : RdI w A n xs) (h' : RdI w B n xs) (hn : n ≤ 1048576) : Calls Try.prog 36 #[.slice A n c, .slice B n d] w fun e w' => e = .returned (.bool true) ∧ Below w.heap.size w w' := by
  have HA := hid h; clear h
  have HB := hid h'; clear h'
  go_enter Try.func36, Try.ntmps36
  go_wp2
  go_loopw [5] (fun i wr => ∃ k q : Nat, k ≤ n ∧ i = .int .i64 k ∧ wr = w.drewN q) (fun i _ => n - (intOf i).toNat)
  case atStart => exact ⟨0, 0, Nat.zero_le _, rfl, rfl⟩
  case round =>
    obtain ⟨k, q, hk, rfl, rfl⟩ := hrel
    by_cases hlt : k < n
    · obtain ⟨ad, rfl, ha⟩ := HA.out.at_ hlt
      obtain ⟨bd, rfl, hb⟩ := HB.out.at_ hlt
      have hk0 : (0 : Int) ≤ (k : Int) := by omega
      have hkn : (k : Int) < (n : Int) := by omega
      generalize xs.getD k 0 = v at *
      go_wp2
      go_quiet (fail)
      go_wp2
      go_roundw
      case rel => exact ⟨k + 1, _, by omega, by go_num, rfl⟩
      case measure => simp [intOf]; omega
    · obtain rfl : k = n := by omega
      go_wp2
      go_ret
      exact ⟨rfl, below_drewN (Below.refl _ _) _⟩

/-! ### the drawn masks -/
theorem nats_getD (ms : List Nat) (i : Nat) : (nats ms).getD i 0 = ((ms.getD i 0 : Nat) : Int) := by
  unfold nats
  rw [List.getD_eq_getElem?_getD, List.getD_eq_getElem?_getD, List.getElem?_map]
  cases ms[i]? <;> rfl
theorem mN_nats (ms : List Nat) (i : Nat) : mN (nats ms) i = ms.getD i 0 := by unfold mN; rw [nats_getD, Int.toNat_natCast]
theorem mN_lt {ms : List Nat} {m : Nat} (h : ∀ x ∈ ms, x < 2 ^ m) (hm : m ≤ 4) (i : Nat) : mN (nats ms) i < 2 ^ 4 := by
  rw [mN_nats, List.getD_eq_getElem?_getD]
  cases e : ms[i]? with
  | none => exact Nat.two_pow_pos _
  | some a => exact Nat.lt_of_lt_of_le (h a (List.mem_of_getElem? e)) (Nat.pow_le_pow_right (by omega) hm)
theorem okM_nats {ms : List Nat} {m : Nat} (h : ∀ x ∈ ms, x < 2 ^ m) (hm : m ≤ 4) : okM (nats ms) = true := by
  refine okM_all fun j hj => ?_
  have h1 := mN_lt h hm j
  rw [mN_nats] at h1
  rw [nats_getD]
  omega
theorem eoB_nats {ms : List Nat} {m : Nat} (h : ∀ x ∈ ms, x < 2 ^ m) (hm : m ≤ 4) (hl : ms.length ≤ 40) : eoB (nats ms) = decide ((EV.evs (mN (nats ms)) ms.length).length ≤ 64) := by
  unfold eoB
  rw [okM_nats h hm, nats_length, decide_eq_true (show ms.length ≤ 200 by omega)]; rfl
theorem kb_nats (ms : List Nat) (k : Nat) : kb (nats ms) k = fun i => (mN (nats ms) i).testBit k := by
  funext i
  unfold kb
  rw [nats_getD, tbI_nat, mN_nats]
theorem ccI_nats (ms : List Nat) {k : Nat} (hk : k < 4) : ccI (nats ms) (k : Int) = ((DB.cnt (fun i => (mN (nats ms) i).testBit k) ms.length : Nat) : Int) := by
  have h1 : inB 0 23 (k : Int) = true := by unfold inB; simp; omega
  unfold ccI
  rw [h1, Int.toNat_natCast, kb_nats, nats_length]; rfl
theorem total_le (m : Nat → Nat) (n : Nat) : ∀ k, EV.total m n k ≤ n * k
  | 0 => Nat.le_refl _
  | k + 1 => by have h1 := total_le m n k; have h2 := DB.cnt_le (fun i => (m i).testBit k) n; rw [EV.total, Nat.mul_succ]; omega
theorem masks_back {ms : List Nat} {m : Nat} (h : ∀ x ∈ ms, x < 2 ^ m) (hm : m ≤ 4) : EV.masksTo (EV.evs (mN (nats ms)) ms.length) ms.length = ms := by
  rw [EV.masksTo_evs _ (fun i => Nat.lt_of_lt_of_le (mN_lt h hm i) (Nat.pow_le_pow_right (by omega) (by omega))) _ _ (Nat.le_refl _)]
  refine List.ext_getElem (by simp) fun i h1 h2 => ?_
  rw [List.getElem_map, List.getElem_range, mN_nats, List.getD_eq_getElem?_getD, List.getElem?_eq_getElem h2]; rfl
theorem prevM_last (ms : List Nat) {p : Nat} (hp : ms.length = p + 1) : EV.prevM (mN (nats ms)) ms.length = ms.getD p 0 := by rw [hp, EV.prevM, mN_nats]

set_option maxRecDepth 100000 in
set_option maxHeartbeats 2000000 in
theorem walk_FnEvents (A : Option Addr) (n cap : Nat) (bs : List Int) (w : World) (hin : InBytes w A n bs) :
    Calls Try.prog 10 #[.slice A n cap] w fun e w' => e = .returned (.bool true) ∧ Below w.heap.size w w' := by
  by_cases hbig : 1048576 < n
  · have H := hid (big_yes (A := A) (cap := cap) hbig)
    clear hin
    go_enter Try.func10, Try.ntmps10
    go_wp2_with (go_at_call 33; (with_reducible refine (H.out _).mono ?_); rintro e w' ⟨rfl, rfl⟩)
    go_ret
    exact ⟨rfl, Below.refl _ _⟩
  · have H := hid (big_no (A := A) (cap := cap) hbig)
    have HC := hid (hin.code (by omega))
    clear hin hbig
    go_enter Try.func10, Try.ntmps10
    go_wp2_with fail
    refine (H.out _).mono ?_
    rintro e w' ⟨rfl, rfl⟩
    go_wp2_with fail
    refine (MakeDebouncer_any HC.out).mono ?_
    rintro e w1 ⟨kd, t, m, ms, A1, c1, B1, d1, rfl, hr1⟩
    have hm4 := hr1.m1
    have hln := hr1.len
    have hB1 := hid hr1.b
    have HALL := hid hr1.all
    have HO := hid hr1.o2
    have hnl := nats_length ms
    have hmx : ms.length ≤ maxLen := by unfold maxLen; omega
    have hwf : ∀ z ∈ nats ms, (Lit.int .i64 z).wf = true := fun z hz => by
      unfold nats at hz
      obtain ⟨x, hx, rfl⟩ := List.mem_map.1 hz
      have h1 := hr1.all x hx
      have h2 : 2 ^ m ≤ 2 ^ 4 := Nat.pow_le_pow_right (by omega) hm4
      simp [Lit.wf, IntKind.min, IntKind.max, IntKind.signed, IntKind.bits]; omega
    have hrng : ∀ z ∈ nats ms, rng z := fun z hz => by
      have := i64_wf (hwf z hz)
      unfold rng; omega
    have HE := hid (fun (W : World) (h : RdI W B1 ms.length (nats ms)) => iEventsOf_any (cap := d1) h hmx hwf)
    have HCC := hid (fun (W : World) (h : RdI W B1 ms.length (nats ms)) (k : Nat) (hk : k < 4) => ccI_nats ms hk ▸ iCountChanges_any (cap := d1) h hrng (by omega) (k : Int))
    have heo := eoB_nats hr1.all hm4 hln
    clear hr1 hwf hrng H
    go_wp2_with fail
    refine (HE.out _ (HO.out.rd.alloc _)).mono ?_
    rintro e w2 ⟨A2, c2, rfl, ho2, hb2⟩
    have hz1 := hB1.out.size
    have HB2 := hid (Below.step (hB1.out.alloc hz1 _) hb2)
    have HR2 := hid ((HO.out.rd.alloc _).below hb2)
    have HE2 := hid ho2
    clear ho2 hb2 HE hB1 HO
    by_cases hle : (EV.evs (mN (nats ms)) ms.length).length ≤ 64
    · rw [decide_eq_true hle] at heo
      have hel := eo_yes heo
      rw [hnl] at hel
      rw [heo]
      rw [hel] at HE2 ⊢
      have h32 : ∀ i, mN (nats ms) i < 2 ^ 32 := fun i => Nat.lt_of_lt_of_le (mN_lt HALL.out hm4 i) (Nat.pow_le_pow_right (by omega) (by omega))
      have hie := EV.isEvs_evs (mN (nats ms)) h32 ms.length (by omega) hle
      have hxo := EV.xo_evs (mN (nats ms)) h32 ms.length
      have hha : EV.heldAfter (EV.evs (mN (nats ms)) ms.length) = EV.prevM (mN (nats ms)) ms.length := by unfold EV.heldAfter; rw [hie, if_pos rfl, hxo]
      have hmb : moB (EV.evs (mN (nats ms)) ms.length) (ms.length : Int) = true := by unfold moB; rw [hie, decide_eq_true (by omega), decide_eq_true (by omega)]; rfl
      have hml := mo_yes hmb
      rw [Int.toNat_natCast, masks_back HALL.out hm4] at hml
      have HMO := hid (fun (W : World) (h : RdE W A2 (EV.evs (mN (nats ms)) ms.length).length (EV.evs (mN (nats ms)) ms.length)) => iMasksOf_any (cap := c2) h (by unfold maxLen; omega) (ms.length : Int))
      rw [hml, hmb] at HMO
      have HIE := hid (fun (W : World) (h : RdE W A2 (EV.evs (mN (nats ms)) ms.length).length (EV.evs (mN (nats ms)) ms.length)) => iIsEvents_any (cap := c2) h (by unfold maxLen; omega))
      rw [hie] at HIE
      have HHA := hid (fun (W : World) (h : RdE W A2 (EV.evs (mN (nats ms)) ms.length).length (EV.evs (mN (nats ms)) ms.length)) => iHeldAfter_any (cap := c2) h (by unfold maxLen; omega))
      rw [hha] at HHA
      have HPV := hid (fun (p : Nat) (hp : ms.length = p + 1) => prevM_last ms hp)
      obtain ⟨L, hL⟩ : ∃ L, EV.evs (mN (nats ms)) ms.length = L := ⟨_, rfl⟩
      obtain ⟨pv, hpv⟩ : ∃ pv, EV.prevM (mN (nats ms)) ms.length = pv := ⟨_, rfl⟩
      rw [hL] at HMO HIE HHA HE2 hle ⊢
      rw [hpv] at HHA HPV
      clear hL hpv heo hel h32 hie hxo hha hmb hml HALL HCC
      obtain ⟨N, hN⟩ : ∃ N, ms.length = N := ⟨_, rfl⟩
      rw [hN] at hnl HMO HR2 HPV hmx hln ⊢
      clear hN
      unfold MadeI2 at HMO
      rw [hnl] at HMO
      have HQ := hid (fun (W : World) (X : Option Addr) (c : Nat) (h : RdI W X N (nats ms)) (h' : RdI W B1 N (nats ms)) => sameInts_same (c := c) (d := d1) h h' (by omega))
      go_wp2_with (first | (go_at_call 29; (with_reducible refine (HMO.out _ HE2.out.rd).mono ?_); rintro e w3 ⟨A3, c3, rfl, ho3, hb3⟩; have HO3 := hid ho3; have HB3 := hid (Below.step HB2.out hb3); have HE3 := hid (HE2.out.rd.below hb3); have HR3 := hid (HR2.out.below hb3); clear ho3 hb3) | (go_at_call 17; (with_reducible refine (HIE.out _ HE3.out).mono ?_); rintro e w4 ⟨rfl, hb4⟩; have HO4 := hid (HO3.out.rd.below hb4); have HB4 := hid (Below.step HB3.out hb4); have HE4 := hid (HE3.out.below hb4); have HR4 := hid (HR3.out.below hb4); clear hb4) | (go_at_call 36; (with_reducible refine (HQ.out _ _ _ HO4.out HR4.out).mono ?_); rintro e w5 ⟨rfl, hb5⟩; have HB5 := hid (Below.step HB4.out hb5); have HE5 := hid (HE4.out.below hb5); have HR5 := hid (HR4.out.below hb5); clear hb5))
      have hbW := HB5.out
      have cH := fun d os => Calls.regrown_of (w := w5) (d := d) (os := os) (HHA.out _ (HE5.out.below (below_regrown w5 d os)))
      by_cases hn0 : N = 0
      · subst hn0
        (refine wp_region_quiet_below (by kernel_rfl) (by kernel_rfl) ?_); (repeat (go_big_quiet_step (first | exact cH _ _))); (refine wpQuiet_nil ?_); intro _ hw'; obtain ⟨⟨dq, osq⟩, hw''⟩ := hw'; subst hw''
        have hb7 := below_regrown w5 dq osq
        generalize «Sort».grow (redrawn w5 dq) osq = wq at *
        go_wp2
        go_ret
        exact ⟨rfl, Below.step hbW hb7⟩
      · obtain ⟨p, hp⟩ : ∃ p, N = p + 1 := ⟨N - 1, by omega⟩
        obtain ⟨ad, rfl, a0⟩ := HR5.out.at_ (show p < N by omega)
        rw [nats_getD, ← HPV.out p hp] at a0
        have hnp : (N : Int) - 1 = (p : Int) := by omega
        have hn1 : ((N : Int) == 0) = false := by simp; omega
        have hn2 : ¬ (N : Int) = 0 := by omega
        have hp0 : (0 : Int) ≤ (p : Int) := by omega
        have hp1 : (p : Int) < (N : Int) := by omega
        have HP := hid hp
        clear hp hn0
        have y0 := fun d os => cell_regrown a0 d os
        (refine wp_region_quiet_below (by kernel_rfl) (by kernel_rfl) ?_); (repeat (go_big_quiet_step (first | exact cH _ _))); (refine wpQuiet_nil ?_); intro _ hw'; obtain ⟨⟨dq, osq⟩, hw''⟩ := hw'; subst hw''
        have hb7 := below_regrown w5 dq osq
        generalize «Sort».grow (redrawn w5 dq) osq = wq at *
        clear y0
        go_wp2
        go_ret
        exact ⟨rfl, Below.step hbW hb7⟩
    · rw [decide_eq_false hle] at heo
      have hel := eo_no heo
      have hlt := EV.evs_length (mN (nats ms)) (fun i => mN_lt HALL.out hm4 i) ms.length
      have hgt : 64 < EV.total (mN (nats ms)) ms.length 4 := by omega
      have htl := fun k => total_le (mN (nats ms)) ms.length k
      have hts : ∀ k, EV.total (mN (nats ms)) ms.length (k + 1) = EV.total (mN (nats ms)) ms.length k + DB.cnt (fun i => (mN (nats ms) i).testBit k) ms.length := fun k => rfl
      have HTS := hid hts
      have HTL := hid htl
      have HGT := hid hgt
      rw [hel, heo]
      clear hel heo hlt hgt htl hts HALL HE2
      go_wp2_with fail
      go_loopw [7, 8] (fun q i wr => ∃ k : Nat, k ≤ 4 ∧ i = .int .i64 k ∧ q = .int .i64 (EV.total (mN (nats ms)) ms.length k : Nat) ∧ RdI wr B1 ms.length (nats ms) ∧ Below w.heap.size w wr) (fun _ i _ => 4 - (intOf i).toNat)
      case atStart => exact ⟨0, by omega, rfl, rfl, HR2.out, HB2.out⟩
      case round =>
        obtain ⟨k, hk, rfl, rfl, hrd, hbel⟩ := hrel
        have HRD := hid hrd; clear hrd
        by_cases hk4 : k < 4
        · have hk2 : (k : Int) < 4 := by omega
          have h1 := HTS.out k
          have h2 := HTL.out (k + 1)
          have h3 : ms.length * (k + 1) ≤ 40 * 4 := Nat.mul_le_mul hln (by omega)
          have HC1 := hid (fun (W : World) (h : RdI W B1 ms.length (nats ms)) => HCC.out W h k hk4)
          have HT1 := hid h1
          generalize EV.total (mN (nats ms)) ms.length k = tk at *
          generalize DB.cnt (fun i => (mN (nats ms) i).testBit k) ms.length = ck at *
          have h4 : tk + ck ≤ 160 := by omega
          clear h1 h2 h3
          go_wp2_with (go_at_call 35; (with_reducible refine (HC1.out _ HRD.out).mono ?_); rintro e w4 ⟨rfl, hb4⟩; have HB4 := hid (Below.step hbel hb4); have HR4 := hid (HRD.out.below hb4); clear hb4)
          go_roundw
          case rel => exact ⟨k + 1, by omega, by go_num, by rw [HT1.out]; go_num, HR4.out, HB4.out⟩
          case measure => simp [intOf]; omega
        · obtain rfl : k = 4 := by omega
          have h64 : (64 : Int) < ((EV.total (mN (nats ms)) ms.length 4 : Nat) : Int) := by have := HGT.out; omega
          go_wp2
          go_ret
          exact ⟨rfl, hbel⟩
end Go.Proofs.Ythjgapjagfjamaa
