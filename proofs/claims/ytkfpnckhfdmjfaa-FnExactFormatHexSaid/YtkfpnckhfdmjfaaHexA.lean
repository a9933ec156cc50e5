/- Bytes as hexadecimal text: by contract in both programs; the law. Conditions: none. -/
import Derived.Test.YtkfpnckhfdmjfaaJoinA
import Derived.Deep.DeepCutAuto
import Derived.Test.YtkfpnckhfdmjfaaSlBytes
namespace Go.Proofs.Ytkfpnckhfdmjfaa
open Go.RowKit
set_option linter.unusedVariables false

/-- The text of bytes. -/
def hexT (xs : List Int) : List UInt8 := if xs.length ≤ 2000 then TX.hexL xs else []
theorem hex_get (k : Nat) (h : k < 16) : ((ByteArray.mk #[48, 49, 50, 51, 52, 53, 54, 55, 56, 57, 97, 98, 99, 100, 101, 102])[k]'(by show k < 16; exact h)) = TX.hexD k := by
  have : k = 0 ∨ k = 1 ∨ k = 2 ∨ k = 3 ∨ k = 4 ∨ k = 5 ∨ k = 6 ∨ k = 7 ∨ k = 8 ∨ k = 9 ∨ k = 10 ∨ k = 11 ∨ k = 12 ∨ k = 13 ∨ k = 14 ∨ k = 15 := by omega
  rcases this with rfl | rfl | rfl | rfl | rfl | rfl | rfl | rfl | rfl | rfl | rfl | rfl | rfl | rfl | rfl | rfl <;> rfl
theorem hex_size : (ByteArray.mk #[48, 49, 50, 51, 52, 53, 54, 55, 56, 57, 97, 98, 99, 100, 101, 102]).size = 16 := rfl
theorem hexL_take (xs : List Int) (j : Nat) (h : j < xs.length) : TX.hexL (xs.take (j + 1)) = TX.hexL (xs.take j) ++ [TX.hexD ((xs.getD j 0).toNat / 16), TX.hexD ((xs.getD j 0).toNat % 16)] := by
  rw [List.take_succ_eq_append_getElem h, TX.hexL_snoc, List.getD_eq_getElem?_getD, List.getElem?_eq_getElem h]; rfl
theorem hexL_take_len (xs : List Int) (j : Nat) (h : j ≤ xs.length) : (TX.hexL (xs.take j)).length = 2 * j := by rw [TX.hexL_len, List.length_take]; omega

theorem grown_undrew {w w' : World} {r : Option Nat} (h : w.drew.grownBy w' r) : w.grownBy w' r := ⟨h.os, h.tape, h.output, h.size, h.block⟩
theorem u8_and15 (y : Nat) (h : y ≤ 255) : bits .and .u8 (y : Int) 15 = ((y % 16 : Nat) : Int) := by
  show IntKind.u8.wrap ((BitVec.ofInt 8 (y : Int) &&& BitVec.ofInt 8 15).toNat : Int) = _
  have h1 : (BitVec.ofInt 8 15).toNat = 15 := by decide
  have h2 : (BitVec.ofInt 8 (y : Int)).toNat = y := by rw [BitVec.ofInt_natCast, BitVec.toNat_ofNat]; exact Nat.mod_eq_of_lt (by omega)
  rw [BitVec.toNat_and, h1, h2, show (15 : Nat) = 2 ^ 4 - 1 from rfl, Nat.and_two_pow_sub_one_eq_mod]
  have h3 : y % 2 ^ 4 < 16 := Nat.mod_lt _ (by decide)
  show IntKind.u8.wrap ((y % 16 : Nat) : Int) = _
  unfold IntKind.wrap
  simp [IntKind.bits, IntKind.signed]
  omega
set_option maxRecDepth 100000 in
set_option maxHeartbeats 1000000 in
theorem iFormatHex_any {w : World} {A : Option Addr} {n cap : Nat} {xs : List Int} (h : RdB w A n xs) (hx : ∀ j, j < n → 0 ≤ xs.getD j 0 ∧ xs.getD j 0 ≤ 255) (hmx : n ≤ maxLen) :
    Calls Try.prog 19 #[.slice A n cap] w fun e w' => e = .returned (.string (st (hexT xs))) ∧ Below w.heap.size w w' := by
  have hl := h.1
  unfold hexT
  unfold maxLen at hmx
  rw [hl]
  by_cases hbig : n ≤ 2000
  · rw [if_pos hbig]
    obtain ⟨i0, hi, hz0, hz1, hz2⟩ := info_parts byte_info
    have HI0 := hid (And.intro hi (And.intro hz0 (And.intro hz1 hz2))); clear hi hz0 hz1 hz2
    have HR := hid h; clear h
    have HX := hid hx; clear hx
    have HL := hid hl; clear hl
    go_enter Try.func19, Try.ntmps19
    go_wp2_with fail
    go_loopw [3, 5, 11] (fun o x i wr => ∃ (j : Nat) (A : Option Addr) (c : Nat), j ≤ n ∧ i = .int .i64 j ∧ o = .slice A (2 * j) c ∧ wr.ownsRow w.heap.size 5 1 (.slice A (2 * j) c) (2 * j) (cB (TX.hexL (xs.take j))) ∧ Below w.heap.size w wr) (fun _ _ i _ => n - (intOf i).toNat)
    case atStart => exact ⟨0, none, 0, Nat.zero_le _, rfl, rfl, World.ownsRow_nil _ _ _ _, Below.refl _ _⟩
    case round =>
      obtain ⟨j, A0, c, hj, rfl, rfl, hown, hbel⟩ := hrel
      by_cases hlt : j < n
      · obtain ⟨ad, rfl, hc⟩ := (HR.out.below hbel).at_ 0 hlt
        simp only [bV] at hc
        have hq := hexL_take xs j (by rw [HL.out]; exact hlt)
        have hxx := HX.out j hlt
        have HOwn := hid hown; clear hown
        generalize xs.getD j 0 = x at *
        obtain ⟨y, rfl⟩ := Int.eq_ofNat_of_zero_le hxx.1
        have hy : y ≤ 255 := by omega
        clear hxx
        rw [Int.toNat_natCast] at hq
        have HQ := hid hq; clear hq
        have b0 : 0 ≤ (y : Int) / 16 ∧ (y : Int) / 16 < 16 := by omega
        have t0 : ((y : Int) / 16).toNat = y / 16 := by omega
        have b2 : y / 16 < 16 := by omega
        have g2 := u8_and15 y hy
        have b1 : y % 16 < 16 := by omega
        obtain ⟨r, hr⟩ : ∃ r, y % 16 = r := ⟨_, rfl⟩
        obtain ⟨q, hq⟩ : ∃ q, y / 16 = q := ⟨_, rfl⟩
        rw [hr] at g2 b1
        rw [hq] at t0 b2
        have HQ2 := hid hr; clear hr
        have HQ3 := hid hq; clear hq
        have g0 := hex_get q b2
        have g1 := hex_get r b1
        have b3 : (r : Int) < 16 := by omega
        have h2 : ∀ u ∈ [Value.int .u8 (TX.hexD q).toNat, Value.int .u8 (TX.hexD r).toNat], u.oneCell' = true := by intro u hu; simp at hu; rcases hu with rfl | rfl <;> rfl
        go_wp2_with fail
        go_wp2_with fail
        have hz1 : 2 * j + 2 ≤ maxLen := by unfold maxLen; omega
        have hz2 : (2 * j + 2) * 1 ≤ 140737488355328 := by omega
        have hz4 : 0 < 1 := by omega
        have hz3 : w.heap.size ≤ ((wr.alloc (.cells #[Value.int .u8 (TX.hexD q).toNat, Value.int .u8 (TX.hexD r).toNat] 5)).drew).heap.size := by have := hbel.size; simp; omega
        have hrd2 := reads_new wr #[Value.int .u8 (TX.hexD q).toNat, Value.int .u8 (TX.hexD r).toNat] 5 (size := 1) (n := 2) rfl
        have HRD2 := hid hrd2.drew; clear hrd2
        have HOA := hid (HOwn.out.alloc (.cells #[Value.int .u8 (TX.hexD q).toNat, Value.int .u8 (TX.hexD r).toNat] 5))
        have HOD := hid (ownsRow_drewN HOA.out 1)
        go_region_law ((refine step_append_any _ rfl (.tmp 15) (.tmp 22) 24 rfl w.heap.size 5 i0 (.int .u8 0) 1 1 Try.underlying24 HI0.out.1 HI0.out.2.1 HI0.out.2.2.1 HI0.out.2.2.2 rfl hz4 (.slice A0 (2 * j) c) (2 * j) (cB (TX.hexL (xs.take j))) rfl HOD.out (wr.heap.size + 1) (some ⟨wr.heap.size, 0, none⟩) 2 2 [Value.int .u8 (TX.hexD q).toNat, Value.int .u8 (TX.hexD r).toNat] rfl HRD2.out h2 hz1 hz2 hz3 ?_); intro v' w2 hown1 hg1 hat1; obtain ⟨A', c', rfl⟩ := ownsRow_form hown1; have hb2 := below_app hbel HOwn.out (Nat.le_refl _) (grown_undrew hg1); have HOw2 := hid hown1; clear hown1 hg1 hat1)
        all_goals
          go_wp2
          go_roundw
          case rel =>
            refine ⟨j + 1, A', c', by omega, by go_num, rfl, ?_, hb2⟩
            have h3 := HOw2.out
            rw [HQ.out, HQ3.out, HQ2.out, cB_app]; exact h3
          case measure => simp [intOf]; omega
      · obtain rfl : j = n := by omega
        have hl2 := hexL_take_len xs j (by rw [HL.out]; exact Nat.le_refl _)
        have hq : xs.take j = xs := by rw [← HL.out, List.take_length]
        rw [hq] at hown hl2
        have hcv := conv_own (src := 24) (dst := 9) (L := TX.hexL xs) (by rw [hl2]; exact hown) Try.underlying24 Try.underlying5 Try.underlying9
        rw [hl2] at hcv
        clear hq hl2
        go_wp2
        go_ret
        exact ⟨rfl, hbel⟩
  · rw [if_neg hbig]
    clear h hx hl
    go_enter Try.func19, Try.ntmps19
    go_wp2
    go_ret
    exact ⟨rfl, Below.refl _ _⟩
set_option maxRecDepth 100000 in
set_option maxHeartbeats 2000000 in
theorem sFormatHex_any {w : World} {A : Option Addr} {n cap : Nat} {xs : List Int} (h : RdB w A n xs) (hx : ∀ j, j < n → 0 ≤ xs.getD j 0 ∧ xs.getD j 0 ≤ 255) (hmx : n ≤ maxLen) :
    Calls Try.prog 17 #[.slice A n cap] w fun e w' => e = .returned (.string (st (hexT xs))) ∧ Below w.heap.size w w' := by
  have hl := h.1
  unfold hexT
  unfold maxLen at hmx
  rw [hl]
  by_cases hbig : n ≤ 2000
  · rw [if_pos hbig]
    obtain ⟨i0, hi, hz0, hz1, hz2⟩ := info_parts byte_info
    have HI0 := hid (And.intro hi (And.intro hz0 (And.intro hz1 hz2))); clear hi hz0 hz1 hz2
    have HR := hid h; clear h
    have HX := hid hx; clear hx
    have HL := hid hl; clear hl
    go_enter Try.func17, Try.ntmps17
    go_wp2_with fail
    go_loopw [3, 4] (fun o i wr => ∃ (j : Nat) (A : Option Addr) (c : Nat), j ≤ n ∧ i = .int .i64 j ∧ o = .slice A (2 * j) c ∧ wr.ownsRow w.heap.size 5 1 (.slice A (2 * j) c) (2 * j) (cB (TX.hexL (xs.take j))) ∧ Below w.heap.size w wr) (fun _ i _ => n - (intOf i).toNat)
    case atStart => exact ⟨0, _, 0, Nat.zero_le _, rfl, rfl, own_litG w _ 1, (Below.refl _ _).alloc (Nat.le_refl _) _⟩
    case round =>
      obtain ⟨j, A0, c, hj, rfl, rfl, hown, hbel⟩ := hrel
      by_cases hlt : j < n
      · obtain ⟨ad, rfl, hc⟩ := (HR.out.below hbel).at_ 0 hlt
        simp only [bV] at hc
        have hq := hexL_take xs j (by rw [HL.out]; exact hlt)
        have hxx := HX.out j hlt
        have HOwn := hid hown; clear hown
        generalize xs.getD j 0 = x at *
        obtain ⟨y, rfl⟩ := Int.eq_ofNat_of_zero_le hxx.1
        have hy : y ≤ 255 := by omega
        clear hxx
        rw [Int.toNat_natCast] at hq
        have HQ := hid hq; clear hq
        have w0 : IntKind.i64.wrap (y : Int) = (y : Int) := IntWalk.i64_in _ ⟨by omega, by omega⟩
        have d0 : IntKind.i64.wrap ((y : Int) / 16) = ((y / 16 : Nat) : Int) := IntWalk.i64_in _ ⟨by omega, by omega⟩
        have d1 : (y : Int).tmod 16 = ((y % 16 : Nat) : Int) := by rw [Int.tmod_eq_emod_of_nonneg (by omega)]; omega
        have b2 : y / 16 < 16 := by omega
        have b1 : y % 16 < 16 := by omega
        obtain ⟨r, hr⟩ : ∃ r, y % 16 = r := ⟨_, rfl⟩
        obtain ⟨q, hq⟩ : ∃ q, y / 16 = q := ⟨_, rfl⟩
        rw [hr] at d1 b1
        rw [hq] at d0 b2
        have HQ2 := hid hr; clear hr
        have HQ3 := hid hq; clear hq
        have g0 := hex_get q b2
        have g1 := hex_get r b1
        have b3 : (r : Int) < 16 := by omega
        have b4 : (q : Int) < 16 := by omega
        have hlt2 : (j : Int) < (n : Int) := by omega
        have h2 : ∀ u ∈ [Value.int .u8 (TX.hexD q).toNat, Value.int .u8 (TX.hexD r).toNat], u.oneCell' = true := by intro u hu; simp at hu; rcases hu with rfl | rfl <;> rfl
        have hz1 : 2 * j + 2 ≤ maxLen := by unfold maxLen; omega
        have hz2 : (2 * j + 2) * 1 ≤ 140737488355328 := by omega
        have hz4 : 0 < 1 := by omega
        have hz3 : w.heap.size ≤ ((wr.alloc (.cells #[Value.int .u8 (TX.hexD q).toNat, Value.int .u8 (TX.hexD r).toNat] 5)).drew).heap.size := by have := hbel.size; simp; omega
        have hrd2 := reads_new wr #[Value.int .u8 (TX.hexD q).toNat, Value.int .u8 (TX.hexD r).toNat] 5 (size := 1) (n := 2) rfl
        have HRD2 := hid hrd2.drew; clear hrd2
        have HOA := hid (HOwn.out.alloc (.cells #[Value.int .u8 (TX.hexD q).toNat, Value.int .u8 (TX.hexD r).toNat] 5))
        have HOD := hid (ownsRow_drewN HOA.out 1)
        go_wp2_with fail
        go_region_law ((refine step_append_any _ rfl (.tmp 17) (.tmp 32) 24 rfl w.heap.size 5 i0 (.int .u8 0) 1 1 Try.underlying24 HI0.out.1 HI0.out.2.1 HI0.out.2.2.1 HI0.out.2.2.2 rfl hz4 (.slice A0 (2 * j) c) (2 * j) (cB (TX.hexL (xs.take j))) rfl HOD.out (wr.heap.size + 1) (some ⟨wr.heap.size, 0, none⟩) 2 2 [Value.int .u8 (TX.hexD q).toNat, Value.int .u8 (TX.hexD r).toNat] rfl HRD2.out h2 hz1 hz2 hz3 ?_); intro v' w2 hown1 hg1 hat1; obtain ⟨A', c', rfl⟩ := ownsRow_form hown1; have hb2 := below_app hbel HOwn.out (Nat.le_refl _) (grown_undrew hg1); have HOw2 := hid hown1; clear hown1 hg1 hat1)
        all_goals
          go_wp2
          go_roundw
          case rel =>
            refine ⟨j + 1, A', c', by omega, by go_num, rfl, ?_, hb2⟩
            have h3 := HOw2.out
            rw [HQ.out, HQ3.out, HQ2.out, cB_app]; exact h3
          case measure => simp [intOf]; omega
      · obtain rfl : j = n := by omega
        have hl2 := hexL_take_len xs j (by rw [HL.out]; exact Nat.le_refl _)
        have hq : xs.take j = xs := by rw [← HL.out, List.take_length]
        rw [hq] at hown hl2
        have hcv := conv_own (src := 24) (dst := 9) (L := TX.hexL xs) (by rw [hl2]; exact hown) Try.underlying24 Try.underlying5 Try.underlying9
        rw [hl2] at hcv
        clear hq hl2
        go_wp2
        go_ret
        exact ⟨rfl, hbel⟩
  · rw [if_neg hbig]
    by_cases h0 : n = 0
    · omega
    · have hcv := conv_own (src := 24) (dst := 9) (L := []) (own_litG w 5 1) Try.underlying24 Try.underlying5 Try.underlying9
      simp only [List.length_nil] at hcv
      have h1 : (0 : Int) < (n : Int) := by omega
      have h3 : ¬ (n : Int) ≤ 2000 := by omega
      have h4 : decide ((n : Int) ≤ 2000) = false := by simpa using h3
      clear h hx hl
      go_enter Try.func17, Try.ntmps17
      go_wp2_with fail
      refine wp_loop_rounds 1 ?_; rw [rounds_succ]
      go_wp2
      go_ret
      exact ⟨rfl, (Below.refl _ _).alloc (Nat.le_refl _) _⟩
set_option maxRecDepth 100000 in
set_option maxHeartbeats 1000000 in
theorem walk_FnExactFormatHex (A : Option Addr) (n cap : Nat) (xs : List Int) (w : World) (hin : xs.length = n ∧ n ≤ maxLen ∧ Reads w w.heap.size 1 A n (xs.map (.int .u8)) ∧ ∀ z ∈ xs, (Lit.int .u8 z).wf = true) :
    Calls Try.prog 4 #[.slice A n cap] w fun e w' => e = .returned (.bool true) ∧ Below w.heap.size w w' := by
  obtain ⟨hl, hmx, hrd, hwf⟩ := hin
  have hR : RdB w A n xs := ⟨hl, hrd⟩
  have hxx : ∀ j, j < n → 0 ≤ xs.getD j 0 ∧ xs.getD j 0 ≤ 255 := by
    intro j hj
    have h1 := hwf (xs.getD j 0) (by rw [List.getD_eq_getElem?_getD, List.getElem?_eq_getElem (by omega)]; exact List.getElem_mem _)
    simpa [Lit.wf, IntKind.min, IntKind.max, IntKind.signed, IntKind.bits] using h1
  subst hl
  have HS := hid (fun (W : World) (A : Option Addr) (c : Nat) (h : RdB W A xs.length xs) => sFormatHex_any (cap := c) h hxx hmx)
  have HI := hid (fun (W : World) (A : Option Addr) (c : Nat) (h : RdB W A xs.length xs) => iFormatHex_any (cap := c) h hxx hmx)
  have HR := hid hR
  clear hR hrd hwf hxx
  unfold maxLen at hmx
  by_cases hbig : 1048576 < xs.length
  · go_enter Try.func4, Try.ntmps4
    go_wp2
    go_ret
    exact ⟨rfl, Below.refl _ _⟩
  · have HN : xs.length ≤ 1048576 := by omega
    go_enter Try.func4, Try.ntmps4
    go_wp2_with fail
    refine (toByteS_any HR.out HN).mono ?_
    rintro e w1 ⟨A1, c1, rfl, ho1, hb1⟩
    have HO1 := hid ho1; clear ho1
    have HR1 := hid (HR.out.below hb1)
    have HB1 := hid hb1; clear hb1
    go_wp2_with fail
    refine (HS.out _ _ _ HO1.out.rd).mono ?_
    rintro e w2 ⟨rfl, hb2⟩
    have HR2 := hid (HR1.out.below hb2)
    have HB2 := hid (Below.step HB1.out hb2); clear hb2
    go_wp2_with fail
    refine (toByteS_any HR2.out HN).mono ?_
    rintro e w3 ⟨A3, c3, rfl, ho3, hb3⟩
    have HO3 := hid ho3; clear ho3
    have HR3 := hid (HR2.out.below hb3)
    have HB3 := hid (Below.step HB2.out hb3); clear hb3
    go_wp2_with fail
    refine (HI.out _ _ _ HO3.out.rd).mono ?_
    rintro e w4 ⟨rfl, hb4⟩
    have HO4 := hid (HO3.out.below hb4)
    have HR4 := hid (HR3.out.below hb4)
    have HB4 := hid (Below.step HB3.out hb4); clear hb4
    go_wp2_with fail
    refine (toByteS_any HR4.out HN).mono ?_
    rintro e w5 ⟨A5, c5, rfl, ho5, hb5⟩
    have HO5 := hid ho5; clear ho5
    have HO45 := hid (HO4.out.below hb5)
    have HB5 := hid (Below.step HB4.out hb5); clear hb5
    go_wp2_with fail
    refine (eqByteS_same HO45.out.rd HO5.out.rd HN).mono ?_
    rintro e w6 ⟨rfl, hb6⟩
    have HB6 := hid (Below.step HB5.out hb6); clear hb6
    go_wp2
    go_ret
    exact ⟨rfl, HB6.out⟩
end Go.Proofs.Ytkfpnckhfdmjfaa
