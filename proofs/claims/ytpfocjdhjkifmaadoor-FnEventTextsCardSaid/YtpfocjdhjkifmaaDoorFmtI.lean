/- Numbers as texts: by contract in both programs. Conditions: the library's table of powers of ten as it is laid. -/
import Derived.Test.YtpfocjdhjkifmaaDoorTxtA
import Derived.Test.YtpfocjdhjkifmaaDoorNum
import Derived.Test.YtpfocjdhjkifmaaDoorShelf
import Derived.Lib.ItoaLen
namespace Go.Proofs.YtpfocjdhjkifmaaDoor
open Go.RowKit
open Go.Sort (grow)
set_option linter.unusedVariables false

/-- The table of powers of ten lies as it was laid. -/
abbrev Pow10 (w : World) : Prop := Lib.TabIs Tryd.prog w "internal/strconv.uint64pow10" .u64 Lib.pow10Tab
theorem TabIs_below {n : String} {k : IntKind} {zs : List Int} {w w' : World} (h : Lib.TabIs Tryd.prog w n k zs) (hb : Below w.heap.size w w') : Lib.TabIs Tryd.prog w' n k zs := by
  unfold Lib.TabIs World.var? at h ⊢
  cases hg : Tryd.prog.globalNamed n with
  | none => rw [hg] at h; cases h
  | some g =>
    rw [hg] at h
    simp only [Option.bind_some] at h ⊢
    have hlt : g < w.heap.size := by
      rcases Nat.lt_or_ge g w.heap.size with h' | h'
      · exact h'
      · rw [Array.getElem?_eq_none h'] at h; cases h
    rw [hb.block g hlt]
    exact h
theorem below_grow (w : World) (k : Nat) (os : Array Obj) : Below w.heap.size w (grow (w.drewN k) os) :=
  ⟨rfl, rfl, rfl, by simp [grow], fun i hi => by simp only [grow]; rw [Array.getElem?_append_left (by simpa using hi)]; rfl⟩
theorem iFormatInt_any {w : World} (n : Int) (h0 : -9223372036854775808 ≤ n) (h1 : n ≤ 9223372036854775807) (ht : Pow10 w) :
    Calls Tryd.prog 13 #[.int .i64 n] w fun e w' => e = .returned (.string (st (Lib.itoa n))) ∧ Below w.heap.size w w' := by
  have H := hid (Tryd.strconv_Itoa n h0 h1 w ht)
  clear h0 h1 ht
  go_enter Tryd.func13, Tryd.ntmps13
  go_wp2_with (go_at_call 42; (with_reducible refine H.out.mono ?_); rintro e w1 ⟨rfl, k, os, rfl⟩)
  go_ret
  exact ⟨rfl, below_grow _ _ _⟩

/-! ### the numeral -/
theorem decDigits_digs {n : Nat} (h : n ≠ 0) : Lib.decDigits n = digs n := by
  induction n using Nat.strongRecOn with
  | ind n ih =>
    by_cases h1 : n < 10
    · rw [Lib.decDigits_one h1, digs_pos h, show n / 10 = 0 by omega, digs_zero, show n % 10 = n by omega]; rfl
    · rw [Lib.decDigits, dif_neg h1, digs_pos h, ih (n / 10) (by omega) (by omega)]
theorem digs_len : ∀ (k n : Nat), n < 10 ^ k → (digs n).length ≤ k
  | 0, n, h => by
    obtain rfl : n = 0 := by simpa using h
    rw [digs_zero]; exact Nat.le_refl _
  | k + 1, n, h => by
    by_cases h0 : n = 0
    · subst h0; rw [digs_zero]; simp
    · rw [digs_pos h0, List.length_append]
      have := digs_len k (n / 10) (by rw [Nat.pow_succ] at h; omega)
      simp; omega
theorem itoa_digs {n : Int} (h : n ≠ 0) : Lib.itoa n = if n < 0 then 45 :: digs n.natAbs else digs n.natAbs := by
  unfold Lib.itoa
  split
  · rw [decDigits_digs (by omega)]
  · rw [show n.toNat = n.natAbs by omega, decDigits_digs (by omega)]
theorem digit_nat (r : Nat) (h : r < 10) : (UInt8.ofNat (48 + r)).toNat = 48 + r := by
  rw [UInt8.toNat_ofNat']; omega

set_option maxRecDepth 100000 in
set_option maxHeartbeats 1000000 in
theorem sFormatInt_any {w : World} (n : Int) (h0 : -9223372036854775808 ≤ n) (h1 : n ≤ 9223372036854775807) :
    Calls Tryd.prog 12 #[.int .i64 n] w fun e w' => e = .returned (.string (st (Lib.itoa n))) ∧ Below w.heap.size w w' := by
  by_cases hn : n = 0
  · subst hn
    have e : st (Lib.itoa 0) = ⟨#[48]⟩ := by unfold Lib.itoa; rw [if_neg (by omega), show (0 : Int).toNat = 0 from rfl, Lib.decDigits_one (by omega)]; rfl
    rw [e]
    clear e
    go_enter Tryd.func12, Tryd.ntmps12
    go_wp2
    go_ret
    exact ⟨rfl, Below.refl _ _⟩
  · rw [itoa_digs hn]
    have hlen : (digs n.natAbs).length ≤ 19 := digs_len 19 _ (by omega)
    have HN := hid hn
    go_enter Tryd.func12, Tryd.ntmps12
    go_wp2
    go_loopw [3, 4, 5] (fun o x _ wr => ∃ (m : Int) (L : List UInt8), x = .int .i64 m ∧ o = .string (st L) ∧ (n < 0 → m ≤ 0) ∧ (0 < n → 0 ≤ m) ∧ m.natAbs ≤ n.natAbs ∧ digs m.natAbs ++ L = digs n.natAbs ∧ Below w.heap.size w wr) (fun _ x _ _ => (intOf x).natAbs)
    case atStart => exact ⟨n, [], rfl, rfl, fun h => by omega, fun h => by omega, Nat.le_refl _, by simp, Below.refl _ _⟩
    case round =>
      obtain ⟨m, L, rfl, rfl, hs0, hs1, hm, hd, hbel⟩ := hrel
      have hL : L.length ≤ 19 := by
        rw [← hd, List.length_append] at hlen; omega
      have HD := hid hd; clear hd
      by_cases hp : m = 0
      · subst hp
        have HD0 : Hid (L = digs n.natAbs) := hid (by have := HD.out; simpa [digs_zero] using this)
        clear hs0 hs1 hm HD
        have hz : ¬ ((ByteArray.mk #[45]).size + (st L).size > 9223372036854775807) := by rw [st_size]; have : (ByteArray.mk #[45]).size = 1 := rfl; omega
        by_cases hneg : n < 0
        · go_wp2
          go_ret
          rw [← HD0.out]
          exact ⟨congrArg (fun x => Ending.returned (Value.string x)) (st_append [45] L), hbel⟩
        · go_wp2
          go_ret
          rw [← HD0.out]
          exact ⟨rfl, hbel⟩
      · have hd2 := digs_pos (n := m.natAbs) (by omega)
        have hr10 : m.natAbs % 10 < 10 := by omega
        obtain ⟨r, hr⟩ : ∃ r, m.natAbs % 10 = r := ⟨_, rfl⟩
        obtain ⟨q, hq⟩ : ∃ q, m.natAbs / 10 = q := ⟨_, rfl⟩
        rw [hr] at hr10 hd2
        rw [hq] at hd2
        have hx0 := digit_nat r hr10
        obtain ⟨x, hx⟩ : ∃ x, UInt8.ofNat (48 + r) = x := ⟨_, rfl⟩
        rw [hx] at hx0 hd2
        clear hx
        have hcv := run_bytes_text (w := wr.alloc (.cells #[.int .u8 (48 + (r : Int))] 5)) 41 9 5 wr.heap.size 1 [x] 1 rfl _ _ (Blk.new _ _ _) Tryd.underlying41 Tryd.underlying5 Tryd.underlying9 (by
          intro i hi
          have : i = 0 := by simpa using hi
          subst this
          simp only [List.getElem_cons_zero, hx0]
          simp)
        clear hx0
        have HX := hid hd2; clear hd2
        have hz : ¬ ((st [x]).size + (st L).size > 9223372036854775807) := by rw [st_size, st_size]; simp; omega
        have hq0 : q < m.natAbs := by omega
        have HQ := hid hq0
        have w2 : IntKind.i64.wrap (48 + (r : Int)) = 48 + (r : Int) := IntWalk.i64_in _ ⟨by omega, by omega⟩
        have w3 : IntKind.u8.wrap (48 + (r : Int)) = 48 + (r : Int) := IntWalk.u8_in _ ⟨by omega, by omega⟩
        have HDR := hid (show digs q ++ x :: L = digs n.natAbs by have h2 := HD.out; rw [HX.out, List.append_assoc] at h2; exact h2)
        clear HD HX
        by_cases hmn : 0 < m
        · have t1 : m.tmod 10 = (r : Int) := by rw [Int.tmod_eq_emod_of_nonneg (by omega)]; omega
          have t2 : m.tdiv 10 = (q : Int) := by rw [Int.tdiv_eq_ediv_of_nonneg (by omega)]; omega
          have t3 : m % 10 = (r : Int) := by omega
          have t4 : m / 10 = (q : Int) := by omega
          have w4 : IntKind.i64.wrap (q : Int) = (q : Int) := IntWalk.i64_in _ ⟨by omega, by omega⟩
          have t5 : ¬ (r : Int) < 0 := by omega
          clear hr hq
          go_wp2
          go_roundw
          case rel => exact ⟨q, x :: L, rfl, by rw [st_append]; rfl, fun h => by omega, fun h => by omega, by omega, HDR.out, hbel.alloc hbel.size _⟩
          case measure => simp [intOf]; omega
        · have hmn2 : m < 0 := by omega
          have t1 : m.tmod 10 = -(r : Int) := by
            have h3 : m = -((m.natAbs : Nat) : Int) := by omega
            rw [h3, Int.neg_tmod, Int.tmod_eq_emod_of_nonneg (by omega)]; omega
          have t2 : m.tdiv 10 = -(q : Int) := by
            have h3 : m = -((m.natAbs : Nat) : Int) := by omega
            rw [h3, Int.neg_tdiv, Int.tdiv_eq_ediv_of_nonneg (by omega)]; omega
          have w4 : IntKind.i64.wrap (-(q : Int)) = -(q : Int) := IntWalk.i64_in _ ⟨by omega, by omega⟩
          have w5 : IntKind.i64.wrap (-(r : Int)) = -(r : Int) := IntWalk.i64_in _ ⟨by omega, by omega⟩
          by_cases hr0 : r = 0
          · subst hr0
            rw [show (48 : Int) + ((0 : Nat) : Int) = 48 from rfl] at hcv
            clear hr hq
            go_wp2
            go_roundw
            case rel => exact ⟨-(q : Int), x :: L, rfl, by rw [st_append]; rfl, fun h => by omega, fun h => by omega, by omega, by rw [show (-(q : Int)).natAbs = q by omega]; exact HDR.out, hbel.alloc hbel.size _⟩
            case measure => simp [intOf]; omega
          · have t5 : -(r : Int) < 0 := by omega
            have t6 : - -(r : Int) = (r : Int) := by omega
            have w6 : IntKind.i64.wrap (r : Int) = (r : Int) := IntWalk.i64_in _ ⟨by omega, by omega⟩
            clear hr hq
            go_wp2
            go_roundw
            case rel => exact ⟨-(q : Int), x :: L, rfl, by rw [st_append]; rfl, fun h => by omega, fun h => by omega, by omega, by rw [show (-(q : Int)).natAbs = q by omega]; exact HDR.out, hbel.alloc hbel.size _⟩
            case measure => simp [intOf]; omega
theorem walk_FnExactFormatInt {w : World} (n : Int) (hw : (Lit.int .i64 n).wf = true) (ht : Pow10 w) :
    Calls Tryd.prog 3 #[.int .i64 n] w fun e w' => e = .returned (.bool true) ∧ Below w.heap.size w w' := by
  obtain ⟨h0, h1⟩ := i64_wf hw
  have HS := hid (fun (W : World) => sFormatInt_any (w := W) n h0 h1)
  have HI := hid (fun (W : World) (ht : Pow10 W) => iFormatInt_any n h0 h1 ht)
  have HT := hid ht
  clear h0 h1 ht hw
  go_enter Tryd.func3, Tryd.ntmps3
  go_wp2_with fail
  refine (HS.out _).mono ?_
  rintro e w1 ⟨rfl, hb1⟩
  have HT1 := hid (TabIs_below HT.out hb1)
  go_wp2_with fail
  refine (HI.out _ HT1.out).mono ?_
  rintro e w2 ⟨rfl, hb2⟩
  go_wp2
  go_ret
  exact ⟨rfl, Below.step hb1 hb2⟩
end Go.Proofs.YtpfocjdhjkifmaaDoor
