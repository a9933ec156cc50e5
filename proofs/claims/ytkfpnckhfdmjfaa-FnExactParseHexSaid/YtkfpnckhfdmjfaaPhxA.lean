/- Hexadecimal text read: by contract in both programs; the law. Conditions: none. -/
import Derived.Test.YtkfpnckhfdmjfaaJoinA
import Derived.Test.YtkfpnckhfdmjfaaSplA
import Derived.Test.YtkfpnckhfdmjfaaSlBytes
namespace Go.Proofs.Ytkfpnckhfdmjfaa
open Go.RowKit
set_option linter.unusedVariables false

abbrev hexS : ByteArray := ⟨#[48, 49, 50, 51, 52, 53, 54, 55, 56, 57, 97, 98, 99, 100, 101, 102]⟩
/-- The value of a digit, -1 if it is none. -/
def digN (n : Nat) : Int := if 48 ≤ n ∧ n ≤ 57 then (n : Int) - 48 else if 97 ≤ n ∧ n ≤ 102 then (n : Int) - 87 else -1
theorem digN_rng (n : Nat) : -1 ≤ digN n ∧ digN n ≤ 15 := by unfold digN; split; omega; split <;> omega
set_option maxRecDepth 100000 in
theorem idx_dig (x : UInt8) : Lib.indexByte hexS.data.toList x = digN x.toNat := by
  have h : ∀ n : Fin 256, Lib.indexByte hexS.data.toList (UInt8.ofNat n.val) = digN (UInt8.ofNat n.val).toNat := by decide
  have h2 := h ⟨x.toNat, x.toNat_lt⟩
  simpa using h2
theorem idx_any (x : UInt8) (n : Nat) (hn : x.toNat = n) (w : World) : Calls Try.prog 57 #[.string hexS, .int .u8 n] w fun e w' => e = .returned (.int .i64 (digN n)) ∧ w = w' := by
  have h := Try.strings_IndexByte hexS (n : Int) w
  have h2 : ((n : Int).toNat.toUInt8) = x := by rw [Int.toNat_natCast, ← hn]; simp
  rw [h2, idx_dig, hn] at h
  exact h.mono fun e w' ⟨h1, h2⟩ => ⟨h1, h2.symm⟩
theorem digN_cases (n : Nat) : n < 48 ∨ (48 ≤ n ∧ n ≤ 57) ∨ (57 < n ∧ n < 97) ∨ (97 ≤ n ∧ n ≤ 102) ∨ 102 < n := by omega
theorem l1Digit_any (n : Nat) (hn : n ≤ 255) (w : World) : Calls Try.prog 56 #[.int .u8 n] w fun e w' => e = .returned (.int .i64 (digN n)) ∧ w = w' := by
  have e1 : IntKind.i64.wrap (n : Int) = n := IntWalk.i64_in _ ⟨by omega, by omega⟩
  rcases digN_cases n with h | ⟨h1, h2⟩ | ⟨h1, h2⟩ | ⟨h1, h2⟩ | h
  all_goals
    have hd : digN n = digN n := rfl
    conv at hd => rhs; unfold digN
    try rw [if_pos (by omega)] at hd
    try rw [if_neg (by omega), if_pos (by omega)] at hd
    try rw [if_neg (by omega), if_neg (by omega)] at hd
    rw [hd]
    clear hd
    go_enter Try.func56, Try.ntmps56
    go_wp2
    go_ret
    exact ⟨ret_int (by first | rfl | omega), rfl⟩
/-- What has been read of the first k pairs. -/
def phTo (L : List UInt8) : Nat → Option (List Int)
  | 0 => some []
  | k + 1 => match phTo L k with
    | none => none
    | some l => if digN (L.getD (2 * k) 0).toNat < 0 ∨ digN (L.getD (2 * k + 1) 0).toNat < 0 then none else some (l ++ [16 * digN (L.getD (2 * k) 0).toNat + digN (L.getD (2 * k + 1) 0).toNat])
theorem phTo_len (L : List UInt8) : ∀ k l, phTo L k = some l → l.length = k
  | 0, l, h => by simp [phTo] at h; subst h; rfl
  | k + 1, l, h => by
    rw [phTo] at h
    split at h
    · cases h
    · rename_i l' hl'
      split at h
      · cases h
      · injection h with h
        subst h
        rw [List.length_append, phTo_len L k l' hl']; rfl
theorem phTo_none (L : List UInt8) {k : Nat} (h : phTo L k = none) : ∀ m, k ≤ m → phTo L m = none
  | 0, hm => by obtain rfl : k = 0 := by omega
                exact h
  | m + 1, hm => by
    by_cases e : k = m + 1
    · subst e; exact h
    · rw [phTo, phTo_none L h m (by omega)]
/-- What is read: the bytes, and whether all is right. -/
def phL (L : List UInt8) : List Int := if L.length % 2 = 1 ∨ 4000 < L.length then [] else (phTo L (L.length / 2)).getD []
def phB (L : List UInt8) : Bool := if L.length % 2 = 1 ∨ 4000 < L.length then false else (phTo L (L.length / 2)).isSome
theorem phL_len (L : List UInt8) : (phL L).length ≤ 2000 := by
  unfold phL
  split
  · simp
  · cases h : phTo L (L.length / 2) with
    | none => simp
    | some l => have := phTo_len L _ l h; simp; omega
theorem ph_no {L : List UInt8} (h : L.length % 2 = 1 ∨ 4000 < L.length) : phL L = [] ∧ phB L = false := by unfold phL phB; rw [if_pos h, if_pos h]; exact ⟨rfl, rfl⟩
theorem ph_none {L : List UInt8} (h : ¬ (L.length % 2 = 1 ∨ 4000 < L.length)) {k : Nat} (hk : k ≤ L.length / 2) (hn : phTo L k = none) : phL L = [] ∧ phB L = false := by
  unfold phL phB; rw [if_neg h, if_neg h, phTo_none L hn _ hk]; exact ⟨rfl, rfl⟩
theorem ph_some {L : List UInt8} (h : ¬ (L.length % 2 = 1 ∨ 4000 < L.length)) {l : List Int} (hn : phTo L (L.length / 2) = some l) : phL L = l ∧ phB L = true := by
  unfold phL phB; rw [if_neg h, if_neg h, hn]; exact ⟨rfl, rfl⟩
theorem bytes_getD (s : ByteArray) (j : Nat) (h : j < s.size) : s[j]'h = s.data.toList.getD j 0 := by
  rw [bytes_get s j h, List.getD_eq_getElem?_getD, List.getElem?_eq_getElem (by rw [Array.length_toList]; exact h)]; rfl
def MadeB2 (w : World) (xs : List Int) (b : Bool) (e : Ending) (w' : World) : Prop :=
  ∃ (A : Option Addr) (cap : Nat), e = .returned (.tuple #[.slice A xs.length cap, .bool b]) ∧ OwnB w' w.heap.size A xs.length cap xs ∧ Below w.heap.size w w'

set_option maxRecDepth 100000 in
set_option maxHeartbeats 2000000 in
theorem sParseHex_any (s : ByteArray) (hm : s.size ≤ maxLen) (w : World) : Calls Try.prog 33 #[.string s] w (MadeB2 w (phL s.data.toList) (phB s.data.toList)) := by
  have hL : s.data.toList.length = s.size := dl_len s
  unfold maxLen at hm
  have hmod : (s.size : Int).tmod 2 = ((s.size % 2 : Nat) : Int) := by rw [Int.tmod_eq_emod_of_nonneg (by omega)]; omega
  by_cases hodd : s.size % 2 = 1
  · obtain ⟨e1, e2⟩ := ph_no (L := s.data.toList) (.inl (by rw [hL]; exact hodd))
    rw [e1, e2]
    rw [hodd] at hmod
    clear e1 e2 hL
    go_enter Try.func33, Try.ntmps33
    go_wp2
    go_ret2
    exact ⟨_, _, rfl, ⟨rfl, own_litG w _ 1⟩, (Below.refl _ _).alloc (Nat.le_refl _) _⟩
  · by_cases hbig : 4000 < s.size
    · obtain ⟨e1, e2⟩ := ph_no (L := s.data.toList) (.inr (by rw [hL]; exact hbig))
      rw [e1, e2]
      rw [show s.size % 2 = 0 by omega] at hmod
      have hb2 : (4000 : Int) < (s.size : Int) := by omega
      clear e1 e2 hL
      go_enter Try.func33, Try.ntmps33
      go_wp2
      go_ret2
      exact ⟨_, _, rfl, ⟨rfl, own_litG w _ 1⟩, (Below.refl _ _).alloc (Nat.le_refl _) _⟩
    · have hev : ¬ (s.data.toList.length % 2 = 1 ∨ 4000 < s.data.toList.length) := by rw [hL]; omega
      rw [show s.size % 2 = 0 by omega] at hmod
      have hb2 : ¬ (4000 : Int) < (s.size : Int) := by omega
      obtain ⟨i0, hi, hz0, hz1, hz2⟩ := info_parts byte_info
      have HI0 := hid (And.intro hi (And.intro hz0 (And.intro hz1 hz2))); clear hi hz0 hz1 hz2
      have HD := hid (fun (n : Nat) (hn : n ≤ 255) => l1Digit_any n hn)
      have HL := hid hL; clear hL
      have HE := hid hev; clear hev
      have hsz : s.size ≤ 4000 := by omega
      have HO := hid hodd; clear hodd
      go_enter Try.func33, Try.ntmps33
      go_wp2
      go_loopw [4, 5, 6, 7] (fun o i _ _ wr => ∃ (j k : Nat) (l : List Int) (A : Option Addr) (c : Nat), j = 2 * k ∧ j ≤ s.size ∧ phTo s.data.toList k = some l ∧ l.length = k ∧ i = .int .i64 j ∧ o = .slice A l.length c ∧ wr.ownsRow w.heap.size 5 1 (.slice A l.length c) l.length (l.map bV) ∧ Below w.heap.size w wr) (fun _ i _ _ _ => s.size - (intOf i).toNat)
      case atStart => exact ⟨0, 0, [], _, 0, rfl, Nat.zero_le _, rfl, rfl, rfl, rfl, own_litG w _ 1, (Below.refl _ _).alloc (Nat.le_refl _) _⟩
      case round =>
        obtain ⟨j, k, l, A, c, hjk, hj, hp, hlk, rfl, rfl, hown, hbel⟩ := hrel
        have HP := hid hp; clear hp
        have HK := hid hjk; clear hjk
        have HLK := hid hlk; clear hlk
        have HOwn := hid hown; clear hown
        by_cases hlt : j < s.size
        · have hlt1 : j + 1 < s.size := by have := HK.out; have := HO.out; omega
          have x0 := bytes_getD s j hlt
          have x1 := bytes_getD s (j + 1) hlt1
          have q0 : (s[j]'hlt).toNat ≤ 255 := by have := (s[j]'hlt).toNat_lt; omega
          have q1 : (s[j + 1]'hlt1).toNat ≤ 255 := by have := (s[j + 1]'hlt1).toNat_lt; omega
          obtain ⟨n0, y0⟩ : ∃ n, (s[j]'hlt).toNat = n := ⟨_, rfl⟩
          obtain ⟨n1, y1⟩ : ∃ n, (s[j + 1]'hlt1).toNat = n := ⟨_, rfl⟩
          rw [y0] at q0
          rw [y1] at q1
          have z0 := y0
          have z1 := y1
          rw [x0] at z0
          rw [x1] at z1
          have HZ := hid (And.intro z0 z1)
          clear x0 x1 z0 z1
          have H0 := hid (HD.out n0 q0)
          have H1 := hid (HD.out n1 q1)
          have r0 := digN_rng n0
          have r1 := digN_rng n1
          obtain ⟨d0, hd0⟩ : ∃ d, digN n0 = d := ⟨_, rfl⟩
          obtain ⟨d1, hd1⟩ : ∃ d, digN n1 = d := ⟨_, rfl⟩
          rw [hd0] at H0 r0
          rw [hd1] at H1 r1
          have HDD := hid (And.intro hd0 hd1); clear hd0 hd1
          have hstep : phTo s.data.toList (k + 1) = if d0 < 0 ∨ d1 < 0 then none else some (l ++ [16 * d0 + d1]) := by
            rw [phTo, HP.out]
            simp only []
            rw [← HK.out, HZ.out.1, HZ.out.2, HDD.out.1, HDD.out.2]
          have HS := hid hstep; clear hstep
          have hlt2 : (j : Int) < (s.size : Int) := by omega
          have hlt3 : (j : Int) + 1 < (s.size : Int) := by omega
          by_cases hneg : d0 < 0 ∨ d1 < 0
          · have hn := HS.out
            rw [if_pos hneg] at hn
            obtain ⟨e1, e2⟩ := ph_none HE.out (k := k + 1) (by have := HK.out; have := HL.out; have := HO.out; omega) hn
            rw [e1, e2]
            clear hn e1 e2
            by_cases hd : d0 < 0
            all_goals
              try have hd1 : d1 < 0 := by omega
              clear hneg
              go_wp2_with (first | (go_at_call 56; (with_reducible refine (H0.out _).mono ?_); rintro e w' ⟨rfl, rfl⟩) | (go_at_call 56; (with_reducible refine (H1.out _).mono ?_); rintro e w' ⟨rfl, rfl⟩))
              go_ret2
              exact ⟨_, _, rfl, ⟨rfl, ownsRow_base (own_litG wr _ 1) hbel.size⟩, hbel.alloc hbel.size _⟩
          · have hs := HS.out
            rw [if_neg hneg] at hs
            have HS2 := hid hs; clear hs
            have hd0 : ¬ d0 < 0 := by omega
            have hd1 : ¬ d1 < 0 := by omega
            clear hneg
            have h1 : ∀ u ∈ [bV (16 * d0 + d1)], u.oneCell' = true := by intro u hu; simp at hu; subst hu; rfl
            have hlb : l.length ≤ 4000 := by have := HLK.out; have := HK.out; omega
            go_wp2_with (first | (go_at_call 56; (with_reducible refine (H0.out _).mono ?_); rintro e w' ⟨rfl, rfl⟩) | (go_at_call 56; (with_reducible refine (H1.out _).mono ?_); rintro e w' ⟨rfl, rfl⟩) | (at_builtin; refine wpList_append_any _ rfl _ _ 24 rfl w.heap.size 5 i0 (.int .u8 0) 1 1 Try.underlying24 HI0.out.1 HI0.out.2.1 HI0.out.2.2.1 HI0.out.2.2.2 rfl (by decide) _ _ _ rfl (HOwn.out.alloc _) (wr.heap.size + 1) _ 1 1 [bV (16 * d0 + d1)] rfl (reads_new wr #[bV (16 * d0 + d1)] 5 rfl) h1 (by unfold maxLen; omega) (by omega) (by have := hbel.size; simp; omega) ?_; intro v' w2 hown1 hg1 hat1; obtain ⟨A', c', rfl⟩ := ownsRow_form hown1; have hb2 := below_app hbel HOwn.out (Nat.le_refl _) hg1; have HOw2 := hid hown1; clear hown1 hg1 hat1))
            go_roundw
            case rel =>
              have h3 := HOw2.out
              exact ⟨j + 2, k + 1, l ++ [16 * d0 + d1], A', c', by have := HK.out; omega, by omega, HS2.out, by rw [List.length_append, HLK.out]; rfl, by go_num, by simp, by simpa using h3, hb2⟩
            case measure => simp [intOf]; omega
        · obtain ⟨n, hn⟩ : ∃ n, s.size = n := ⟨_, rfl⟩
          obtain rfl : j = n := by omega
          obtain ⟨e1, e2⟩ := ph_some HE.out (l := l) (by rw [HL.out, hn, HK.out, show 2 * k / 2 = k by omega]; exact HP.out)
          have E1 := hid e1
          have E2 := hid e2
          clear e1 e2
          go_wp2
          go_ret2
          rw [E1.out, E2.out]
          exact ⟨A, c, rfl, ⟨rfl, HOwn.out⟩, hbel⟩
set_option maxRecDepth 100000 in
set_option maxHeartbeats 2000000 in
theorem iParseHex_any (s : ByteArray) (hm : s.size ≤ maxLen) (w : World) : Calls Try.prog 34 #[.string s] w (MadeB2 w (phL s.data.toList) (phB s.data.toList)) := by
  have hL : s.data.toList.length = s.size := dl_len s
  unfold maxLen at hm
  have hmod : (s.size : Int).tmod 2 = ((s.size % 2 : Nat) : Int) := by rw [Int.tmod_eq_emod_of_nonneg (by omega)]; omega
  by_cases hodd : s.size % 2 = 1
  · obtain ⟨e1, e2⟩ := ph_no (L := s.data.toList) (.inl (by rw [hL]; exact hodd))
    rw [e1, e2]
    rw [hodd] at hmod
    clear e1 e2 hL
    go_enter Try.func34, Try.ntmps34
    go_wp2
    go_ret2
    exact ⟨_, _, rfl, OwnG.nil_ _ _ _ _, Below.refl _ _⟩
  · by_cases hbig : 4000 < s.size
    · obtain ⟨e1, e2⟩ := ph_no (L := s.data.toList) (.inr (by rw [hL]; exact hbig))
      rw [e1, e2]
      rw [show s.size % 2 = 0 by omega] at hmod
      have hb2 : (4000 : Int) < (s.size : Int) := by omega
      clear e1 e2 hL
      go_enter Try.func34, Try.ntmps34
      go_wp2
      go_ret2
      exact ⟨_, _, rfl, OwnG.nil_ _ _ _ _, Below.refl _ _⟩
    · have hev : ¬ (s.data.toList.length % 2 = 1 ∨ 4000 < s.data.toList.length) := by rw [hL]; omega
      rw [show s.size % 2 = 0 by omega] at hmod
      have hb2 : ¬ (4000 : Int) < (s.size : Int) := by omega
      obtain ⟨i0, hi, hz0, hz1, hz2⟩ := info_parts byte_info
      have HI0 := hid (And.intro hi (And.intro hz0 (And.intro hz1 hz2))); clear hi hz0 hz1 hz2
      have HD := hid (fun (x : UInt8) (n : Nat) (hn : x.toNat = n) => idx_any x n hn)
      have HL := hid hL; clear hL
      have HE := hid hev; clear hev
      have hsz : s.size ≤ 4000 := by omega
      have HO := hid hodd; clear hodd
      go_enter Try.func34, Try.ntmps34
      go_wp2
      go_loopw [4, 5, 6, 7] (fun o i _ _ wr => ∃ (j k : Nat) (l : List Int) (A : Option Addr) (c : Nat), j = 2 * k ∧ j ≤ s.size ∧ phTo s.data.toList k = some l ∧ l.length = k ∧ i = .int .i64 j ∧ o = .slice A l.length c ∧ wr.ownsRow w.heap.size 5 1 (.slice A l.length c) l.length (l.map bV) ∧ Below w.heap.size w wr) (fun _ i _ _ _ => s.size - (intOf i).toNat)
      case atStart => exact ⟨0, 0, [], none, 0, rfl, Nat.zero_le _, rfl, rfl, rfl, rfl, World.ownsRow_nil _ _ _ _, Below.refl _ _⟩
      case round =>
        obtain ⟨j, k, l, A, c, hjk, hj, hp, hlk, rfl, rfl, hown, hbel⟩ := hrel
        have HP := hid hp; clear hp
        have HK := hid hjk; clear hjk
        have HLK := hid hlk; clear hlk
        have HOwn := hid hown; clear hown
        by_cases hlt : j < s.size
        · have hlt1 : j + 1 < s.size := by have := HK.out; have := HO.out; omega
          have x0 := bytes_getD s j hlt
          have x1 := bytes_getD s (j + 1) hlt1
          obtain ⟨n0, y0⟩ : ∃ n, (s[j]'hlt).toNat = n := ⟨_, rfl⟩
          obtain ⟨n1, y1⟩ : ∃ n, (s[j + 1]'hlt1).toNat = n := ⟨_, rfl⟩
          have H0 := hid (HD.out _ n0 y0)
          have H1 := hid (HD.out _ n1 y1)
          have z0 := y0
          have z1 := y1
          rw [x0] at z0
          rw [x1] at z1
          have HZ := hid (And.intro z0 z1)
          clear x0 x1 z0 z1
          have r0 := digN_rng n0
          have r1 := digN_rng n1
          obtain ⟨d0, hd0⟩ : ∃ d, digN n0 = d := ⟨_, rfl⟩
          obtain ⟨d1, hd1⟩ : ∃ d, digN n1 = d := ⟨_, rfl⟩
          rw [hd0] at H0 r0
          rw [hd1] at H1 r1
          have HDD := hid (And.intro hd0 hd1); clear hd0 hd1
          have hstep : phTo s.data.toList (k + 1) = if d0 < 0 ∨ d1 < 0 then none else some (l ++ [16 * d0 + d1]) := by
            rw [phTo, HP.out]
            simp only []
            rw [← HK.out, HZ.out.1, HZ.out.2, HDD.out.1, HDD.out.2]
          have HS := hid hstep; clear hstep
          have hlt2 : (j : Int) < (s.size : Int) := by omega
          have hlt3 : (j : Int) + 1 < (s.size : Int) := by omega
          by_cases hneg : d0 < 0 ∨ d1 < 0
          · have hn := HS.out
            rw [if_pos hneg] at hn
            obtain ⟨e1, e2⟩ := ph_none HE.out (k := k + 1) (by have := HK.out; have := HL.out; have := HO.out; omega) hn
            rw [e1, e2]
            clear hn e1 e2
            by_cases hd : d0 < 0
            all_goals
              try have hd1 : d1 < 0 := by omega
              clear hneg
              go_wp2_with fail
              go_quiet (first | ((with_reducible refine (H0.out _).mono ?_); rintro e w' ⟨rfl, rfl⟩; exact ⟨rfl, _, rfl⟩) | ((with_reducible refine (H1.out _).mono ?_); rintro e w' ⟨rfl, rfl⟩; exact ⟨rfl, _, rfl⟩))
              go_wp2
              go_ret2
              exact ⟨_, _, rfl, OwnG.nil_ _ _ _ _, below_drewN hbel _⟩
          · have hs := HS.out
            rw [if_neg hneg] at hs
            have HS2 := hid hs; clear hs
            have hd0 : ¬ d0 < 0 := by omega
            have hd1 : ¬ d1 < 0 := by omega
            clear hneg
            have h1 : ∀ u ∈ [bV (16 * d0 + d1)], u.oneCell' = true := by intro u hu; simp at hu; subst hu; rfl
            have hlb : l.length ≤ 4000 := by have := HLK.out; have := HK.out; omega
            go_wp2_with fail
            go_quiet (first | ((with_reducible refine (H0.out _).mono ?_); rintro e w' ⟨rfl, rfl⟩; exact ⟨rfl, _, rfl⟩) | ((with_reducible refine (H1.out _).mono ?_); rintro e w' ⟨rfl, rfl⟩; exact ⟨rfl, _, rfl⟩))
            have HOwD := hid (ownsRow_drewN HOwn.out nq)
            have hbd := below_drewN hbel nq
            clear hbel HOwn
            generalize wr.drewN nq = wd at *
            go_wp2_with (at_builtin; refine wpList_append_any _ rfl _ _ 24 rfl w.heap.size 5 i0 (.int .u8 0) 1 1 Try.underlying24 HI0.out.1 HI0.out.2.1 HI0.out.2.2.1 HI0.out.2.2.2 rfl (by decide) _ _ _ rfl (HOwD.out.alloc _) (wd.heap.size + 1) _ 1 1 [bV (16 * d0 + d1)] rfl (reads_new wd #[bV (16 * d0 + d1)] 5 rfl) h1 (by unfold maxLen; omega) (by omega) (by have := hbd.size; simp; omega) ?_; intro v' w2 hown1 hg1 hat1; obtain ⟨A', c', rfl⟩ := ownsRow_form hown1; have hb2 := below_app hbd HOwD.out (Nat.le_refl _) hg1; have HOw2 := hid hown1; clear hown1 hg1 hat1)
            go_roundw
            case rel =>
              have h3 := HOw2.out
              exact ⟨j + 2, k + 1, l ++ [16 * d0 + d1], A', c', by have := HK.out; omega, by omega, HS2.out, by rw [List.length_append, HLK.out]; rfl, by go_num, by simp, by simpa using h3, hb2⟩
            case measure => simp [intOf]; omega
        · obtain ⟨n, hn⟩ : ∃ n, s.size = n := ⟨_, rfl⟩
          obtain rfl : j = n := by omega
          obtain ⟨e1, e2⟩ := ph_some HE.out (l := l) (by rw [HL.out, hn, HK.out, show 2 * k / 2 = k by omega]; exact HP.out)
          have E1 := hid e1
          have E2 := hid e2
          clear e1 e2
          go_wp2
          go_ret2
          rw [E1.out, E2.out]
          exact ⟨A, c, rfl, ⟨rfl, HOwn.out⟩, hbel⟩
set_option maxRecDepth 100000 in
set_option maxHeartbeats 1000000 in
theorem walk_FnExactParseHex (s : ByteArray) (hm : s.size ≤ maxLen) (w : World) :
    Calls Try.prog 9 #[.string s] w fun e w' => e = .returned (.bool true) ∧ Below w.heap.size w w' := by
  have HS := hid (sParseHex_any s hm)
  have HI := hid (iParseHex_any s hm)
  have hlen := phL_len s.data.toList
  generalize phL s.data.toList = ps at *
  generalize phB s.data.toList = ok at *
  have HN : ps.length ≤ 1048576 := by omega
  clear hlen
  unfold maxLen at hm
  by_cases hbig : 1048576 < s.size
  · go_enter Try.func9, Try.ntmps9
    go_wp2
    go_ret
    exact ⟨rfl, Below.refl _ _⟩
  · go_enter Try.func9, Try.ntmps9
    go_wp2_with fail
    refine (HS.out _).mono ?_
    rintro e w1 ⟨A1, c1, rfl, ho1, hb1⟩
    have HO1 := hid ho1; clear ho1
    have HB1 := hid hb1; clear hb1
    go_wp2_with fail
    refine (HI.out _).mono ?_
    rintro e w2 ⟨A2, c2, rfl, ho2, hb2⟩
    have HO2 := hid ho2; clear ho2
    have HB2 := hid (Below.step HB1.out hb2)
    have HO12 := hid (HO1.out.below hb2); clear hb2
    go_wp2_with fail
    refine (eqByteS_same HO2.out.rd HO12.out.rd HN).mono ?_
    rintro e w3 ⟨rfl, hb3⟩
    have HO13 := hid (HO12.out.below hb3)
    have HO23 := hid (HO2.out.below hb3)
    have HB3 := hid (Below.step HB2.out hb3); clear hb3
    go_wp2_with fail
    refine (markByteS_any HO23.out HN 1 (by omega) (by omega)).mono ?_
    rintro e w4 ⟨rfl, ho4, hg4⟩
    have hap := ownsRow_apart HO1.out.2 HO2.out.2 (Nat.le_refl _)
    have HO14 := hid (HO13.out.keptL hg4 hap)
    have HB4 := hid (below_of_grown HB3.out HO23.out.2 HB1.out.size hg4)
    have HO4 := hid ho4; clear ho4 hg4 hap
    go_wp2_with fail
    refine (heldByteS_any HO4.out.rd HN (by omega) (by omega)).mono ?_
    rintro e w' ⟨rfl, rfl⟩
    go_wp2_with fail
    refine (HI.out _).mono ?_
    rintro e w6 ⟨A6, c6, rfl, ho6, hb6⟩
    have HO6 := hid ho6; clear ho6
    have HO16 := hid (HO14.out.below hb6)
    have HO56 := hid (HO4.out.below hb6)
    have HB6 := hid (Below.step HB4.out hb6); clear hb6
    go_wp2_with fail
    refine (eqByteS_same HO6.out.rd HO16.out.rd HN).mono ?_
    rintro e w7 ⟨rfl, hb7⟩
    have HO57 := hid (HO56.out.below hb7)
    have HB7 := hid (Below.step HB6.out hb7); clear hb7
    go_wp2_with fail
    refine (heldByteS_any HO57.out.rd HN (by omega) (by omega)).mono ?_
    rintro e w' ⟨rfl, rfl⟩
    go_wp2
    go_ret
    exact ⟨rfl, HB7.out⟩
end Go.Proofs.Ytkfpnckhfdmjfaa
