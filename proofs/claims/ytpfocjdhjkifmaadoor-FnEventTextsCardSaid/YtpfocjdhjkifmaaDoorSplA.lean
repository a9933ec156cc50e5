/- A text divided at a byte: by contract in both programs. Conditions: a text of at most 2^40 bytes. -/
import Derived.Test.YtpfocjdhjkifmaaDoorTxtA
import Derived.Test.YtpfocjdhjkifmaaDoorTxtMath
namespace Go.Proofs.YtpfocjdhjkifmaaDoor
open Go.RowKit
set_option linter.unusedVariables false

theorem bytes_get (s : ByteArray) (j : Nat) (h : j < s.size) : s[j]'h = s.data.toList[j]'(by rw [Array.length_toList]; exact h) := by
  rw [Array.getElem_toList]; rfl
theorem extract_st (s : ByteArray) (a b : Nat) : s.extract a b = st ((s.data.toList.drop a).take (b - a)) := ByteArray.extract_mk s.data.toList a b
/-- What holds at byte j: the parts that are finished, where the next one begins. -/
structure SplI (b : UInt8) (L : List UInt8) (j fr : Nat) (D : List (List UInt8)) : Prop where
  le : fr ≤ j
  d : (TX.spS b (L.take j)).1 = D
  cur : (TX.spS b (L.take j)).2 = (L.drop fr).take (j - fr)
theorem SplI.zero (b : UInt8) (L : List UInt8) : SplI b L 0 0 [] := ⟨Nat.le_refl _, by simp [TX.spS], by simp [TX.spS]⟩
theorem SplI.len {b : UInt8} {L : List UInt8} {j fr : Nat} {D : List (List UInt8)} (h : SplI b L j fr D) : D.length ≤ j := by
  have := TX.spS_len b (L.take j)
  rw [h.d, List.length_take] at this; omega
theorem take_snoc {L : List UInt8} {j : Nat} (h : j < L.length) : L.take (j + 1) = L.take j ++ [L[j]] := by rw [List.take_succ_eq_append_getElem h]
theorem SplI.yes {b : UInt8} {L : List UInt8} {j fr : Nat} {D : List (List UInt8)} (h : SplI b L j fr D) (hj : j < L.length) (e : L[j] = b) : SplI b L (j + 1) (j + 1) (D ++ [(L.drop fr).take (j - fr)]) := by
  have h1 : TX.spS b (L.take (j + 1)) = (D ++ [(L.drop fr).take (j - fr)], []) := by
    rw [take_snoc hj, TX.spS_snoc]; unfold TX.stp; rw [if_pos e, h.d, h.cur]
  exact ⟨Nat.le_refl _, by rw [h1], by rw [h1]; simp⟩
theorem SplI.no {b : UInt8} {L : List UInt8} {j fr : Nat} {D : List (List UInt8)} (h : SplI b L j fr D) (hj : j < L.length) (e : ¬ L[j] = b) : SplI b L (j + 1) fr D := by
  have hle := h.le
  have h1 : TX.spS b (L.take (j + 1)) = (D, (L.drop fr).take (j + 1 - fr)) := by
    rw [take_snoc hj, TX.spS_snoc]; unfold TX.stp; rw [if_neg e, h.d, h.cur]
    have : j + 1 - fr = (j - fr) + 1 := by omega
    rw [this, List.take_succ_eq_append_getElem (by rw [List.length_drop]; omega), List.getElem_drop]
    simp only [Nat.add_sub_cancel' hle]
  exact ⟨by omega, by rw [h1], by rw [h1]⟩
theorem SplI.done {b : UInt8} {L : List UInt8} {j fr : Nat} {D : List (List UInt8)} (h : SplI b L j fr D) (hj : j = L.length) : TX.parts b L = D ++ [(L.drop fr).take (j - fr)] := by
  subst hj
  have h1 := h.d
  have h2 := h.cur
  rw [List.take_length] at h1 h2
  unfold TX.parts
  rw [h1, h2]

set_option maxRecDepth 100000 in
set_option maxHeartbeats 1000000 in
theorem iSplitText_any (s : ByteArray) (b : UInt8) (bn : Nat) (hbn : b.toNat = bn) (hs : s.size ≤ 1099511627776) (w : World) : Calls Tryd.prog 61 #[.string s, .int .u8 bn] w (MadeT w ((TX.parts b s.data.toList).map st)) := by
  obtain ⟨i0, hi, hz0, hz1, hz2⟩ := info_parts string_info
  have HI0 := hid (And.intro hi (And.intro hz0 (And.intro hz1 hz2))); clear hi hz0 hz1 hz2
  have HB := hid hbn; clear hbn
  have hL : s.data.toList.length = s.size := by rw [Array.length_toList]; rfl
  have HL := hid hL; clear hL
  go_enter Tryd.func61, Tryd.ntmps61
  go_wp2_with fail
  go_loopw [5, 6, 7] (fun o f i wr => ∃ (j fr : Nat) (D : List (List UInt8)) (A : Option Addr) (c : Nat), j ≤ s.size ∧ i = .int .i64 j ∧ f = .int .i64 fr ∧ o = .slice A D.length c ∧ SplI b s.data.toList j fr D ∧
    wr.ownsRow w.heap.size 9 1 (.slice A D.length c) D.length ((D.map st).map sV) ∧ Below w.heap.size w wr) (fun _ _ i _ => s.size - (intOf i).toNat)
  case atStart => exact ⟨0, 0, [], none, 0, Nat.zero_le _, rfl, rfl, rfl, SplI.zero _ _, World.ownsRow_nil _ _ _ _, Below.refl _ _⟩
  case round =>
    obtain ⟨j, fr, D, A, c, hj, rfl, rfl, rfl, hsp, hown, hbel⟩ := hrel
    have hfr := hsp.le
    have hdl := hsp.len
    have HSP := hid hsp; clear hsp
    have HOwn := hid hown; clear hown
    by_cases hlt : j < s.size
    · have hx := bytes_get s j hlt
      have hlt2 : (j : Int) < (s.size : Int) := by omega
      have hex := extract_st s fr j
      have hjl : j < s.data.toList.length := by rw [HL.out]; exact hlt
      by_cases he : s.data.toList[j] = b
      · have hx2 : (s[j]'hlt).toNat = bn := by rw [hx, he]; exact HB.out
        clear hx
        have h1 : ∀ u ∈ [sV (st ((s.data.toList.drop fr).take (j - fr)))], u.oneCell' = true := by intro u hu; simp at hu; subst hu; rfl
        have HE : Hid (∃ h : j < s.data.toList.length, s.data.toList[j] = b) := hid ⟨hjl, he⟩; clear he hjl
        obtain ⟨pt, hP⟩ : ∃ pt, (s.data.toList.drop fr).take (j - fr) = pt := ⟨_, rfl⟩
        rw [hP] at hex h1
        have HP := hid hP; clear hP
        go_wp2_with (at_builtin; refine wpList_append_any _ rfl _ _ 57 rfl w.heap.size 9 i0 (.string ByteArray.empty) 1 16 Tryd.underlying57 HI0.out.1 HI0.out.2.1 HI0.out.2.2.1 HI0.out.2.2.2 rfl (by decide) _ _ _ rfl (HOwn.out.alloc _) (wr.heap.size + 1) _ 1 1 [sV (st pt)] rfl (reads_new wr #[sV (st pt)] 9 rfl) h1 (by unfold maxLen; omega) (by omega) (by have := hbel.size; simp; omega) ?_; intro v' w2 hown1 hg1 hat1; obtain ⟨A', c', rfl⟩ := ownsRow_form hown1; have hb2 := below_app hbel HOwn.out (Nat.le_refl _) hg1; have HOw2 := hid hown1; clear hown1 hg1 hat1)
        go_roundw
        case rel =>
          obtain ⟨hj1, he1⟩ := HE.out
          have h2 := HSP.out.yes hj1 he1
          rw [HP.out] at h2
          exact ⟨j + 1, j + 1, D ++ [pt], A', c', by omega, by go_num, by go_num, by simp, h2, by simpa using HOw2.out, hb2⟩
        case measure => simp [intOf]; omega
      · have hx2 : ¬ (s[j]'hlt).toNat = bn := by rw [hx, ← HB.out]; intro h; exact he (UInt8.toNat_inj.1 h)
        clear hx
        have HE : Hid (∃ h : j < s.data.toList.length, ¬ s.data.toList[j] = b) := hid ⟨hjl, he⟩; clear he hjl
        have hx3 : (((s[j]'hlt).toNat : Int) == (bn : Int)) = false := by rw [beq_eq_false_iff_ne]; intro h; exact hx2 (by omega)
        clear hx2
        go_wp2_with fail
        go_roundw
        case rel =>
          obtain ⟨hj1, he1⟩ := HE.out
          exact ⟨j + 1, fr, D, A, c, by omega, by go_num, rfl, rfl, HSP.out.no hj1 he1, HOwn.out, hbel⟩
        case measure => simp [intOf]; omega
    · obtain ⟨n, hn⟩ : ∃ n, s.size = n := ⟨_, rfl⟩
      obtain rfl : j = n := by omega
      have hd := HSP.out.done (by rw [HL.out]; exact hn.symm)
      have hex := extract_st s fr s.size
      rw [hn] at hex
      obtain ⟨pt, hP⟩ : ∃ pt, (s.data.toList.drop fr).take (j - fr) = pt := ⟨_, rfl⟩
      rw [hP] at hex hd
      have HD := hid hd; clear hd
      have HP := hid hP; clear hP
      have h1 : ∀ u ∈ [sV (st pt)], u.oneCell' = true := by intro u hu; simp at hu; subst hu; rfl
      go_wp2_with (at_builtin; refine wpList_append_any _ rfl _ _ 57 rfl w.heap.size 9 i0 (.string ByteArray.empty) 1 16 Tryd.underlying57 HI0.out.1 HI0.out.2.1 HI0.out.2.2.1 HI0.out.2.2.2 rfl (by decide) _ _ _ rfl (HOwn.out.alloc _) (wr.heap.size + 1) _ 1 1 [sV (st pt)] rfl (reads_new wr #[sV (st pt)] 9 rfl) h1 (by unfold maxLen; omega) (by omega) (by have := hbel.size; simp; omega) ?_; intro v' w2 hown1 hg1 hat1; obtain ⟨A', c', rfl⟩ := ownsRow_form hown1; have hb2 := below_app hbel HOwn.out (Nat.le_refl _) hg1; have HOw2 := hid hown1; clear hown1 hg1 hat1)
      go_ret
      rw [HD.out]
      exact ⟨A', c', by simp, ⟨by simp, by simpa using HOw2.out⟩, hb2⟩
set_option maxRecDepth 100000 in
set_option maxHeartbeats 1000000 in
theorem sSplitText_any (s : ByteArray) (b : UInt8) (bn : Nat) (hbn : b.toNat = bn) (hs : s.size ≤ 1099511627776) (w : World) : Calls Tryd.prog 65 #[.string s, .int .u8 bn] w (MadeT w ((TX.parts b s.data.toList).map st)) := by
  obtain ⟨i0, hi, hz0, hz1, hz2⟩ := info_parts string_info
  have HI0 := hid (And.intro hi (And.intro hz0 (And.intro hz1 hz2))); clear hi hz0 hz1 hz2
  have HB := hid hbn; clear hbn
  have hL : s.data.toList.length = s.size := by rw [Array.length_toList]; rfl
  have HL := hid hL; clear hL
  go_enter Tryd.func65, Tryd.ntmps65
  go_wp2_with fail
  go_loopw [5, 6, 7] (fun o f i wr => ∃ (j fr : Nat) (D : List (List UInt8)) (A : Option Addr) (c : Nat), i = .int .i64 j ∧ f = .int .i64 fr ∧ o = .slice A D.length c ∧
    ((j ≤ s.size ∧ SplI b s.data.toList j fr D) ∨ (j = s.size + 1 ∧ TX.parts b s.data.toList = D)) ∧
    wr.ownsRow w.heap.size 9 1 (.slice A D.length c) D.length ((D.map st).map sV) ∧ Below w.heap.size w wr) (fun _ _ i _ => s.size + 1 - (intOf i).toNat)
  case atStart => exact ⟨0, 0, [], _, 0, rfl, rfl, rfl, .inl ⟨Nat.zero_le _, SplI.zero _ _⟩, own_litG w _ 1, (Below.refl _ _).alloc (Nat.le_refl _) _⟩
  case round =>
    obtain ⟨j, fr, D, A, c, rfl, rfl, rfl, hsp, hown, hbel⟩ := hrel
    have HOwn := hid hown; clear hown
    rcases hsp with ⟨hj, hsp⟩ | ⟨hj, hsp⟩
    · have hfr := hsp.le
      have hdl := hsp.len
      have HSP := hid hsp; clear hsp
      have hj2 : (j : Int) ≤ (s.size : Int) := by omega
      have hex := extract_st s fr j
      by_cases hlt : j < s.size
      · have hx := bytes_get s j hlt
        have hlt2 : ((j : Int) == (s.size : Int)) = false := by rw [beq_eq_false_iff_ne]; omega
        have hlt3 : ¬ j = s.size := by omega
        have hjl : j < s.data.toList.length := by rw [HL.out]; exact hlt
        by_cases he : s.data.toList[j] = b
        · have hx2 : (s[j]'hlt).toNat = bn := by rw [hx, he]; exact HB.out
          clear hx
          have h1 : ∀ u ∈ [sV (st ((s.data.toList.drop fr).take (j - fr)))], u.oneCell' = true := by intro u hu; simp at hu; subst hu; rfl
          have HE : Hid (∃ h : j < s.data.toList.length, s.data.toList[j] = b) := hid ⟨hjl, he⟩; clear he hjl
          obtain ⟨pt, hP⟩ : ∃ pt, (s.data.toList.drop fr).take (j - fr) = pt := ⟨_, rfl⟩
          rw [hP] at hex h1
          have HP := hid hP; clear hP
          go_wp2_with (at_builtin; refine wpList_append_any _ rfl _ _ 57 rfl w.heap.size 9 i0 (.string ByteArray.empty) 1 16 Tryd.underlying57 HI0.out.1 HI0.out.2.1 HI0.out.2.2.1 HI0.out.2.2.2 rfl (by decide) _ _ _ rfl (HOwn.out.alloc _) (wr.heap.size + 1) _ 1 1 [sV (st pt)] rfl (reads_new wr #[sV (st pt)] 9 rfl) h1 (by unfold maxLen; omega) (by omega) (by have := hbel.size; simp; omega) ?_; intro v' w2 hown1 hg1 hat1; obtain ⟨A', c', rfl⟩ := ownsRow_form hown1; have hb2 := below_app hbel HOwn.out (Nat.le_refl _) hg1; have HOw2 := hid hown1; clear hown1 hg1 hat1)
          go_roundw
          case rel =>
            obtain ⟨hj1, he1⟩ := HE.out
            have h2 := HSP.out.yes hj1 he1
            rw [HP.out] at h2
            exact ⟨j + 1, j + 1, D ++ [pt], A', c', by go_num, by go_num, by simp, .inl ⟨by omega, h2⟩, by simpa using HOw2.out, hb2⟩
          case measure => simp [intOf]; omega
        · have hx2 : ¬ (s[j]'hlt).toNat = bn := by rw [hx, ← HB.out]; intro h; exact he (UInt8.toNat_inj.1 h)
          clear hx
          have HE : Hid (∃ h : j < s.data.toList.length, ¬ s.data.toList[j] = b) := hid ⟨hjl, he⟩; clear he hjl
          have hx3 : (((s[j]'hlt).toNat : Int) == (bn : Int)) = false := by rw [beq_eq_false_iff_ne]; intro h; exact hx2 (by omega)
          clear hx2
          go_wp2_with fail
          go_roundw
          case rel =>
            obtain ⟨hj1, he1⟩ := HE.out
            exact ⟨j + 1, fr, D, A, c, by go_num, rfl, rfl, .inl ⟨by omega, HSP.out.no hj1 he1⟩, HOwn.out, hbel⟩
          case measure => simp [intOf]; omega
      · obtain rfl : j = s.size := by omega
        have hd := HSP.out.done HL.out.symm
        obtain ⟨pt, hP⟩ : ∃ pt, (s.data.toList.drop fr).take (s.size - fr) = pt := ⟨_, rfl⟩
        rw [hP] at hex hd
        have HP := hid hP; clear hP
        have HD := hid hd; clear hd
        have h1 : ∀ u ∈ [sV (st pt)], u.oneCell' = true := by intro u hu; simp at hu; subst hu; rfl
        go_wp2_with (at_builtin; refine wpList_append_any _ rfl _ _ 57 rfl w.heap.size 9 i0 (.string ByteArray.empty) 1 16 Tryd.underlying57 HI0.out.1 HI0.out.2.1 HI0.out.2.2.1 HI0.out.2.2.2 rfl (by decide) _ _ _ rfl (HOwn.out.alloc _) (wr.heap.size + 1) _ 1 1 [sV (st pt)] rfl (reads_new wr #[sV (st pt)] 9 rfl) h1 (by unfold maxLen; omega) (by omega) (by have := hbel.size; simp; omega) ?_; intro v' w2 hown1 hg1 hat1; obtain ⟨A', c', rfl⟩ := ownsRow_form hown1; have hb2 := below_app hbel HOwn.out (Nat.le_refl _) hg1; have HOw2 := hid hown1; clear hown1 hg1 hat1)
        go_roundw
        case rel =>
          exact ⟨s.size + 1, s.size + 1, D ++ [pt], A', c', by simp, by simp, by simp, .inr ⟨rfl, HD.out⟩, by simpa using HOw2.out, hb2⟩
        case measure => first | (simp [intOf]; done) | (simp [intOf]; omega)
    · subst hj
      have HD := hid hsp; clear hsp
      go_wp2
      go_ret
      rw [HD.out]
      exact ⟨A, c, by simp, ⟨by simp, by simpa using HOwn.out⟩, hbel⟩
end Go.Proofs.YtpfocjdhjkifmaaDoor
