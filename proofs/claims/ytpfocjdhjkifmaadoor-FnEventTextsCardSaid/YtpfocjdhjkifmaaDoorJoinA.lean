/- Texts joined: by contract in the reference. Conditions: the parts and what is between them have at most 2^46 bytes in all. -/
import Derived.Test.YtpfocjdhjkifmaaDoorTxtA
import Derived.Test.YtpfocjdhjkifmaaDoorShelf
import Derived.Test.YtpfocjdhjkifmaaDoorTxtMath
import Derived.Lib.AppendStr
import Derived.Laws.BytesArg
namespace Go.Proofs.YtpfocjdhjkifmaaDoor
open Go.RowKit
set_option linter.unusedVariables false

theorem byte_info' : (Tryd.prog.info? 5).map (fun i => (i.zero, i.size, i.bytes)) = some (some (.int .u8 0), 1, 1) := by kernel_rfl
/-- Bytes as cells. -/
def cB (l : List UInt8) : List Value := l.map fun b => Value.int .u8 b.toNat
theorem cB_app (a b : List UInt8) : cB (a ++ b) = cB a ++ cB b := by unfold cB; simp
theorem cB_str (s : ByteArray) : Lib.strCells s = cB s.data.toList := rfl
theorem cB_len (l : List UInt8) : (cB l).length = l.length := by unfold cB; simp
theorem dl_len (s : ByteArray) : s.data.toList.length = s.size := by rw [Array.length_toList]; rfl
set_option maxRecDepth 100000 in
/-- 'string(b)' of a slice that the call has made. -/
theorem conv_own {w : World} {base : Nat} {A : Option Addr} {c : Nat} {L : List UInt8} {src dst e : TypeId} (h : w.ownsRow base e 1 (.slice A L.length c) L.length (cB L))
    (hs : Tryd.prog.underlying src = some (.slice e)) (he : Tryd.prog.underlying e = some (.int .u8)) (hd : Tryd.prog.underlying dst = some .string) :
    (convert src dst (.slice A L.length c)).run Tryd.prog w = .ok (.string (st L)) w := by
  rcases A with _ | ad
  · have h0 : L.length = 0 := by
      rcases h.2 with ⟨_, h0⟩ | ⟨g, cap, cur, hv, _⟩
      · exact h0
      · cases hv
    have : L = [] := List.eq_nil_of_length_eq_zero h0
    subst this
    exact run_convert_bytes_nil w src e hs he _ _ dst hd
  · refine run_convert_bytes_back w src dst e ad c L hs he hd (fun j hj => ?_)
    rcases h.2 with ⟨hv, _⟩ | ⟨g, cap, cur, hv, _⟩
    · cases hv
    · injection hv with h1
      injection h1 with h1
      subst h1
      exact h.cells (g := g) rfl j _ (by unfold cB; rw [List.getElem?_map, List.getElem?_eq_getElem hj]; rfl)
/-- What has been joined of the first j parts. -/
def joT (xs : List ByteArray) (sep : ByteArray) (j : Nat) : List UInt8 := Lib.join ((xs.take j).map (fun s => s.data.toList)) sep.data.toList
def sumT (xs : List ByteArray) (j : Nat) : Nat := ((xs.take j).map (fun s => s.size)).sum
theorem sumT_succ (xs : List ByteArray) (j : Nat) (h : j < xs.length) : sumT xs (j + 1) = sumT xs j + (xs.getD j ByteArray.empty).size := by
  unfold sumT
  rw [List.take_succ_eq_append_getElem h, List.map_append, List.sum_append, List.getD_eq_getElem?_getD, List.getElem?_eq_getElem h]
  simp
theorem sumT_le (xs : List ByteArray) {j k : Nat} (h : j ≤ k) (hk : k ≤ xs.length) : sumT xs j ≤ sumT xs k := by
  induction k with
  | zero => obtain rfl : j = 0 := by omega
            exact Nat.le_refl _
  | succ k ih =>
    by_cases e : j = k + 1
    · subst e; exact Nat.le_refl _
    · have := ih (by omega) (by omega)
      rw [sumT_succ xs k (by omega)]; omega
theorem joT_zero (xs : List ByteArray) (sep : ByteArray) : joT xs sep 0 = [] := rfl
theorem joT_one (xs : List ByteArray) (sep : ByteArray) (h : 0 < xs.length) : joT xs sep 1 = (xs.getD 0 ByteArray.empty).data.toList := by
  unfold joT
  rw [List.take_succ_eq_append_getElem h, List.getD_eq_getElem?_getD, List.getElem?_eq_getElem h]
  simp [Lib.join_one]
theorem joT_succ (xs : List ByteArray) (sep : ByteArray) (j : Nat) (h : j < xs.length) (h0 : 0 < j) : joT xs sep (j + 1) = joT xs sep j ++ sep.data.toList ++ (xs.getD j ByteArray.empty).data.toList := by
  unfold joT
  rw [List.take_succ_eq_append_getElem h, List.map_append, List.getD_eq_getElem?_getD, List.getElem?_eq_getElem h, List.map_cons, List.map_nil, TX.join_snoc, if_neg]
  · simp
  · intro e
    have := congrArg List.length e
    rw [List.length_map, List.length_take, List.length_nil] at this
    omega
theorem joT_len (xs : List ByteArray) (sep : ByteArray) : ∀ j, j ≤ xs.length → (joT xs sep j).length ≤ j * sep.size + sumT xs j
  | 0, _ => by rw [joT_zero]; simp
  | j + 1, h => by
    have ih := joT_len xs sep j (by omega)
    rw [sumT_succ xs j (by omega), Nat.succ_mul]
    by_cases h0 : j = 0
    · subst h0
      rw [joT_one xs sep (by omega), dl_len]; omega
    · rw [joT_succ xs sep j (by omega) (by omega), List.length_append, List.length_append, dl_len, dl_len]; omega
theorem joT_all (xs : List ByteArray) (sep : ByteArray) : joT xs sep xs.length = Lib.join (xs.map (fun s => s.data.toList)) sep.data.toList := by unfold joT; rw [List.take_length]

set_option maxRecDepth 100000 in
set_option maxHeartbeats 1000000 in
theorem sJoinText_any {w : World} {A : Option Addr} {n cap : Nat} {xs : List ByteArray} (h : RdT w A n xs) (sep : ByteArray) (hb : n * sep.size + sumT xs n ≤ 70368744177664) (hse : sep.size ≤ 70368744177664) (hn : n ≤ 70368744177664) :
    Calls Tryd.prog 47 #[.slice A n cap, .string sep] w fun e w' => e = .returned (.string (st (Lib.join (xs.map (fun s => s.data.toList)) sep.data.toList))) ∧ Below w.heap.size w w' := by
  obtain ⟨i0, hi, hz0, hz1, hz2⟩ := info_parts byte_info'
  have HI0 := hid (And.intro hi (And.intro hz0 (And.intro hz1 hz2))); clear hi hz0 hz1 hz2
  have hl := h.1
  have HR := hid h; clear h
  have HJ := hid (fun (j : Nat) (hj : j ≤ n) => by
    have h1 := joT_len xs sep j (by omega)
    have h2 := sumT_le xs hj (by omega)
    have h3 : j * sep.size ≤ n * sep.size := Nat.mul_le_mul_right _ hj
    exact (show (joT xs sep j).length ≤ 70368744177664 by omega))
  have HS := hid (fun (j : Nat) (hj : j < n) => by
    have h1 := sumT_succ xs j (by omega)
    have h2 := sumT_le xs (show j + 1 ≤ n by omega) (by omega)
    exact (show (xs.getD j ByteArray.empty).size ≤ 70368744177664 by omega))
  have HL := hid hl; clear hl hb
  go_enter Tryd.func47, Tryd.ntmps47
  go_wp2_with fail
  go_loopw [5, 6] (fun o i wr => ∃ (j : Nat) (A : Option Addr) (c : Nat), j ≤ n ∧ i = .int .i64 j ∧ o = .slice A (joT xs sep j).length c ∧ wr.ownsRow w.heap.size 5 1 (.slice A (joT xs sep j).length c) (joT xs sep j).length (cB (joT xs sep j)) ∧ Below w.heap.size w wr) (fun _ i _ => n - (intOf i).toNat)
  case atStart => exact ⟨0, _, 0, Nat.zero_le _, rfl, rfl, own_litG w _ 1, (Below.refl _ _).alloc (Nat.le_refl _) _⟩
  case round =>
    obtain ⟨j, A0, c, hj, rfl, rfl, hown, hbel⟩ := hrel
    have hjl := HJ.out j hj
    by_cases hlt : j < n
    · obtain ⟨ad, rfl, hc⟩ := (HR.out.below hbel).at_ ByteArray.empty hlt
      have hc : wr.cell? (ad.add j) = some (.string (xs.getD j ByteArray.empty)) := hc
      have hab := World.block_lt_of_cell? _ _ hc
      have HC : Hid (∀ (W : World), Below w.heap.size w W → W.cell? (ad.add j) = some (.string (xs.getD j ByteArray.empty))) := hid (fun W hb => by
        obtain ⟨a', e, h⟩ := (HR.out.below hb).at_ ByteArray.empty hlt
        injection e with e
        subst e
        exact h)
      have hxs := HS.out j hlt
      have HOwn := hid hown; clear hown
      have hlt2 : (j : Int) < (n : Int) := by omega
      by_cases h0 : j = 0
      · have hq : joT xs sep (j + 1) = joT xs sep j ++ (xs.getD j ByteArray.empty).data.toList := by subst h0; rw [joT_one xs sep (by rw [HL.out]; exact hlt), joT_zero]; rfl
        have HQ := hid hq; clear hq
        have h02 : ¬ (0 : Int) < (j : Int) := by omega
        have h03 : ¬ 0 < j := by omega
        have H0 := hid h0; clear h0
        generalize xs.getD j ByteArray.empty = x at *
        obtain ⟨L, hL⟩ : ∃ L, joT xs sep j = L := ⟨_, rfl⟩
        rw [hL] at HOwn HQ hjl ⊢
        clear hL
        go_wp2_with (at_builtin; refine Lib.wpList_append_own_string _ rfl _ _ 41 9 rfl w.heap.size 5 i0 Tryd.underlying41 Tryd.underlying9 HI0.out.1 HI0.out.2.1 HI0.out.2.2.1 HI0.out.2.2.2 _ _ _ rfl HOwn.out x rfl (by unfold maxLen; omega) (by omega) hbel.size ?_; intro v' w2 hown1 hg1 hat1; obtain ⟨A', c', rfl⟩ := ownsRow_form hown1; have hb2 := below_of_grown hbel HOwn.out (Nat.le_refl _) hg1; have HOw2 := hid hown1; clear hown1 hg1 hat1)
        go_roundw
        case rel =>
          refine ⟨j + 1, A', c', by omega, by go_num, by rw [HQ.out, List.length_append, dl_len], ?_, hb2⟩
          have := HOw2.out
          rw [HQ.out, List.length_append, dl_len, cB_app, ← cB_str]; exact this
        case measure => simp [intOf]; omega
      · have hq := joT_succ xs sep j (by rw [HL.out]; exact hlt) (by omega)
        have HQ := hid hq; clear hq
        have h02 : (0 : Int) < (j : Int) := by omega
        have H0 := hid h0; clear h0
        generalize xs.getD j ByteArray.empty = x at *
        obtain ⟨L, hL⟩ : ∃ L, joT xs sep j = L := ⟨_, rfl⟩
        rw [hL] at HOwn HQ hjl ⊢
        have hj3 := HJ.out (j + 1) hlt
        rw [HQ.out, List.length_append, List.length_append, dl_len, dl_len] at hj3
        clear hL
        go_wp2_with (first | (at_builtin; refine Lib.wpList_append_own_string _ rfl _ _ 41 9 rfl w.heap.size 5 i0 Tryd.underlying41 Tryd.underlying9 HI0.out.1 HI0.out.2.1 HI0.out.2.2.1 HI0.out.2.2.2 (.slice A0 L.length c) _ _ rfl HOwn.out sep rfl (by unfold maxLen; omega) (by omega) hbel.size ?_; intro v' w2 hown1 hg1 hat1; obtain ⟨A', c', rfl⟩ := ownsRow_form hown1; have hb2 := below_of_grown hbel HOwn.out (Nat.le_refl _) hg1; have HOw2 := hid hown1; have hc2 := HC.out _ hb2; clear hown1 hg1 hat1) | (at_builtin; (refine Lib.wpList_append_own_string _ rfl _ _ 41 9 rfl w.heap.size 5 i0 Tryd.underlying41 Tryd.underlying9 HI0.out.1 HI0.out.2.1 HI0.out.2.2.1 HI0.out.2.2.2 _ _ _ rfl HOw2.out x rfl (by unfold maxLen; omega) (by omega) hb2.size ?_; intro v' w3 hown1 hg1 hat1; obtain ⟨A'', c'', rfl⟩ := ownsRow_form hown1; have hb3 := below_of_grown hb2 HOw2.out (Nat.le_refl _) hg1; have HOw3 := hid hown1; clear hown1 hg1 hat1)))
        go_roundw
        case rel =>
          refine ⟨j + 1, A'', c'', by omega, by go_num, by rw [HQ.out, List.length_append, List.length_append, dl_len, dl_len], ?_, hb3⟩
          have := HOw3.out
          rw [HQ.out, List.length_append, List.length_append, dl_len, dl_len, cB_app, cB_app, ← cB_str, ← cB_str]; exact this
        case measure => simp [intOf]; omega
    · obtain rfl : j = n := by omega
      have hcv := conv_own (src := 41) (dst := 9) hown Tryd.underlying41 Tryd.underlying5 Tryd.underlying9
      go_wp2
      go_ret
      refine ⟨?_, hbel⟩
      rw [← HL.out, joT_all]; rfl
/-- The program's JoinText, by the shelf's contract. -/
theorem iJoinText_any {w : World} {base : Nat} {A : Option Addr} {n cap : Nat} {xs : List ByteArray} (h : OwnT w base A n cap xs) (sep : ByteArray) (hb : n * sep.size + sumT xs n ≤ 70368744177664) (hn : n ≤ 70368744177664) :
    Calls Tryd.prog 50 #[.slice A n cap, .string sep] w fun e w' => e = .returned (.string (st (Lib.join (xs.map (fun s => s.data.toList)) sep.data.toList))) ∧ Below w.heap.size w w' := by
  have hl := h.1
  have hj : (Lib.join (xs.map (fun s => s.data.toList)) sep.data.toList).length ≤ 140737488355328 := by
    rw [← joT_all]
    have := joT_len xs sep xs.length (Nat.le_refl _)
    rw [hl] at this ⊢; omega
  by_cases h0 : n = 0
  · subst h0
    obtain rfl : xs = [] := List.eq_nil_of_length_eq_zero hl
    have HJ := hid (fun (c : Nat) => Tryd.strings_Join_none A c sep)
    clear h hj hb
    go_enter Tryd.func50, Tryd.ntmps50
    go_wp2_with fail
    refine (HJ.out _ _).mono ?_
    rintro e w1 ⟨rfl, rfl⟩
    go_wp2
    go_ret
    exact ⟨rfl, Below.refl _ _⟩
  · obtain ⟨g, c', cur, hv, hbg, hg, hnc, _⟩ : ∃ (g c' : Nat) (cur : Array Value), Value.slice A n cap = .slice (some ⟨g, 0, none⟩) n c' ∧ base ≤ g ∧ w.heap[g]? = some (.cells cur 9 (0, 0)) ∧ n ≤ c' ∧ True := by
      rcases h.2.2 with ⟨_, h2⟩ | ⟨g, c', cur, hv, hbg, hg, hnc, _⟩
      · exact absurd h2 h0
      · exact ⟨g, c', cur, hv, hbg, hg, hnc, trivial⟩
    injection hv with e1 e2 e3
    subst e1 e3
    have hgl : g < w.heap.size := (h.2.lt g rfl).2
    have hq : ∀ (j : Nat) x, xs[j]? = some x → w.cell? ⟨g, 0 + j, none⟩ = some (.string x) := by
      intro j x hx
      have := h.2.cells (g := g) rfl j (.string x) (by rw [List.getElem?_map, hx]; rfl)
      unfold Addr.add at this
      by_cases e : j = 0
      · subst e; simpa using this
      · simpa [e] using this
    have HJ := hid (Tryd.strings_Join g 0 cap xs sep w hq hgl (by omega) (by omega) hj)
    rw [hl] at HJ
    clear hq h hj hb hg
    go_enter Tryd.func50, Tryd.ntmps50
    go_wp2_with fail
    refine HJ.out.mono ?_
    rintro e w1 ⟨rfl, hb1⟩
    go_wp2
    go_ret
    exact ⟨rfl, hb1⟩
end Go.Proofs.YtpfocjdhjkifmaaDoor
