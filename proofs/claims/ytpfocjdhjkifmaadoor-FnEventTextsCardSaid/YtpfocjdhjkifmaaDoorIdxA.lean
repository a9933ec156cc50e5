/- The place of a text's first sign, by the library's IndexAny, at every text: by contract. Conditions: none. -/
import Derived.Test.YtpfocjdhjkifmaaDoorShelfI
import Derived.Test.YtpfocjdhjkifmaaDoorTxtA
import Derived.Test.YtpfocjdhjkifmaaDoorIdxM
import Derived.Laws.Runes
import Derived.Deep.LoopGhost
import Derived.Lib.OthersKept
import Derived.Deep.DeepCutAuto
namespace Go.Proofs.YtpfocjdhjkifmaaDoor
open Go.RowKit
set_option linter.unusedVariables false

abbrev sgns : ByteArray := ByteArray.mk #[43, 45]
set_option maxRecDepth 1000000 in
set_option maxHeartbeats 2000000 in
theorem idxRune_err (w : World) : Calls Tryd.prog 83 #[.string (ByteArray.mk #[43, 45]), .int .i32 65533] w fun e w' => e = .returned (.int .i64 (-1)) ∧ Below w.heap.size w w' := by
  have n0 : ∀ ty, (Instr.next (.pointer (some ⟨w.heap.size, 0, none⟩)) true ty).run Tryd.prog (w.iter (ByteArray.mk #[43, 45]) 0) = .ok (.tuple #[.bool true, .int .i64 0, .int .i32 43]) (w.iter (ByteArray.mk #[43, 45]) 1) := fun ty => run_next_ascii w (ByteArray.mk #[43, 45]) 0 ty (show 0 < 2 by decide) (show (43 : UInt8).toNat < 128 by decide)
  have n1 : ∀ ty, (Instr.next (.pointer (some ⟨w.heap.size, 0, none⟩)) true ty).run Tryd.prog (w.iter (ByteArray.mk #[43, 45]) 1) = .ok (.tuple #[.bool true, .int .i64 1, .int .i32 45]) (w.iter (ByteArray.mk #[43, 45]) 2) := fun ty => run_next_ascii w (ByteArray.mk #[43, 45]) 1 ty (show 1 < 2 by decide) (show (45 : UInt8).toNat < 128 by decide)
  have n2 : ∀ ty, (Instr.next (.pointer (some ⟨w.heap.size, 0, none⟩)) true ty).run Tryd.prog (w.iter (ByteArray.mk #[43, 45]) 2) = .ok (.tuple #[.bool false]) (w.iter (ByteArray.mk #[43, 45]) 2) := fun ty => run_next_end w (ByteArray.mk #[43, 45]) 2 ty (show ¬ 2 < 2 by decide)
  go_enter Tryd.func83, Tryd.ntmps83
  go_wp2_with fail
  go_loopg [5, 6] 2 (fun g _ _ wx => ∃ i : Nat, i + g = 2 ∧ wx = w.iter (ByteArray.mk #[43, 45]) i)
  case atStart => exact ⟨0, rfl, rfl⟩
  case round =>
    obtain ⟨i, hig, rfl⟩ := hrel
    have hi : i = 0 ∨ i = 1 ∨ i = 2 := by omega
    rcases hi with rfl | rfl | rfl
    · obtain rfl : gk = 2 := by omega
      go_wp2_with fail
      go_roundg 1
      case measure => omega
      case rel => exact ⟨1, rfl, rfl⟩
    · obtain rfl : gk = 1 := by omega
      go_wp2_with fail
      go_roundg 0
      case measure => omega
      case rel => exact ⟨2, rfl, rfl⟩
    · go_wp2_with fail
      go_ret
      exact ⟨rfl, (Below.refl _ _).alloc (Nat.le_refl _) _⟩
theorem valid_same (r : Int) : Lib.validRune r = Utf8.valid r := by
  unfold Lib.validRune Utf8.valid
  rw [Bool.eq_iff_iff]; simp; omega
set_option maxRecDepth 1000000 in
set_option maxHeartbeats 2000000 in
theorem idxRune_bad (r : Int) (h0 : 128 ≤ r) (hne : ¬ r = 65533) (hv : Utf8.valid r = false) (w : World) : Calls Tryd.prog 83 #[.string (ByteArray.mk #[43, 45]), .int .i32 r] w fun e w' => e = .returned (.int .i64 (-1)) ∧ Below w.heap.size w w' := by
  have HV := hid (fun (W : World) => (show Calls Tryd.prog 104 #[.int .i32 r] W fun e w' => e = .returned (.bool false) ∧ W = w' from by rw [← hv, ← valid_same]; exact (Tryd.utf8_ValidRune r W).mono fun e w' h => ⟨h.1, h.2.symm⟩))
  have h1 : ¬ r < 128 := by omega
  have h2 : 0 ≤ r := by omega
  have h3 : (r == 65533) = false := beq_eq_false_iff_ne.2 hne
  clear hv
  go_enter Tryd.func83, Tryd.ntmps83
  go_wp2_with (go_at_call 104; (with_reducible refine (HV.out _).mono ?_); rintro e w' ⟨rfl, rfl⟩)
  go_ret
  exact ⟨rfl, Below.refl _ _⟩
set_option maxRecDepth 1000000 in
set_option maxHeartbeats 2000000 in
theorem idxRune_good (r : Int) (h0 : 128 ≤ r) (hne : ¬ r = 65533) (hv : Utf8.valid r = true) (w : World) : Calls Tryd.prog 83 #[.string (ByteArray.mk #[43, 45]), .int .i32 r] w fun e w' => e = .returned (.int .i64 (-1)) ∧ Below w.heap.size w w' := by
  have HV := hid (fun (W : World) => (show Calls Tryd.prog 104 #[.int .i32 r] W fun e w' => e = .returned (.bool true) ∧ W = w' from by rw [← hv, ← valid_same]; exact (Tryd.utf8_ValidRune r W).mono fun e w' h => ⟨h.1, h.2.symm⟩))
  obtain ⟨g1, g2, g3⟩ := encode_facts r hv h0
  have h1 : ¬ r < 128 := by omega
  have h2 : 0 ≤ r := by omega
  have h3 : (r == 65533) = false := beq_eq_false_iff_ne.2 hne
  obtain ⟨rs, hrs⟩ : ∃ rs, Utf8.encode r = rs := ⟨_, rfl⟩
  rw [hrs] at g1 g2 g3
  obtain ⟨n, hn⟩ : ∃ n, rs.size = n := ⟨_, rfl⟩
  have hnI : (rs.size : Int) = (n : Int) := by rw [hn]
  clear hv hne
  by_cases hn2 : n = 2
  · subst hn2
    have hlt : 1 < rs.size := by omega
    have e1 : rs.size - 1 = 1 := by omega
    simp only [e1] at g3
    have g4 := g3 hlt
    obtain ⟨c, hc⟩ : ∃ c, (rs[1]'hlt) = c := ⟨_, rfl⟩
    rw [hc] at g4
    have hc45 : ((45 : Int) == (c.toNat : Int)) = false := by rw [beq_eq_false_iff_ne]; omega
    have hcn : ¬ (45 : Int) = (c.toNat : Int) := by omega
    have hgq : ((((ByteArray.mk #[43, 45])[1]'(show 1 < 2 by decide)).toNat : Int) != (c.toNat : Int)) = true := by show ((45 : Int) != (c.toNat : Int)) = true; rw [bne_iff_ne]; omega
    have hgr : ((45 : Int) != (c.toNat : Int)) = true := by rw [bne_iff_ne]; omega
    have w2 : IntKind.i64.wrap 2 = 2 := IntWalk.i64_in _ ⟨by omega, by omega⟩
    have HB := hid (fun (W : World) => (show Calls Tryd.prog 103 #[.string ByteArray.empty, .int .u8 c.toNat] W fun e w' => e = .returned (.int .i64 (-1)) ∧ W = w' from (Tryd.strings_IndexByte ByteArray.empty c.toNat W).mono fun e w' h => ⟨h.1, h.2.symm⟩))
    clear g1 g2 g3 e1
    go_enter Tryd.func83, Tryd.ntmps83
    go_wp2_with (go_at_call 104; (with_reducible refine (HV.out _).mono ?_); rintro e w' ⟨rfl, rfl⟩)
    go_step3
    go_wp2_with fail
    go_loopw [9, 10, 11, 12] (fun a _ _ _ wr => a = .int .i64 1 ∧ w = wr) (fun _ _ _ _ _ => 0)
    case atStart => exact ⟨rfl, rfl⟩
    case round =>
      obtain ⟨rfl, rfl⟩ := hrel
      go_wp2_with fail
      go_step3
      go_wp2_with fail
      go_quiet (fail)
      go_wp2_with fail
      go_quiet (first | ((with_reducible refine (HB.out _).mono ?_); rintro e w' ⟨rfl, rfl⟩; exact ⟨rfl, _, rfl⟩))
      go_wp2_with fail
      rw [Exit.noGoto_ret]
      go_wp2_with fail
      rw [Exit.noGoto_ret]
      go_ret
      exact ⟨rfl, below_drewN (Below.refl _ _) _⟩
  · have hge : 2 ≤ (n : Int) - 1 := by omega
    have hge2 : ¬ (n : Int) - 1 < 2 := by omega
    have hgn : (n : Int) ≤ 4 := by omega
    clear g3
    go_enter Tryd.func83, Tryd.ntmps83
    go_wp2_with (go_at_call 104; (with_reducible refine (HV.out _).mono ?_); rintro e w' ⟨rfl, rfl⟩)
    go_step3
    go_wp2_with fail
    go_loopw [9, 10, 11, 12] (fun a _ _ _ wr => a = .int .i64 ((n : Int) - 1) ∧ w = wr) (fun _ _ _ _ _ => 0)
    case atStart => exact ⟨rfl, rfl⟩
    case round =>
      obtain ⟨rfl, rfl⟩ := hrel
      go_wp2_with fail
      rw [Exit.noGoto_ret]
      go_ret
      exact ⟨rfl, Below.refl _ _⟩
theorem iterPos_of {w : World} {k : Nat} {s : ByteArray} {p : Nat} (h : w.heap[k]? = some (.stringIter s p)) : w.iterPos k = p := by simp [World.iterPos, h]
/-- A code point that is no ASCII is no sign. -/
theorem idxRune_high (r : Int) (h0 : 128 ≤ r) (w : World) : Calls Tryd.prog 83 #[.string (ByteArray.mk #[43, 45]), .int .i32 r] w fun e w' => e = .returned (.int .i64 (-1)) ∧ Below w.heap.size w w' := by
  by_cases he : r = 65533
  · subst he; exact idxRune_err w
  · cases hv : Utf8.valid r
    · exact idxRune_bad r h0 he hv w
    · exact idxRune_good r h0 he hv w
theorem idxRune_low (r : UInt8) (h1 : r.toNat < 128) (w : World) : Calls Tryd.prog 83 #[.string (ByteArray.mk #[43, 45]), .int .i32 r.toNat] w fun e w' => e = .returned (.int .i64 (Lib.indexByte [43, 45] r)) ∧ w = w' :=
  (Tryd.strings_IndexRune_ascii (ByteArray.mk #[43, 45]) r.toNat w (by omega) (by omega)).mono fun e w' h => ⟨by rw [h.1]; simp, h.2.symm⟩
set_option maxRecDepth 1000000 in
set_option maxHeartbeats 2000000 in
theorem idxAny_short (s : ByteArray) (h8 : s.size ≤ 8) (w : World) : Calls Tryd.prog 62 #[.string s, .string (ByteArray.mk #[43, 45])] w fun e w' => e = .returned (.int .i64 (Lib.indexAny s.data.toList [43, 45])) ∧ Below w.heap.size w w' := by
  have h8z : decide ((8 : Int) < (s.size : Int)) = false := decide_eq_false (by omega)
  have HS := hid (fun (W : World) => (show Calls Tryd.prog 84 #[.int .i64 s.size] W fun e w' => e = .returned (.bool false) ∧ W = w' from by rw [← h8z]; exact (Tryd.strings_shouldUseASCIISet s.size W).mono fun e w' h => ⟨h.1, h.2.symm⟩))
  have HH := hid idxRune_high
  have HL := hid idxRune_low
  clear h8z
  go_enter Tryd.func62, Tryd.ntmps62
  go_wp2_with (go_at_call 84; (with_reducible refine (HS.out _).mono ?_); rintro e w' ⟨rfl, rfl⟩)
  go_loopw [9, 10] (fun _ _ wx => ∃ i : Nat, i ≤ s.size ∧ wx.heap[w.heap.size]? = some (.stringIter s i) ∧ Below w.heap.size w wx ∧ Lib.NoAny s.data.toList [43, 45] i) (fun _ _ wx => s.size - wx.iterPos w.heap.size)
  case atStart => exact ⟨0, Nat.zero_le _, World.iter_heap _ _ _, (Below.refl _ _).alloc (Nat.le_refl _) _, Lib.NoAny.zero _ _⟩
  case round =>
    obtain ⟨i, hi, hit, hbel, hno⟩ := hrel
    have HN := hid hno
    have HB := hid hbel
    have HIT := hid hit
    clear hno hbel
    by_cases hlt : i < s.size
    · have hnx := fun ty => Lib.run_next_any_at (P := Tryd.prog) wr w.heap.size s i ty hit hlt
      have hit2 := Lib.iterAt_heap wr w.heap.size s i (i + (Utf8.decode s i).2) hit
      have hbel2 := Lib.below_iterAt HB.out (Nat.le_refl _) s (i + (Utf8.decode s i).2)
      have hpos := iterPos_of hit
      obtain ⟨x, hx⟩ : ∃ x : UInt8, s[i]'hlt = x := ⟨_, rfl⟩
      have hxl : s.data.toList[i]? = some x := by rw [← hx]; exact Lib.data_getElem? s i hlt
      by_cases ha : x.toNat < 128
      · have hd := decode_ascii s i hlt (by rw [hx]; exact ha)
        rw [hx] at hd
        rw [hd] at hnx hit2 hbel2
        have HI2 := hid hit2
        have HB2 := hid hbel2
        have Hx := hid hxl
        have HP := hid hpos
        have HC := hid (HL.out x ha)
        have hcon := Lib.contains_iff_indexByte [43, 45] x
        clear hit hit2 hbel2 hpos hxl hd hx
        cases hin : ([43, 45] : List UInt8).contains x
        · rw [hin] at hcon
          have hlt0 : ¬ ((0 : Int) ≤ Lib.indexByte [43, 45] x) := of_decide_eq_false hcon.symm
          have HIN := hid hin
          clear hcon hin
          go_wp2_with (go_at_call 83; (with_reducible refine (HC.out _).mono ?_); rintro e w' ⟨rfl, rfl⟩)
          go_roundw
          case rel => exact ⟨i + 1, by omega, HI2.out, HB2.out, HN.out.succ Hx.out HIN.out⟩
          case measure => rw [iterPos_of HI2.out, HP.out]; omega
        · rw [hin] at hcon
          have hge : (0 : Int) ≤ Lib.indexByte [43, 45] x := of_decide_eq_true hcon.symm
          have HIN := hid hin
          clear hcon hin
          go_wp2_with (go_at_call 83; (with_reducible refine (HC.out _).mono ?_); rintro e w' ⟨rfl, rfl⟩)
          go_ret
          exact ⟨by rw [Lib.indexAny_hit HN.out Hx.out HIN.out]; rfl, HB2.out⟩
      · have hx2 : 128 ≤ (s[i]'hlt).toNat := by rw [hx]; omega
        obtain ⟨d1, d2⟩ := decode_high s i hlt hx2
        have HNN := hid (noAny_skip hlt hx2 HN.out)
        have hle := skip_le hlt hx2
        generalize (Utf8.decode s i).2 = wd at *
        generalize (Utf8.decode s i).1 = r at *
        have HC := hid (HH.out (r : Int) (by omega))
        have HI2 := hid hit2
        have HB2 := hid hbel2
        have HP := hid hpos
        clear hit hit2 hbel2 hpos hxl hx hx2 ha
        go_wp2_with (go_at_call 83; (with_reducible refine (HC.out _).mono ?_); rintro e w5 ⟨rfl, hb5⟩; have HB5 := hid (Below.step HB2.out hb5); have HI5 := hid ((hb5.block w.heap.size (Array.getElem?_eq_some_iff.1 HI2.out).1).trans HI2.out); clear hb5)
        go_roundw
        case rel => exact ⟨i + wd, hle, HI5.out, HB5.out, HNN.out⟩
        case measure => rw [iterPos_of HI5.out, HP.out]; omega
    · have hnx := fun ty => Lib.run_next_end_at (P := Tryd.prog) wr w.heap.size s i ty hit hlt
      go_wp2
      go_ret
      have e : i = s.size := by omega
      rw [e] at HN
      exact ⟨by rw [Lib.indexAny_none (by rw [← Lib.size_eq]; exact HN.out)]; rfl, HB.out⟩
/-- The first sign of a text, whatever its bytes. -/
theorem idxAny_any (s : ByteArray) (hs : s.size ≤ 1048576) (w : World) : Calls Tryd.prog 62 #[.string s, .string (ByteArray.mk #[43, 45])] w fun e w' => e = .returned (.int .i64 (Lib.indexAny s.data.toList [43, 45])) ∧ Below w.heap.size w w' := by
  by_cases h8 : s.size ≤ 8
  · exact idxAny_short s h8 w
  · refine (Tryd.strings_IndexAny_long (zero_of_info (n := 256) (by kernel_rfl)).1 s (ByteArray.mk #[43, 45]) w (show 2 ≤ 2 by decide) (by omega) (by omega) (show 2 < 4294967281 by decide) ?_).mono ?_
    · intro j b hb
      have hm : b ∈ ([43, 45] : List UInt8) := List.mem_of_getElem? hb
      simp at hm
      rcases hm with rfl | rfl <;> decide
    · rintro e w' ⟨h1, rfl⟩
      exact ⟨h1, ((Below.refl _ _).alloc (Nat.le_refl _) _).alloc (by simp) _⟩
end Go.Proofs.YtpfocjdhjkifmaaDoor
