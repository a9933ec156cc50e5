/- The law that parts joined again are the text, over a drawn text. Conditions: none. -/
import Derived.Test.YtkfpnckhfdmjfaaJoinA
import Derived.Test.YtkfpnckhfdmjfaaSplA
import Derived.Test.YtkfpnckhfdmjfaaCurA
import Derived.Deep.RegionWith
namespace Go.Proofs.Ytkfpnckhfdmjfaa
open Go.RowKit
set_option linter.unusedVariables false

/-- What the law is handed: a slice of bytes. -/
def InBytes (w : World) (A : Option Addr) (n : Nat) (zs : List Int) : Prop :=
  zs.length = n ∧ n ≤ maxLen ∧ Reads w w.heap.size 1 A n (zs.map (Value.int .u8)) ∧ ∀ z ∈ zs, (Lit.int .u8 z).wf = true
theorem InBytes.code {w : World} {A : Option Addr} {n : Nat} {zs : List Int} (h : InBytes w A n zs) (hn : n ≤ 1048576) : Code w w.heap.size A n zs :=
  ⟨h.1, h.2.2.1, fun b hb => by have := h.2.2.2 b hb; simpa [Lit.wf, IntKind.min, IntKind.max, IntKind.signed, IntKind.bits] using this, hn⟩
set_option maxRecDepth 100000 in
theorem big_any (A : Option Addr) (n cap : Nat) (w : World) : Calls Try.prog 48 #[.slice A n cap] w fun e w' => e = .returned (.bool (decide (1048576 < n))) ∧ w = w' := by
  go_enter Try.func48, Try.ntmps48
  go_wp2
  go_ret
  exact ⟨ret_bool (by rw [Bool.eq_iff_iff]; simp; omega), rfl⟩
theorem big_yes {A : Option Addr} {n cap : Nat} (h : 1048576 < n) (w : World) : Calls Try.prog 48 #[.slice A n cap] w fun e w' => e = .returned (.bool true) ∧ w = w' := by
  have := big_any A n cap w
  rwa [decide_eq_true h] at this
theorem big_no {A : Option Addr} {n cap : Nat} (h : ¬ 1048576 < n) (w : World) : Calls Try.prog 48 #[.slice A n cap] w fun e w' => e = .returned (.bool false) ∧ w = w' := by
  have := big_any A n cap w
  rwa [decide_eq_false h] at this
/-- One of the texts of a list. -/
def PickT (w : World) (g B : Nat) (A : Option Addr) (n cap : Nat) (bs : List Int) (xs : List ByteArray) (e : Ending) (w' : World) : Prop :=
  ∃ k : Nat, k < xs.length ∧ e = .returned (.string (xs.getD k ByteArray.empty)) ∧ Cur w' g B A n cap bs ∧ w.grownBy w' (some g)
theorem l1Pick_any {w : World} {g B n cap : Nat} {A : Option Addr} {bs : List Int} (h : Cur w g B A n cap bs) {a : Nat} {m c : Nat} {xs : List ByteArray} (hr : RdT w (some ⟨a, 0, none⟩) m xs) (hne : a ≠ g) (h1 : 1 ≤ m) (hm : m ≤ 256) :
    Calls Try.prog 61 #[.pointer (some ⟨g, 0, none⟩), .slice (some ⟨a, 0, none⟩) m c] w (PickT w g B A n cap bs xs) := by
  have H := hid (l1Below_any h (m : Int) (by omega) (by omega))
  have hl := hr.1
  have HR := hid hr; clear hr
  have HL := hid hl; clear hl
  clear h
  go_enter Try.func61, Try.ntmps61
  go_wp2_with fail
  refine H.out.mono ?_
  rintro e w1 ⟨x, ⟨x0, x1⟩, rfl, hc1, hg1⟩
  obtain ⟨k, rfl⟩ := Int.eq_ofNat_of_zero_le x0
  have hk : k < m := by omega
  obtain ⟨ad, he, hc⟩ := HR.out.at_ ByteArray.empty hk
  injection he with he
  subst he
  have hc : w.cell? ((⟨a, 0, none⟩ : Addr).add k) = some (.string (xs.getD k ByteArray.empty)) := hc
  have hb : ((⟨a, 0, none⟩ : Addr).add k).block = a := block_of_add _ _
  have hc2 : w1.cell? ((⟨a, 0, none⟩ : Addr).add k) = some (.string (xs.getD k ByteArray.empty)) := by
    rw [← hc]
    refine World.cell?_of_block (hg1.block _ ?_ ?_)
    · exact World.block_lt_of_cell? _ _ hc
    · rw [hb]; intro e; injection e with e; exact hne e
  clear hc
  have ha : (⟨a, 0, none⟩ : Addr).add k = ⟨a, k, none⟩ := by unfold Addr.add; split <;> simp_all
  rw [ha] at hc2
  clear ha hb
  have HG := hid hg1; clear hg1
  have HC := hid hc1; clear hc1
  have hlt2 : (k : Int) < (m : Int) := by omega
  go_wp2
  go_ret
  exact ⟨k, by rw [HL.out]; exact hk, rfl, HC.out, HG.out⟩
def drawT : List ByteArray := [⟨#[97]⟩, ⟨#[32]⟩, ⟨#[98, 99]⟩, ⟨#[124]⟩, ⟨#[]⟩, ⟨#[49]⟩]
theorem drawT_size (k : Nat) (h : k < drawT.length) : (drawT.getD k ByteArray.empty).size ≤ 2 := by
  have : k = 0 ∨ k = 1 ∨ k = 2 ∨ k = 3 ∨ k = 4 ∨ k = 5 := by have : drawT.length = 6 := rfl; omega
  rcases this with rfl | rfl | rfl | rfl | rfl | rfl <;> decide
theorem sep3_get (k : Nat) (h : k < 3) : ∃ b : UInt8, (ByteArray.mk #[32, 124, 97])[k]'(by show k < 3; exact h) = b := ⟨_, rfl⟩
/-- A drawn text and a byte. -/
def DrawnS (w : World) (e : Ending) (w' : World) : Prop := ∃ (s : ByteArray) (b : UInt8) (bn : Nat), b.toNat = bn ∧ s.size ≤ 16 ∧ e = .returned (.tuple #[.string s, .int .u8 bn]) ∧ Below w.heap.size w w'
set_option maxRecDepth 100000 in
set_option maxHeartbeats 1000000 in
theorem DrawSplitText_any {w : World} {A : Option Addr} {n cap : Nat} {bs : List Int} (h : Code w w.heap.size A n bs) : Calls Try.prog 49 #[.slice A n cap] w (DrawnS w) := by
  have HC := hid h; clear h
  go_enter Try.func49, Try.ntmps49
  go_wp2_with fail
  refine (l1New_any (cap := cap) HC.out (Nat.le_refl _)).mono ?_
  rintro e w1 ⟨g, rfl, hc1, hg, hb1⟩
  have HC1 := hid hc1; clear hc1
  go_wp2_with fail
  refine (l1Below_any HC1.out 8 (by omega) (by omega)).mono ?_
  rintro e w2 ⟨x, ⟨x0, x1⟩, rfl, hc2, hg2⟩
  obtain ⟨k0, rfl⟩ := Int.eq_ofNat_of_zero_le x0
  have hb2 := hb1.trans (below_only hg2 hg hb1.size)
  clear hg2 HC1
  have hk0 : k0 ≤ 7 := by omega
  go_wp2_with fail
  go_loopw [5, 6] (fun s i wr => ∃ (j : Nat) (t : ByteArray), i = .int .i64 j ∧ j ≤ 7 ∧ s = .string t ∧ t.size ≤ 2 * (7 - j) ∧ Cur wr g w.heap.size A n cap bs ∧ Below w.heap.size w wr) (fun _ i _ => (intOf i).toNat)
  case atStart => exact ⟨k0, ByteArray.empty, rfl, hk0, rfl, by simp, hc2, hb2⟩
  case round =>
    obtain ⟨j, t, rfl, hj, rfl, ht, hcur, hbel⟩ := hrel
    have HCu := hid hcur; clear hcur
    have hgl := HCu.out.lt
    by_cases h0 : j = 0
    · subst h0
      have HB3 := hid (l1Below_any (cap := cap) HCu.out.drew 3 (by omega) (by omega))
      go_wp2_with fail
      go_region_with ((go_at_call 60; (with_reducible refine HB3.out.mono ?_); rintro e w3 ⟨y, ⟨y0, y1⟩, rfl, hc3, hg3⟩; obtain ⟨q, rfl⟩ := Int.eq_ofNat_of_zero_le y0; have hq : q < 3 := (by omega); obtain ⟨b, hbb⟩ := sep3_get q hq; have hb3 := (Below.drew hbel).trans (below_only hg3 hg (Below.drew hbel).size)))
      all_goals
        go_wp2
        go_ret2
        exact ⟨t, b, _, rfl, by omega, rfl, hb3⟩
    · have hj2 : (0 : Int) < (j : Int) := by omega
      have hrd : RdT (wr.alloc (.cells #[sV ⟨#[97]⟩, sV ⟨#[32]⟩, sV ⟨#[98, 99]⟩, sV ⟨#[124]⟩, sV ⟨#[]⟩, sV ⟨#[49]⟩] 9)) (some ⟨wr.heap.size, 0, none⟩) 6 drawT := ⟨rfl, by
        have q := reads_new wr #[sV ⟨#[97]⟩, sV ⟨#[32]⟩, sV ⟨#[98, 99]⟩, sV ⟨#[124]⟩, sV ⟨#[]⟩, sV ⟨#[49]⟩] 9 (size := 1) (n := 6) rfl
        rw [World.size_alloc]; exact q⟩
      have HRD := hid hrd; clear hrd
      have HP := hid (l1Pick_any (c := 6) (HCu.out.alloc _) HRD.out (by omega) (by omega) (by omega))
      go_wp2_with ((go_at_call 61; (with_reducible refine HP.out.mono ?_); rintro e w3 ⟨q, hq, rfl, hc3, hg3⟩; have hsz := drawT_size q hq; generalize drawT.getD q ByteArray.empty = u at *; have hb3 := (hbel.alloc hbel.size (.cells #[sV ⟨#[97]⟩, sV ⟨#[32]⟩, sV ⟨#[98, 99]⟩, sV ⟨#[124]⟩, sV ⟨#[]⟩, sV ⟨#[49]⟩] 9)).trans (below_only hg3 hg (hbel.alloc hbel.size _).size); have HC3 := hid hc3; clear hc3 hg3))
      go_roundw
      case rel => exact ⟨j - 1, t ++ u, by go_num, by omega, rfl, by rw [ByteArray.size_append]; omega, HC3.out, hb3⟩
      case measure => simp [intOf]; omega
theorem map_back (l : List (List UInt8)) : (l.map st).map (fun s => s.data.toList) = l := by
  rw [List.map_map]
  have : ((fun s : ByteArray => s.data.toList) ∘ st) = id := by funext x; rfl
  rw [this, List.map_id]
theorem sum_parts (b : UInt8) (s : ByteArray) : sumT ((TX.parts b s.data.toList).map st) (TX.parts b s.data.toList).length ≤ s.size := by
  have hj := TX.join_parts b s.data.toList
  have hl := dl_len s
  obtain ⟨x, r, hx⟩ : ∃ x r, TX.parts b s.data.toList = x :: r := by
    cases h : TX.parts b s.data.toList with
    | nil => exact absurd h (TX.parts_ne _ _)
    | cons a r => exact ⟨a, r, rfl⟩
  rw [hx] at hj ⊢
  have h1 := Lib.join_length x r [b]
  rw [hj, hl] at h1
  have h2 : sumT ((x :: r).map st) (x :: r).length = Lib.lens (x :: r) := by
    unfold sumT Lib.lens
    have : (List.take (x :: r).length ((x :: r).map st)) = (x :: r).map st := by rw [List.take_of_length_le (by simp)]
    rw [this, List.map_map]
    have : ((fun s : ByteArray => s.size) ∘ st) = List.length := by funext a; exact st_size a
    rw [this]
  rw [h2]; omega
set_option maxRecDepth 100000 in
set_option maxHeartbeats 1000000 in
theorem walk_FnParts (A : Option Addr) (n cap : Nat) (zs : List Int) (w : World) (hin : InBytes w A n zs) : Calls Try.prog 14 #[.slice A n cap] w fun e w' => e = .returned (.bool true) ∧ Below w.heap.size w w' := by
  by_cases hbig : 1048576 < n
  · have H := hid (big_yes (A := A) (cap := cap) hbig)
    have hmx := hin.2.1
    unfold maxLen at hmx
    clear hin
    go_enter Try.func14, Try.ntmps14
    go_wp2_with (go_at_call 48; (with_reducible refine (H.out _).mono ?_); rintro e w' ⟨rfl, rfl⟩)
    go_ret
    exact ⟨rfl, Below.refl _ _⟩
  · have H := hid (big_no (A := A) (cap := cap) hbig)
    have HC := hid (hin.code (by omega))
    clear hin
    go_enter Try.func14, Try.ntmps14
    go_wp2_with (go_at_call 48; (with_reducible refine (H.out _).mono ?_); rintro e w' ⟨rfl, rfl⟩)
    refine (DrawSplitText_any (cap := cap) HC.out).mono ?_
    rintro e w1 ⟨s, b, bn, hbn, hs, rfl, hb1⟩
    clear HC H
    have hb256 : bn ≤ 255 := by have := b.toNat_lt; omega
    have HB1 := hid hb1; clear hb1
    have HSP := hid (fun (t : ByteArray) (ht : t.size ≤ 16) => iSplitText_any t b bn hbn (by omega))
    have hpl := TX.parts_len b s.data.toList
    rw [dl_len] at hpl
    have hsum := sum_parts b s
    have hjo : Lib.join (((TX.parts b s.data.toList).map st).map (fun s => s.data.toList)) (st [b]).data.toList = s.data.toList := by rw [map_back]; exact TX.join_parts b s.data.toList
    have hfree : ∀ j, j < (TX.parts b s.data.toList).length → ∃ p, ((TX.parts b s.data.toList).map st).getD j ByteArray.empty = st p ∧ TX.parts b p = [p] ∧ (st p).size ≤ 16 := by
      intro j hj
      refine ⟨(TX.parts b s.data.toList)[j], by rw [List.getD_eq_getElem?_getD, List.getElem?_map, List.getElem?_eq_getElem hj]; rfl, TX.parts_one b _ (TX.parts_free b _ _ (List.getElem_mem hj)), ?_⟩
      have h1 := sumT_succ ((TX.parts b s.data.toList).map st) j (by rw [List.length_map]; exact hj)
      have h2 := sumT_le ((TX.parts b s.data.toList).map st) (show j + 1 ≤ (TX.parts b s.data.toList).length from hj) (by rw [List.length_map]; exact Nat.le_refl _)
      rw [List.getD_eq_getElem?_getD, List.getElem?_map, List.getElem?_eq_getElem hj] at h1
      simp only [Option.map_some, Option.getD_some] at h1
      omega
    have hs0 := HSP.out s hs
    have hnl : ((TX.parts b s.data.toList).map st).length = (TX.parts b s.data.toList).length := List.length_map _
    generalize (TX.parts b s.data.toList).map st = ps at *
    rw [← hnl] at hpl hsum hfree
    clear hnl
    have HS0 := hid hs0; clear hs0
    have HJO := hid hjo; clear hjo
    have HF := hid hfree; clear hfree
    have HBN := hid hbn; clear hbn
    have HSUM := hid hsum; clear hsum
    obtain ⟨m, hm⟩ : ∃ m, ps.length = m := ⟨_, rfl⟩
    subst hm
    go_wp2_with fail
    refine (HS0.out _).mono ?_
    rintro e w2 ⟨A2, c2, rfl, ho2, hb2⟩
    have HO2 := hid ho2; clear ho2
    have HB2 := hid (Below.step HB1.out hb2); clear hb2
    have hcv := run_bytes_text (w := w2.alloc (.cells #[.int .u8 bn] 5)) 24 9 5 w2.heap.size 1 [b] 1 rfl _ _ (Blk.new _ _ _) Try.underlying24 Try.underlying5 Try.underlying9 (by
      intro i hi
      have : i = 0 := by simpa using hi
      subst this
      simp only [List.getElem_cons_zero, HBN.out]
      simp)
    have hst1 : (st [b]).size = 1 := st_size [b]
    have HJ := hid (iJoinText_any (HO2.out.alloc (.cells #[.int .u8 bn] 5)) (st [b]) (by have := HSUM.out; rw [hst1]; omega) (by omega))
    rw [HJO.out] at HJ
    have hse : st s.data.toList = s := rfl
    rw [hse] at HJ
    clear hst1 hse
    go_wp2_with fail
    refine HJ.out.mono ?_
    rintro e w3 ⟨rfl, hb3⟩
    have HO3 := hid ((HO2.out.alloc _).below hb3)
    have HB3 := hid (Below.step (HB2.out.alloc HB2.out.size _) hb3)
    clear hb3 HJ hcv
    go_wp2_with fail
    go_loopw [6] (fun i wr => ∃ j : Nat, i = .int .i64 j ∧ j ≤ ps.length ∧ Below w3.heap.size w3 wr) (fun i _ => ps.length - (intOf i).toNat)
    case atStart => exact ⟨0, rfl, Nat.zero_le _, Below.refl _ _⟩
    case round =>
      obtain ⟨j, rfl, hj, hbel⟩ := hrel
      by_cases hlt : j < ps.length
      · obtain ⟨ad, rfl, hc⟩ := (HO3.out.rd.below hbel).at_ ByteArray.empty hlt
        obtain ⟨p, hp, h1, hps⟩ := HF.out j hlt
        replace hc : wr.cell? (ad.add j) = some (.string (ps.getD j ByteArray.empty)) := hc
        rw [hp] at hc
        have H1 := hid (HSP.out (st p) hps)
        have h2 : TX.parts b (st p).data.toList = [p] := h1
        rw [h2] at H1
        clear h1 h2 hp
        have hlt2 : (j : Int) < (ps.length : Int) := by omega
        go_wp2_with ((go_at_call 27; (with_reducible refine (H1.out _).mono ?_); rintro e w4 ⟨A4, c4, rfl, ho4, hb4⟩; have HB4 := hid (Below.step hbel hb4); clear ho4 hb4))
        go_roundw
        case rel => exact ⟨j + 1, by go_num, by omega, HB4.out⟩
        case measure => simp [intOf]; omega
      · obtain rfl : j = ps.length := by omega
        go_wp2
        go_ret
        exact ⟨rfl, Below.step HB3.out hbel⟩
end Go.Proofs.Ytkfpnckhfdmjfaa
