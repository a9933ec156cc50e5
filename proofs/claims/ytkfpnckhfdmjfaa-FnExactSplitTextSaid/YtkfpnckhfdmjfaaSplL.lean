/- The law that SplitText answers as the reference. Conditions: none. -/
import Derived.Test.YtkfpnckhfdmjfaaSplA
import Derived.Test.YtkfpnckhfdmjfaaSlStrs
namespace Go.Proofs.Ytkfpnckhfdmjfaa
open Go.RowKit
set_option linter.unusedVariables false

theorem split_args (by_ : Int) (h : (Lit.int .u8 by_).wf = true) : ∃ b : UInt8, by_ = (b.toNat : Int) := by
  have h1 : 0 ≤ by_ ∧ by_ ≤ 255 := by simpa [Lit.wf, IntKind.min, IntKind.max, IntKind.signed, IntKind.bits] using h
  refine ⟨UInt8.ofNat by_.toNat, ?_⟩
  rw [UInt8.toNat_ofNat']; omega
set_option maxRecDepth 100000 in
set_option maxHeartbeats 1000000 in
theorem walk_FnExactSplitText (s : ByteArray) (hm : s.size ≤ maxLen) (by_ : Int) (hby : (Lit.int .u8 by_).wf = true) (w : World) :
    Calls Try.prog 7 #[.string s, .int .u8 by_] w fun e w' => e = .returned (.bool true) ∧ Below w.heap.size w w' := by
  obtain ⟨b, rfl⟩ := split_args by_ hby
  clear hby
  unfold maxLen at hm
  by_cases hbig : 1048576 < s.size
  · go_enter Try.func7, Try.ntmps7
    go_wp2
    go_ret
    exact ⟨rfl, Below.refl _ _⟩
  · have hlen : ((TX.parts b s.data.toList).map st).length ≤ 1048577 := by
      have := TX.parts_len b s.data.toList
      have h2 : s.data.toList.length = s.size := by rw [Array.length_toList]; rfl
      rw [List.length_map]; omega
    obtain ⟨bn, hbn⟩ : ∃ n, b.toNat = n := ⟨_, rfl⟩
    have HS := hid (sSplitText_any s b bn hbn (by omega))
    have HI := hid (iSplitText_any s b bn hbn (by omega))
    rw [hbn]
    clear hbn
    generalize (TX.parts b s.data.toList).map st = ps at *
    clear b
    obtain ⟨n, hn⟩ : ∃ n, ps.length = n := ⟨_, rfl⟩
    subst hn
    have HN := hid hlen; clear hlen
    go_enter Try.func7, Try.ntmps7
    go_wp2_with fail
    refine (HS.out _).mono ?_
    rintro e w1 ⟨A1, c1, rfl, ho1, hb1⟩
    have HO1 := hid ho1; clear ho1
    have HB1 := hid hb1; clear hb1
    go_wp2_with fail
    refine (HI.out _).mono ?_
    rintro e w2 ⟨A2, c2, rfl, ho2, hb2⟩
    have HO2 := hid ho2; clear ho2
    have HB2 := hid (Below.step HB1.out hb2)
    have HO12 := hid (HO1.out.below hb2); clear hb2
    go_wp2_with fail
    refine (eqStringS_same HO2.out.rd HO12.out.rd HN.out).mono ?_
    rintro e w3 ⟨rfl, hb3⟩
    have HO13 := hid (HO12.out.below hb3)
    have HO23 := hid (HO2.out.below hb3)
    have HB3 := hid (Below.step HB2.out hb3); clear hb3
    go_wp2_with fail
    refine (markStringS_any HO23.out HN.out).mono ?_
    rintro e w4 ⟨rfl, ho4, hg4⟩
    have hap := ownsRow_apart HO1.out.2 HO2.out.2 (Nat.le_refl _)
    have HO14 := hid (HO13.out.keptL hg4 hap)
    have HB4 := hid (below_of_grown HB3.out HO23.out.2 HB1.out.size hg4)
    have HO4 := hid ho4; clear ho4 hg4 hap
    go_wp2_with fail
    refine (heldStringS_any HO4.out.rd HN.out).mono ?_
    rintro e w5 ⟨rfl, hb5⟩
    have HO15 := hid (HO14.out.below hb5)
    have HO5 := hid (HO4.out.below hb5)
    have HB5 := hid (Below.step HB4.out hb5); clear hb5
    go_wp2_with fail
    refine (HI.out _).mono ?_
    rintro e w6 ⟨A6, c6, rfl, ho6, hb6⟩
    have HO6 := hid ho6; clear ho6
    have HO16 := hid (HO15.out.below hb6)
    have HO56 := hid (HO5.out.below hb6)
    have HB6 := hid (Below.step HB5.out hb6); clear hb6
    go_wp2_with fail
    refine (eqStringS_same HO6.out.rd HO16.out.rd HN.out).mono ?_
    rintro e w7 ⟨rfl, hb7⟩
    have HO57 := hid (HO56.out.below hb7)
    have HB7 := hid (Below.step HB6.out hb7); clear hb7
    go_wp2_with fail
    refine (heldStringS_any HO57.out.rd HN.out).mono ?_
    rintro e w8 ⟨rfl, hb8⟩
    have HB8 := hid (Below.step HB7.out hb8); clear hb8
    go_wp2
    go_ret
    exact ⟨rfl, HB8.out⟩
end Go.Proofs.Ytkfpnckhfdmjfaa
