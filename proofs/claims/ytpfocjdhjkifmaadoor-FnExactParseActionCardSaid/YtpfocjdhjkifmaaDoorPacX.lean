/- The law that ParseAction answers as the reference. Conditions: the library's table and MaxLen as the cards give them, ErrSyntax some error. -/
import Derived.Test.YtpfocjdhjkifmaaDoorPacS
namespace Go.Proofs.YtpfocjdhjkifmaaDoor
open Go.RowKit
set_option linter.unusedVariables false

theorem eqAct_same (k c m n : Int) (w : World) : Calls Tryd.prog 41 #[actW k c m n, actW k c m n] w fun e w' => e = .returned (.bool true) ∧ Below w.heap.size w w' := by
  go_enter Tryd.func41, Tryd.ntmps41
  go_wp2
  go_ret
  exact ⟨rfl, by (first | (go_grown; done) | (refine below_drewN ?_ _; go_grown; done) | (refine Below.drew (below_drewN ?_ _); go_grown; done))⟩
set_option maxRecDepth 100000 in
theorem walk_FnExactParseAction {w : World} (s : ByteArray) (wf : s.size ≤ maxLen) (hp : Pow10 w) (he : ErrS w) (hm : MaxL w) : Calls Tryd.prog 11 #[.string s] w fun e w' => e = .returned (.bool true) ∧ Below w.heap.size w w' := by
  by_cases hs : s.size ≤ 1048576
  · have HS := sParseAction_any hp hm s hs
    rw [(ps_same _).1, (ps_same _).2] at HS
    have HI := hid (fun (W : World) (hp : Pow10 W) (he : ErrS W) (hm : MaxL W) => iParseAction_any hp he hm s hs)
    generalize paV s.data.toList = r at HS HI
    generalize paB s.data.toList = b at HS HI
    obtain ⟨k, c, m, n⟩ := r
    have HS := hid HS
    have H3 := hid (eqAct_same k c m n)
    have HP := hid hp
    have HE := hid he
    have HM := hid hm
    have hlt : ¬ (1048576 : Int) < (s.size : Int) := by omega
    clear hp he hm hs wf
    have hbb : (b != b) = false := by cases b <;> rfl
    go_enter Tryd.func11, Tryd.ntmps11
    go_wp2_with fail
    refine HS.out.mono ?_
    rintro e w1 ⟨rfl, hb1⟩
    have hb1a := hb1.alloc hb1.size (.cells #[.int .i64 k, .int .i64 c, .int .i64 m, .int .i64 n] 38)
    have HB1 := hid hb1a
    have HX1 := hid (Blk.new w1 38 #[.int .i64 k, .int .i64 c, .int .i64 m, .int .i64 n])
    clear hb1 hb1a
    go_wp2_with fail
    refine (HI.out _ (TabIs_below HP.out HB1.out) (HE.out.below HB1.out) (HM.out.below HB1.out)).mono ?_
    rintro e w2 ⟨rfl, hb2⟩
    have HB2 := hid (Below.step HB1.out hb2)
    have HX2 := hid ((HX1.out.bel hb2).alloc (.cells #[.int .i64 k, .int .i64 c, .int .i64 m, .int .i64 n] 38))
    have HB3 := hid (HB2.out.alloc HB2.out.size (.cells #[.int .i64 k, .int .i64 c, .int .i64 m, .int .i64 n] 38))
    obtain ⟨c0, c1, c2, c3, f0, f1, f2, f3⟩ := HX2.out.four
    obtain ⟨d0, d1, d2, d3, g0, g1, g2, g3⟩ := (HX1.out.bel hb2).four
    clear hb2
    go_wp2_with (go_at_call 41; (with_reducible refine (H3.out _).mono ?_); rintro e w3 ⟨rfl, hb3⟩; have HB4 := hid (Below.step HB3.out hb3); clear hb3)
    go_ret
    exact ⟨rfl, HB4.out⟩
  · have hlt : (1048576 : Int) < (s.size : Int) := by omega
    clear hp he hm hs wf
    go_enter Tryd.func11, Tryd.ntmps11
    go_wp2
    go_ret
    exact ⟨rfl, Below.refl _ _⟩
end Go.Proofs.YtpfocjdhjkifmaaDoor
