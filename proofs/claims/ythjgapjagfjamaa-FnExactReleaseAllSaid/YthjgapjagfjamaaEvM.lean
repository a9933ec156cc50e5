/- The law that ReleaseAll answers as the reference. Conditions: none. -/
import Derived.Test.YthjgapjagfjamaaEvL
import Derived.Test.YthjgapjagfjamaaEvH
import Derived.Test.YthjgapjagfjamaaEvD
namespace Go.Proofs.Ythjgapjagfjamaa
open Go.RowKit
set_option linter.unusedVariables false

theorem raL_len (l : List EV.Ev) (t : Int) : (raL l t).length ≤ 64 := by
  cases e : raB l t with
  | false => rw [ra_no e]; simp
  | true =>
    rw [ra_yes e]
    unfold raB at e
    simp only [Bool.and_eq_true] at e
    exact (EV.isEvs_fw e.2).1
set_option maxRecDepth 100000 in
set_option maxHeartbeats 1000000 in
theorem walk_FnExactReleaseAll (A : Option Addr) (n cap : Nat) (xs : List EV.Ev) (w : World) (hin : InEvs w A n xs) (m : Int) (_ : (Lit.int .i64 m).wf = true) :
    Calls Try.prog 9 #[.slice A n cap, .int .i64 m] w fun e w' => e = .returned (.bool true) ∧ Below w.heap.size w w' := by
  obtain ⟨hl, hmx, hrd, _⟩ := hin
  have HR := hid (show RdE w A n xs from ⟨hl, hrd⟩)
  subst hl
  by_cases hbig : ¬ xs.length ≤ 1048576
  · have HZ := hid (szEventS_no (A := A) (cap := cap) hbig hmx)
    go_enter Try.func9, Try.ntmps9
    go_wp2_with (go_at_call 14; (with_reducible refine (HZ.out _).mono ?_); rintro e w' ⟨rfl, rfl⟩)
    go_ret
    exact ⟨rfl, Below.refl _ _⟩
  · have hn : xs.length ≤ 1048576 := by omega
    have HS := hid (fun (W : World) (A : Option Addr) (c : Nat) (h : RdE W A xs.length xs) => sReleaseAll_any (cap := c) h hn m)
    have HI := hid (fun (W : World) (A : Option Addr) (c : Nat) (h : RdE W A xs.length xs) => iReleaseAll_any (cap := c) h hn m)
    have hel := raL_len xs m
    have HE : (raL xs m).length ≤ 1048576 := by omega
    clear hrd hel
    have HZ := hid (szEventS_yes (A := A) (cap := cap) hn)
    have hr1 : ¬ ((1048576 : Int) - (xs.length : Int) < 0) := by omega
    generalize raL xs m = ys at *
    generalize raB xs m = ok at *
    clear hmx
    go_enter Try.func9, Try.ntmps9
    go_wp2_with (go_at_call 14; (with_reducible refine (HZ.out _).mono ?_); rintro e w' ⟨rfl, rfl⟩)
    refine (toEventS_any HR.out hn).mono ?_
    rintro e w1 ⟨A1, c1, rfl, ho1, hb1⟩
    have HO1 := hid ho1; clear ho1
    have HR1 := hid (HR.out.below hb1)
    have HB1 := hid hb1; clear hb1
    go_wp2_with fail
    refine (HS.out _ _ _ HO1.out.rd).mono ?_
    rintro e w2 ⟨A2, c2, rfl, ho2, hb2⟩
    have HO2 := hid ho2; clear ho2
    have HR2 := hid (HR1.out.below hb2)
    have HB2 := hid (Below.step HB1.out hb2)
    have HZ12 := hid hb2.size; clear hb2
    go_wp2_with fail
    refine (toEventS_any HR2.out hn).mono ?_
    rintro e w3 ⟨A3, c3, rfl, ho3, hb3⟩
    have HO3 := hid ho3; clear ho3
    have HO23 := hid (HO2.out.below hb3)
    have HR3 := hid (HR2.out.below hb3)
    have HB3 := hid (Below.step HB2.out hb3); clear hb3
    go_wp2_with fail
    refine (HI.out _ _ _ HO3.out.rd).mono ?_
    rintro e w4 ⟨A4, c4, rfl, ho4, hb4⟩
    have HO4 := hid ho4; clear ho4
    have HO24 := hid (HO23.out.below hb4)
    have HO34 := hid (HO3.out.below hb4)
    have HR4 := hid (HR3.out.below hb4)
    have HB4 := hid (Below.step HB3.out hb4); clear hb4
    go_wp2_with fail
    refine (eqEventS_same HO4.out.rd HO24.out.rd HE).mono ?_
    rintro e w5 ⟨rfl, hb5⟩
    have HO25 := hid (HO24.out.below hb5)
    have HO35 := hid (HO34.out.below hb5)
    have HO45 := hid (HO4.out.below hb5)
    have HR5 := hid (HR4.out.below hb5)
    have HB5 := hid (Below.step HB4.out hb5); clear hb5
    go_wp2_with fail
    refine (toEventS_any HR5.out hn).mono ?_
    rintro e w6 ⟨A6, c6, rfl, ho6, hb6⟩
    have HO6 := hid ho6; clear ho6
    have HO26 := hid (HO25.out.below hb6)
    have HO36 := hid (HO35.out.below hb6)
    have HO46 := hid (HO45.out.below hb6)
    have HR6 := hid (HR5.out.below hb6)
    have HB6 := hid (Below.step HB5.out hb6); clear hb6
    go_wp2_with fail
    refine (eqEventS_same HO36.out.rd HO6.out.rd hn).mono ?_
    rintro e w7 ⟨rfl, hb7⟩
    have HO27 := hid (HO26.out.below hb7)
    have HO37 := hid (HO36.out.below hb7)
    have HO47 := hid (HO46.out.below hb7)
    have HR7 := hid (HR6.out.below hb7)
    have HB7 := hid (Below.step HB6.out hb7); clear hb7
    go_wp2_with fail
    refine (markEventS_any HO37.out hn).mono ?_
    rintro e w8 ⟨rfl, ho8, hg8⟩
    have HAP := hid (And.intro (ownsRow_apart HO2.out.2 HO3.out.2 (Nat.le_refl _)) (And.intro (ownsRow_apart HO3.out.2 HO4.out.2 (Nat.le_refl _)) (ownsRow_apart HO23.out.2 HO4.out.2 (Nat.le_refl _))))
    have HO28 := hid (HO27.out.keptL hg8 HAP.out.1)
    have HO48 := hid (HO47.out.keptL hg8 (apart_symm HAP.out.2.1))
    have HB8 := hid (below_of_grown HB7.out HO37.out.2 HB2.out.size hg8)
    clear ho8 hg8
    go_wp2_with fail
    refine (eqEventS_same HO48.out.rd HO28.out.rd HE).mono ?_
    rintro e w9 ⟨rfl, hb9⟩
    have HO29 := hid (HO28.out.below hb9)
    have HO49 := hid (HO48.out.below hb9)
    have HB9 := hid (Below.step HB8.out hb9); clear hb9
    go_wp2_with fail
    refine (markEventS_any HO49.out HE).mono ?_
    rintro e wa ⟨rfl, hoa, hga⟩
    have HO2a := hid (HO29.out.keptL hga HAP.out.2.2)
    have HBa := hid (below_of_grown HB9.out HO49.out.2 HB3.out.size hga)
    have HOa := hid hoa; clear hoa hga
    go_wp2_with fail
    refine (heldEventS_any HOa.out.rd HE).mono ?_
    rintro e w' ⟨rfl, rfl⟩
    go_wp2_with fail
    refine (toEventS_any (HR.out.below HBa.out) hn).mono ?_
    rintro e wb ⟨Ab, cb, rfl, hob, hbb⟩
    have HOb := hid hob; clear hob
    have HO2b := hid (HO2a.out.below hbb)
    have HOab := hid (HOa.out.below hbb)
    have HBb := hid (Below.step HBa.out hbb); clear hbb
    go_wp2_with fail
    refine (HI.out _ _ _ HOb.out.rd).mono ?_
    rintro e wc ⟨Ac, cc, rfl, hoc, hbc⟩
    have HOc := hid hoc; clear hoc
    have HO2c := hid (HO2b.out.below hbc)
    have HOac := hid (HOab.out.below hbc)
    have HBc := hid (Below.step HBb.out hbc); clear hbc
    go_wp2_with fail
    refine (eqEventS_same HOc.out.rd HO2c.out.rd HE).mono ?_
    rintro e wd ⟨rfl, hbd⟩
    have HOad := hid (HOac.out.below hbd)
    have HBd := hid (Below.step HBc.out hbd); clear hbd
    go_wp2_with fail
    refine (heldEventS_any HOad.out.rd HE).mono ?_
    rintro e w' ⟨rfl, rfl⟩
    go_wp2
    go_ret
    exact ⟨rfl, HBd.out⟩
end Go.Proofs.Ythjgapjagfjamaa
