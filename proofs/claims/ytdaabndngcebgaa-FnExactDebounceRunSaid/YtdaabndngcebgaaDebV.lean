/- The law that DebounceRun answers as the reference. Conditions: none of its own. -/
import Derived.Test.YtdaabndngcebgaaDebZ
import Derived.Deep.DeepCutAuto
namespace Go.Proofs.Ytdaabndngcebgaa
open Go.RowKit
set_option linter.unusedVariables false

/-- The block of a row lies in an interval. -/
def Iv (v : Value) (lo hi : Nat) : Prop := ∀ g, v.ownBlock = some g → lo ≤ g ∧ g < hi
theorem Own.iv {w : World} {base : Nat} {A : Option Addr} {n cap : Nat} {xs : List Int} (h : Own w base A n cap xs) : Iv (.slice A n cap) base w.heap.size := fun g hg => h.2.lt g hg
theorem iv_apart {u v : Value} {a b c d : Nat} (h : Iv u a b) (h' : Iv v c d) (hbc : b ≤ c ∨ d ≤ a) : u.ownBlock = none ∨ u.ownBlock ≠ v.ownBlock := by
  cases hu : u.ownBlock with
  | none => exact .inl rfl
  | some g =>
    right
    intro e
    have h1 := h g hu
    have h2 := h' g e.symm
    omega
theorem iv_ne {v : Value} {a b g : Nat} (h : Iv v a b) (hg : g < a ∨ b ≤ g) : some g ≠ v.ownBlock := by
  intro e
  have h1 := h g e.symm
  omega
theorem Own.keptI {w w' : World} {base : Nat} {A : Option Addr} {n cap : Nat} {xs : List Int} {v : Value} (h : Own w base A n cap xs) (hg : w.grownBy w' v.ownBlock)
    (hne : (Value.slice A n cap).ownBlock = none ∨ (Value.slice A n cap).ownBlock ≠ v.ownBlock) : Own w' base A n cap xs := ⟨h.1, h.2.kept hg hne⟩
section
variable {w W W' : World} {vD : Array Value} {gw gg : Nat} {vw vg : Array Value} {b2 c2 b4 c4 : Nat} {A2 B2 A4 B4 : Option Addr} {k2 l2 k4 l4 : Nat} {ys os ys' os' : List Int}
/-- What the law holds at a world W. -/
structure Cz (w W : World) (vD : Array Value) (gw gg : Nat) (vw vg : Array Value) (b2 b4 : Nat) (A2 B2 A4 B4 : Option Addr) (k2 l2 k4 l4 n m : Nat) (ys os ys' os' : List Int) : Prop where
  b : Below w.heap.size w W
  d : Blk W w.heap.size 38 vD
  w0 : Blk W gw 33 vw
  g0 : Blk W gg 33 vg
  o2 : Own W b2 A2 n k2 ys
  p2 : Own W b2 B2 m l2 os
  o4 : Own W b4 A4 n k4 ys'
  p4 : Own W b4 B4 m l4 os'
variable {n m : Nat}
theorem Cz.below (h : Cz w W vD gw gg vw vg b2 b4 A2 B2 A4 B4 k2 l2 k4 l4 n m ys os ys' os') (hb : Below W.heap.size W W') : Cz w W' vD gw gg vw vg b2 b4 A2 B2 A4 B4 k2 l2 k4 l4 n m ys os ys' os' :=
  ⟨Below.step h.b hb, h.d.bel hb, h.w0.bel hb, h.g0.bel hb, h.o2.below hb, h.p2.below hb, h.o4.below hb, h.p4.below hb⟩
theorem Cz.alloc (h : Cz w W vD gw gg vw vg b2 b4 A2 B2 A4 B4 k2 l2 k4 l4 n m ys os ys' os') (o : Obj) : Cz w (W.alloc o) vD gw gg vw vg b2 b4 A2 B2 A4 B4 k2 l2 k4 l4 n m ys os ys' os' := h.below ((Below.refl _ _).alloc (Nat.le_refl _) o)
/-- A row apart from all of them is marked. -/
theorem Cz.grown (h : Cz w W vD gw gg vw vg b2 b4 A2 B2 A4 B4 k2 l2 k4 l4 n m ys os ys' os') {v : Value} {lo hi : Nat} (hv : Iv v lo hi) (hg : W.grownBy W' v.ownBlock) (h0 : w.heap.size < lo)
    (h1 : gw < lo ∨ hi ≤ gw) (h2 : gg < lo ∨ hi ≤ gg) (a2 : (Value.slice A2 n k2).ownBlock = none ∨ (Value.slice A2 n k2).ownBlock ≠ v.ownBlock) (a3 : (Value.slice B2 m l2).ownBlock = none ∨ (Value.slice B2 m l2).ownBlock ≠ v.ownBlock)
    (a4 : (Value.slice A4 n k4).ownBlock = none ∨ (Value.slice A4 n k4).ownBlock ≠ v.ownBlock) (a5 : (Value.slice B4 m l4).ownBlock = none ∨ (Value.slice B4 m l4).ownBlock ≠ v.ownBlock) :
    Cz w W' vD gw gg vw vg b2 b4 A2 B2 A4 B4 k2 l2 k4 l4 n m ys os ys' os' :=
  ⟨h.b.grown hg h.b.size (fun k hk => by have := (hv k hk).1; omega), h.d.grown hg (iv_ne hv (by omega)), h.w0.grown hg (iv_ne hv h1), h.g0.grown hg (iv_ne hv h2),
    h.o2.keptI hg a2, h.p2.keptI hg a3, h.o4.keptI hg a4, h.p4.keptI hg a5⟩
end
set_option maxRecDepth 100000 in
set_option maxHeartbeats 4000000 in
theorem walk_FnExactDebounceRun (kd t ks sh la : Int) (A : Option Addr) (n cap : Nat) (xs : List Int) (w : World) (hin : InInts w A n xs) (B : Option Addr) (m cb : Nat) (zs : List Int) (hin2 : InInts w B m zs) :
    Calls Try.prog 12 #[dbV kd t ks sh la A n cap, .slice B m cb] w fun e w' => e = .returned (.bool true) ∧ Below w.heap.size w w' := by
  by_cases hbig2 : 1048576 < m
  · clear hin hin2
    go_enter Try.func12, Try.ntmps12
    go_wp2
    go_ret
    exact ⟨rfl, by (first | (go_grown; done) | (refine below_drewN ?_ _; go_grown; done) | (refine Below.drew (below_drewN ?_ _); go_grown; done))⟩
  by_cases hbig : 1048576 < n
  · have hmx := hin.2.1
    unfold maxLen at hmx
    clear hin hin2
    go_enter Try.func12, Try.ntmps12
    go_wp2
    go_ret
    exact ⟨rfl, by (first | (go_grown; done) | (refine below_drewN ?_ _; go_grown; done) | (refine Below.drew (below_drewN ?_ _); go_grown; done))⟩
  · have hn : n ≤ 1048576 := by omega
    have hm : m ≤ 1048576 := by omega
    have hl := hin.1
    have hl2 := hin2.1
    have hR := RdS.mk hin.rd
    have hZ := RdS.mk hin2.rd
    clear hin hin2 hbig hbig2
    subst hl hl2
    have HR := hid hR; clear hR
    have HZ := hid hZ; clear hZ
    have HN := hid hn
    have HM := hid hm
    obtain ⟨kd', t', ks', sh', la', ys, os, ok, hy, ho, hi, hs⟩ := run_all kd t ks sh la xs zs hn hm
    have HS := hid hs
    have HI := hid hi
    clear hs hi
    have HT := hid (fun (W : World) (h : RdS W A xs.length xs) => toDebouncer_any (cap := cap) h.out HN.out kd t ks sh la)
    have HTZ := hid (fun (W : World) (h : RdS W B zs.length zs) => toIntS_any (cap := cb) h.out HM.out)
    have HE := hid (fun (W : World) (A B : Option Addr) (c d : Nat) (h : RdS W A xs.length xs) (h' : RdS W B xs.length xs) => eqDebouncer_same (c := c) (d := d) h.out h'.out HN.out kd t ks sh la)
    have HEZ := hid (fun (W : World) (A B : Option Addr) (c d : Nat) (h : RdS W A zs.length zs) (h' : RdS W B zs.length zs) => eqIntS_same (c := c) (d := d) h.out h'.out HM.out)
    have HF := hid (fun (W : World) (A B : Option Addr) (c d : Nat) (h : RdS W A ys.length ys) (h' : RdS W B ys.length ys) => eqDebouncer_same (c := c) (d := d) h.out h'.out (by omega) kd' t' ks' sh' la')
    have HFZ := hid (fun (W : World) (A B : Option Addr) (c d : Nat) (h : RdS W A os.length os) (h' : RdS W B os.length os) => eqIntS_same (c := c) (d := d) h.out h'.out (by omega))
    go_enter Try.func12, Try.ntmps12
    go_wp2_with fail
    refine (szDebouncer_any HN.out kd t ks sh la).mono ?_
    rintro e w0 ⟨rfl, hb0⟩
    have HB0 := hid ((Blk.new w _ _).bel hb0)
    obtain ⟨hc0, hf0, hz0, hd0⟩ := bcell hb0; (try simp at hz0); replace hb0 := Below.via (B := w.heap.size) (a := w) (by (first | (go_grown; done) | (refine below_drewN ?_ _; go_grown; done) | (refine Below.drew (below_drewN ?_ _); go_grown; done))) hb0 (by go_size); (try have hy0 : w.heap.size < w0.heap.size := by omega); (try have hyy0 : w.heap.size + 1 < w0.heap.size := by omega)
    clear hc0 hf0 hd0
    obtain ⟨q0, q1, q2, q3, q4, q5⟩ := HB0.out.six
    go_wp2_with fail
    refine (HT.out _ (HR.out.below hb0)).mono ?_
    rintro e w1 ⟨A1, c1, rfl, ho1, hb1⟩
    have HO1 := hid ho1
    have HB1 := hid (HB0.out.bel hb1)
    have hx1 := Below.step hb0 hb1
    clear ho1 q0 q1 q2 q3 q4 q5 HB0
    go_wp2_with fail
    refine (HTZ.out _ (HZ.out.below hx1)).mono ?_
    rintro e w1' ⟨B1, d1, rfl, hp1, hb1'⟩
    have HP1 := hid hp1
    have hx1' := Below.step hx1 hb1'
    have HB1' := hid (HB1.out.bel hb1')
    clear hp1 HB1
    go_wp2_with fail
    refine (HS.out _ _ _ _ _ (HO1.out.below hb1').rd HP1.out.rd).mono ?_
    rintro e w2 ⟨A2, c2, B2, d2, rfl, hr2, hb2⟩
    have hx2 := Below.step hx1' hb2
    have HB2 := hid (HB1'.out.bel hb2)
    have HR2 := hid hr2
    clear hr2 HB1' HO1 HP1
    have e0 := fun o => (HB2.out.alloc o).six.1
    have e1 := fun o => (HB2.out.alloc o).six.2.1
    have e2 := fun o => (HB2.out.alloc o).six.2.2.1
    have e3 := fun o => (HB2.out.alloc o).six.2.2.2.1
    have e4 := fun o => (HB2.out.alloc o).six.2.2.2.2.1
    have e5 := fun o => (HB2.out.alloc o).six.2.2.2.2.2
    go_wp2_with fail
    clear e0 e1 e2 e3 e4 e5
    refine (HT.out _ ((HR.out.below hx2).alloc _)).mono ?_
    rintro e w3 ⟨A3, c3, rfl, ho3, hb3⟩
    have HO3 := hid ho3
    have HW3 := hid ((Blk.new w2 33 #[.int .i64 kd', .int .i64 t', .int .i64 ks', .int .i64 sh', .int .i64 la', .slice A2 ys.length c2]).bel hb3)
    have HB3 := hid ((HB2.out.alloc _).bel hb3)
    have HO23 := hid ((HR2.out.o1.alloc _).below hb3)
    have HP23 := hid ((HR2.out.o2.alloc _).below hb3)
    have hz3 : w2.heap.size + 1 ≤ w3.heap.size := by have := hb3.size; simpa using this
    have hz2 := hx2.size
    have hx3 := Below.step (Below.alloc hx2 hz2 _) hb3
    have hz1' := hx1'.size
    have hz21 : w1'.heap.size ≤ w2.heap.size := hb2.size
    have I2 := HR2.out.o1.iv
    have J2 := HR2.out.o2.iv
    have I3 := HO3.out.iv
    simp only [World.size_alloc] at I3
    clear ho3 HB2 HR2
    go_wp2_with fail
    refine (HTZ.out _ ((HZ.out.below hx3).alloc _)).mono ?_
    rintro e w3' ⟨B3, d3, rfl, hp3, hb3'⟩
    have HP3 := hid hp3
    have HX3 := hid ((Blk.new w3 33 #[.int .i64 kd, .int .i64 t, .int .i64 ks, .int .i64 sh, .int .i64 la, .slice A3 xs.length c3]).bel hb3')
    have HW3' := hid ((HW3.out.alloc _).bel hb3')
    have HB3' := hid ((HB3.out.alloc _).bel hb3')
    have HO23' := hid ((HO23.out.alloc _).below hb3')
    have HP23' := hid ((HP23.out.alloc _).below hb3')
    have HO3' := hid ((HO3.out.alloc _).below hb3')
    have hz3' : w3.heap.size + 1 ≤ w3'.heap.size := by have := hb3'.size; simpa using this
    have hx3' := Below.step (Below.alloc hx3 (by omega) _) hb3'
    have J3 := HP3.out.iv
    simp only [World.size_alloc] at J3
    clear hp3 HW3 HB3 HO23 HP23 HO3
    obtain ⟨q0, q1, q2, q3, q4, q5⟩ := HX3.out.six
    go_wp2_with fail
    refine (HI.out _ _ _ _ _ HO3'.out.rd HP3.out.rd).mono ?_
    rintro e w4 ⟨A4, c4, B4, d4, rfl, hr4, hb4⟩
    have hz4 : w3'.heap.size ≤ w4.heap.size := hb4.size
    have C4 : Hid (Cz w (w4.alloc (.cells #[.int .i64 kd', .int .i64 t', .int .i64 ks', .int .i64 sh', .int .i64 la', .slice A4 ys.length c4] 33)) #[.int .i64 kd, .int .i64 t, .int .i64 ks, .int .i64 sh, .int .i64 la, .slice A xs.length cap] w2.heap.size w4.heap.size #[.int .i64 kd', .int .i64 t', .int .i64 ks', .int .i64 sh', .int .i64 la', .slice A2 ys.length c2] #[.int .i64 kd', .int .i64 t', .int .i64 ks', .int .i64 sh', .int .i64 la', .slice A4 ys.length c4] w1'.heap.size w3'.heap.size A2 B2 A4 B4 c2 d2 c4 d4 ys.length os.length ys os ys os) :=
      ⟨Below.alloc (Below.step hx3' hb4) (by omega) _, (HB3'.out.bel hb4).alloc _, (HW3'.out.bel hb4).alloc _, Blk.new _ _ _, (HO23'.out.below hb4).alloc _, (HP23'.out.below hb4).alloc _, hr4.o1.alloc _, hr4.o2.alloc _⟩
    have I4 := hr4.o1.iv
    have J4 := hr4.o2.iv
    have HA4 := hid hr4.ap
    have HX4 := hid ((HX3.out.bel hb4).alloc (.cells #[.int .i64 kd', .int .i64 t', .int .i64 ks', .int .i64 sh', .int .i64 la', .slice A4 ys.length c4] 33))
    have HO34 := hid ((HO3'.out.below hb4).alloc (.cells #[.int .i64 kd', .int .i64 t', .int .i64 ks', .int .i64 sh', .int .i64 la', .slice A4 ys.length c4] 33))
    have HP34 := hid ((HP3.out.below hb4).alloc (.cells #[.int .i64 kd', .int .i64 t', .int .i64 ks', .int .i64 sh', .int .i64 la', .slice A4 ys.length c4] 33))
    have HII := hid (And.intro I2 (And.intro J2 (And.intro I3 (And.intro J3 (And.intro I4 J4)))))
    clear hr4 HX3 HW3' HB3' HO23' HP23' HO3' HP3 I2 J2 I3 J3 I4 J4 q0 q1 q2 q3 q4 q5
    obtain ⟨q0, q1, q2, q3, q4, q5⟩ := C4.out.w0.six
    go_wp2_with fail
    refine (HF.out _ _ _ _ _ C4.out.o4.rs C4.out.o2.rs).mono ?_
    rintro e w5 ⟨rfl, hb5⟩
    have C5 := hid (C4.out.below hb5)
    have HX5 := hid (HX4.out.bel hb5)
    have HO35 := hid (HO34.out.below hb5)
    have HP35 := hid (HP34.out.below hb5)
    clear hb5 C4 HX4 HO34 HP34 q0 q1 q2 q3 q4 q5
    go_wp2_with fail
    refine (HFZ.out _ _ _ _ _ C5.out.p4.rs C5.out.p2.rs).mono ?_
    rintro e w6 ⟨rfl, hb6⟩
    have C6 := hid (C5.out.below hb6)
    have HX6 := hid (HX5.out.bel hb6)
    have HO36 := hid (HO35.out.below hb6)
    have HP36 := hid (HP35.out.below hb6)
    have hr6 := HR.out.below C6.out.b
    have hx6 := HO36.out.rs
    clear hb6 C5 HX5 HO35 HP35 hb0 hb1 hb1' hb2 hb3 hb3' hb4 hx1 hx1' hx2 hx3 hx3'
    obtain ⟨q0, q1, q2, q3, q4, q5⟩ := C6.out.d.six
    obtain ⟨y0, y1, y2, y3, y4, y5⟩ := HX6.out.six
    go_upto_region 13 with (fail)
    go_cut [67] (fun s67 wx => s67 = .bool false ∧ Below w6.heap.size w6 wx)
    case first =>
      go_region_held3 (fun w' => w'.cell? ⟨w3.heap.size, 0, none⟩ = some (.int .i64 kd) ∧ w'.cell? ⟨w3.heap.size, 1, none⟩ = some (.int .i64 t) ∧ w'.cell? ⟨w3.heap.size, 2, none⟩ = some (.int .i64 ks) ∧ w'.cell? ⟨w3.heap.size, 3, none⟩ = some (.int .i64 sh) ∧ w'.cell? ⟨w3.heap.size, 4, none⟩ = some (.int .i64 la) ∧ w'.cell? ⟨w3.heap.size, 5, none⟩ = some (.slice A3 xs.length c3) ∧ w'.cell? ⟨w.heap.size, 0, none⟩ = some (.int .i64 kd) ∧ w'.cell? ⟨w.heap.size, 1, none⟩ = some (.int .i64 t) ∧ w'.cell? ⟨w.heap.size, 2, none⟩ = some (.int .i64 ks) ∧ w'.cell? ⟨w.heap.size, 3, none⟩ = some (.int .i64 sh) ∧ w'.cell? ⟨w.heap.size, 4, none⟩ = some (.int .i64 la) ∧ w'.cell? ⟨w.heap.size, 5, none⟩ = some (.slice A xs.length cap) ∧ Below w6.heap.size w6 w' ∧ RdS w' A xs.length xs ∧ RdS w' A3 xs.length xs) (and_intros <;> first | assumption | (exact Below.drew (by assumption)) | (exact Below.drew (Below.refl _ _)) | (exact RdS.drew (by assumption)) | (simp (maxDischargeDepth := 20) [*]; done)) (first | (go_at_call 26; (with_reducible refine (HT.out _ (by (first | assumption | (exact RdS.drew (by assumption))))).mono ?_); rintro e w7 ⟨A7, c7, rfl, ho7, hb7⟩; have hr7 := RdS.below (A := A) (by (first | assumption | (exact RdS.drew (by assumption)))) hb7; have hx7 := RdS.below (A := A3) (by (first | assumption | (exact RdS.drew (by assumption)))) hb7; have hy7 := ho7.rs; have hq7 : Below w6.heap.size w6 w7 := Below.step (a := w6) (by first | assumption | exact Below.drew (by assumption) | exact Below.drew (Below.refl _ _)) hb7; obtain ⟨hc7, hf7, hz7, hd7⟩ := bcell hb7; clear hb7) | (go_at_call 28; (with_reducible refine (HE.out _ _ _ _ _ (by (first | assumption | (exact RdS.drew (by assumption)))) (by (first | assumption | (exact RdS.drew (by assumption))))).mono ?_); rintro e w8 ⟨rfl, hb8⟩; have hr8 := RdS.below (A := A) (by (first | assumption | (exact RdS.drew (by assumption)))) hb8; have hx8 := RdS.below (A := A3) (by (first | assumption | (exact RdS.drew (by assumption)))) hb8; have hq8 : Below w6.heap.size w6 w8 := Below.step (a := w6) (by first | assumption | exact Below.drew (by assumption) | exact Below.drew (Below.refl _ _)) hb8; obtain ⟨hc8, hf8, hz8, hd8⟩ := bcell hb8; clear hb8))
      all_goals
        go_wp2_with fail
        go_meet
        exact ⟨rfl, by first | assumption | exact Below.drew (by assumption)⟩
    case rest =>
      obtain ⟨rfl, hb7⟩ := hcut
      have C7 := hid (C6.out.below hb7)
      have HX7 := hid (HX6.out.bel hb7)
      have HO37 := hid (HO36.out.below hb7)
      have HP37 := hid (HP36.out.below hb7)
      clear hb7 hr6 hx6 C6 HX6 HO36 HP36 q0 q1 q2 q3 q4 q5 y0 y1 y2 y3 y4 y5
      obtain ⟨I2, J2, I3, J3, I4, J4⟩ := HII.out
      go_wp2_with fail
      refine (HTZ.out _ (HZ.out.below C7.out.b)).mono ?_
      rintro e w8 ⟨A8, c8, rfl, ho8, hb8⟩
      have C8 := hid (C7.out.below hb8)
      have HX8 := hid (HX7.out.bel hb8)
      have HO38 := hid (HO37.out.below hb8)
      have HP38 := hid (HP37.out.below hb8)
      clear hb8 C7 HX7 HO37 HP37
      go_wp2_with fail
      refine (HEZ.out _ _ _ _ _ HP38.out.rs ho8.rs).mono ?_
      rintro e w9 ⟨rfl, hb9⟩
      have C9 := hid (C8.out.below hb9)
      have HX9 := hid (HX8.out.bel hb9)
      have HO39 := hid (HO38.out.below hb9)
      have HP39 := hid (HP38.out.below hb9)
      clear hb9 C8 HX8 HO38 HP38 ho8
      obtain ⟨y0, y1, y2, y3, y4, y5⟩ := HX9.out.six
      go_wp2_with fail
      refine (markDebouncer_any HO39.out (by omega) kd t ks sh la 1 (by omega) (by omega)).mono ?_
      rintro e w10 ⟨rfl, _, hg10⟩
      have C10 := hid (C9.out.grown I3 hg10 (by omega) (by omega) (by omega) (iv_apart I2 I3 (by omega)) (iv_apart J2 I3 (by omega)) (iv_apart I4 I3 (by omega)) (iv_apart J4 I3 (by omega)))
      have HP310 := hid (HP39.out.keptI hg10 (iv_apart J3 I3 (by omega)))
      clear hg10 C9 HX9 HO39 HP39 y0 y1 y2 y3 y4 y5
      go_wp2_with fail
      refine (markIntS_any HP310.out (by omega) (1 + (xs.length : Int)) (by omega) (by omega)).mono ?_
      rintro e w11 ⟨rfl, _, hg11⟩
      have C11 := hid (C10.out.grown J3 hg11 (by omega) (by omega) (by omega) (iv_apart I2 J3 (by omega)) (iv_apart J2 J3 (by omega)) (iv_apart I4 J3 (by omega)) (iv_apart J4 J3 (by omega)))
      clear hg11 C10 HP310
      obtain ⟨q0, q1, q2, q3, q4, q5⟩ := C11.out.w0.six
      obtain ⟨y0, y1, y2, y3, y4, y5⟩ := C11.out.g0.six
      go_wp2_with fail
      refine (HF.out _ _ _ _ _ C11.out.o4.rs C11.out.o2.rs).mono ?_
      rintro e w12 ⟨rfl, hb12⟩
      have C12 := hid (C11.out.below hb12)
      clear hb12 C11 q0 q1 q2 q3 q4 q5 y0 y1 y2 y3 y4 y5
      go_wp2_with fail
      refine (HFZ.out _ _ _ _ _ C12.out.p4.rs C12.out.p2.rs).mono ?_
      rintro e w13 ⟨rfl, hb13⟩
      have C13 := hid (C12.out.below hb13)
      clear hb13 C12
      obtain ⟨y0, y1, y2, y3, y4, y5⟩ := C13.out.g0.six
      go_wp2_with fail
      refine (markDebouncer_any C13.out.o4 (by omega) kd' t' ks' sh' la' 1 (by omega) (by omega)).mono ?_
      rintro e w14 ⟨rfl, ho14, hg14⟩
      have C14 : Hid (Cz w w14 #[.int .i64 kd, .int .i64 t, .int .i64 ks, .int .i64 sh, .int .i64 la, .slice A xs.length cap] w2.heap.size w4.heap.size #[.int .i64 kd', .int .i64 t', .int .i64 ks', .int .i64 sh', .int .i64 la', .slice A2 ys.length c2] #[.int .i64 kd', .int .i64 t', .int .i64 ks', .int .i64 sh', .int .i64 la', .slice A4 ys.length c4] w1'.heap.size w3'.heap.size A2 B2 A4 B4 c2 d2 c4 d4 ys.length os.length ys os (marks 1 ys.length) os) :=
        ⟨C13.out.b.grown hg14 C13.out.b.size (fun k hk => by have := (I4 k hk).1; omega), C13.out.d.grown hg14 (iv_ne I4 (by omega)), C13.out.w0.grown hg14 (iv_ne I4 (by omega)), C13.out.g0.grown hg14 (iv_ne I4 (by omega)),
          C13.out.o2.keptI hg14 (iv_apart I2 I4 (by omega)), C13.out.p2.keptI hg14 (iv_apart J2 I4 (by omega)), ho14, C13.out.p4.keptI hg14 (apart_symm HA4.out)⟩
      clear ho14 hg14 C13 y0 y1 y2 y3 y4 y5
      go_wp2_with fail
      refine (markIntS_any C14.out.p4 (by omega) (1 + (ys.length : Int)) (by omega) (by omega)).mono ?_
      rintro e w15 ⟨rfl, ho15, hg15⟩
      have C15 : Hid (Cz w w15 #[.int .i64 kd, .int .i64 t, .int .i64 ks, .int .i64 sh, .int .i64 la, .slice A xs.length cap] w2.heap.size w4.heap.size #[.int .i64 kd', .int .i64 t', .int .i64 ks', .int .i64 sh', .int .i64 la', .slice A2 ys.length c2] #[.int .i64 kd', .int .i64 t', .int .i64 ks', .int .i64 sh', .int .i64 la', .slice A4 ys.length c4] w1'.heap.size w3'.heap.size A2 B2 A4 B4 c2 d2 c4 d4 ys.length os.length ys os (marks 1 ys.length) (marks (1 + (ys.length : Int)) os.length)) :=
        ⟨C14.out.b.grown hg15 C14.out.b.size (fun k hk => by have := (J4 k hk).1; omega), C14.out.d.grown hg15 (iv_ne J4 (by omega)), C14.out.w0.grown hg15 (iv_ne J4 (by omega)), C14.out.g0.grown hg15 (iv_ne J4 (by omega)),
          C14.out.o2.keptI hg15 (iv_apart I2 J4 (by omega)), C14.out.p2.keptI hg15 (iv_apart J2 J4 (by omega)), C14.out.o4.keptI hg15 HA4.out, ho15⟩
      clear ho15 hg15 C14
      obtain ⟨y0, y1, y2, y3, y4, y5⟩ := C15.out.g0.six
      go_wp2_with fail
      refine (heldDebouncer_any C15.out.o4.rd (by omega) kd' t' ks' sh' la' (by omega) (by omega)).mono ?_
      rintro e w16 ⟨rfl, hb16⟩
      have C16 := hid (C15.out.below hb16)
      clear hb16 C15 y0 y1 y2 y3 y4 y5
      go_wp2_with fail
      refine (heldIntS_any C16.out.p4.rd (by omega) (by omega) (by omega)).mono ?_
      rintro e w' ⟨rfl, rfl⟩
      obtain ⟨q0, q1, q2, q3, q4, q5⟩ := C16.out.d.six
      go_wp2_with fail
      refine (HT.out _ (HR.out.below C16.out.b)).mono ?_
      rintro e w17 ⟨A17, c17, rfl, ho17, hb17⟩
      have C17 := hid (C16.out.below hb17)
      clear C16 q0 q1 q2 q3 q4 q5
      go_wp2_with fail
      refine (HTZ.out _ (HZ.out.below C17.out.b)).mono ?_
      rintro e w18 ⟨A18, c18, rfl, hp18, hb18⟩
      have C18 := hid (C17.out.below hb18)
      have HO18 := hid (ho17.below hb18)
      clear C17 ho17 hb17 hb18
      go_wp2_with fail
      refine (HI.out _ _ _ _ _ HO18.out.rd hp18.rd).mono ?_
      rintro e w19 ⟨A19, c19, B19, d19, rfl, hr19, hb19⟩
      have C19 := hid (C18.out.below hb19)
      have HR19 := hid hr19
      clear C18 HO18 hp18 hb19 hr19
      have e0 := fun o => (C19.out.w0.alloc o).six.1
      have e1 := fun o => (C19.out.w0.alloc o).six.2.1
      have e2 := fun o => (C19.out.w0.alloc o).six.2.2.1
      have e3 := fun o => (C19.out.w0.alloc o).six.2.2.2.1
      have e4 := fun o => (C19.out.w0.alloc o).six.2.2.2.2.1
      have e5 := fun o => (C19.out.w0.alloc o).six.2.2.2.2.2
      go_wp2_with fail
      refine (HF.out _ _ _ _ _ (HR19.out.o1.rs.alloc _) (C19.out.o2.rs.alloc _)).mono ?_
      rintro e w20 ⟨rfl, hb20⟩
      have C20 := hid ((C19.out.alloc _).below hb20)
      have HR20 := hid ((HR19.out.o2.alloc _).below hb20)
      clear hb20 C19 HR19 e0 e1 e2 e3 e4 e5
      go_wp2_with fail
      refine (HFZ.out _ _ _ _ _ HR20.out.rs C20.out.p2.rs).mono ?_
      rintro e w21 ⟨rfl, hb21⟩
      have C21 := hid (C20.out.below hb21)
      clear hb21 C20 HR20
      obtain ⟨y0, y1, y2, y3, y4, y5⟩ := C21.out.g0.six
      go_wp2_with fail
      refine (heldDebouncer_any C21.out.o4.rd (by omega) kd' t' ks' sh' la' (by omega) (by omega)).mono ?_
      rintro e w22 ⟨rfl, hb22⟩
      have C22 := hid (C21.out.below hb22)
      clear hb22 C21 y0 y1 y2 y3 y4 y5
      go_wp2_with fail
      refine (heldIntS_any C22.out.p4.rd (by omega) (by omega) (by omega)).mono ?_
      rintro e w' ⟨rfl, rfl⟩
      go_wp2
      go_ret
      exact ⟨rfl, C22.out.b⟩
end Go.Proofs.Ytdaabndngcebgaa
