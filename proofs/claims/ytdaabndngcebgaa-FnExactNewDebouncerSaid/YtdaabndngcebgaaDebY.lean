/- The law that NewDebouncer answers as the reference. Conditions: none. -/
import Derived.Test.YtdaabndngcebgaaDebN
namespace Go.Proofs.Ytdaabndngcebgaa
open Go.RowKit
set_option linter.unusedVariables false

theorem dbOk_dec (kd t ks : Int) (m : Nat) : ∃ (ok : Bool) (kd' t' ks' : Int) (ys : List Int), NewR kd t ks m ok kd' t' ks' ys := by
  by_cases h : DbOk kd t ks 0 0 (n99 m)
  · exact ⟨true, kd, t, ks, n99 m, ⟨⟨fun _ => h, fun _ => rfl⟩, fun _ => ⟨rfl, rfl, rfl, rfl⟩, fun e => (by cases e)⟩⟩
  · exact ⟨false, 0, 0, 0, [], ⟨⟨(fun e => by cases e), fun e => absurd e h⟩, (fun e => by cases e), fun _ => ⟨rfl, rfl, rfl, rfl⟩⟩⟩
theorem new_all (kd t ks : Int) : ∃ (kd' t' ks' : Int) (ys : List Int) (ok : Bool), ys.length ≤ 24 ∧
    (∀ w : World, Calls Try.prog 30 #[.int .i64 kd, .int .i64 t, .int .i64 ks] w (SteppedN w kd' t' ks' ys ok)) ∧
    (∀ w : World, Calls Try.prog 29 #[.int .i64 kd, .int .i64 t, .int .i64 ks] w (SteppedN w kd' t' ks' ys ok)) := by
  by_cases hk : ks < 0 ∨ 24 < ks
  · exact ⟨0, 0, 0, [], false, by simp, iNewDebouncer_out kd t ks hk, sNewDebouncer_out kd t ks hk⟩
  · obtain ⟨m, rfl⟩ := Int.eq_ofNat_of_zero_le (show 0 ≤ ks by omega)
    obtain ⟨ok, kd', t', ks', ys, hr⟩ := dbOk_dec kd t m m
    refine ⟨kd', t', ks', ys, ok, ?_, iNewDebouncer_in kd t m (by omega) hr, sNewDebouncer_in kd t m (by omega) hr⟩
    cases ok with
    | true => rw [(hr.yes rfl).2.2.2, n99_length]; omega
    | false => rw [(hr.no rfl).2.2.2]; simp
theorem own_ne2 {w : World} {base size n g : Nat} {e : TypeId} {v : Value} {xs : List Value} (h : w.ownsRow base e size v n xs) (hg : w.heap.size ≤ g) : some g ≠ v.ownBlock := by
  intro he
  have := (h.lt g he.symm).2
  omega
theorem Own.keptL {w w' : World} {base m cap' : Nat} {A B : Option Addr} {n cap : Nat} {xs : List Int} (h : Own w base A n cap xs) (hg : w.grownBy w' (Value.slice B m cap').ownBlock)
    (hne : (Value.slice A n cap).ownBlock = none ∨ (Value.slice A n cap).ownBlock ≠ (Value.slice B m cap').ownBlock) : Own w' base A n cap xs := ⟨h.1, h.2.kept hg hne⟩
/-- What the law holds at a world W: the reference's result and the program's result in their boxes. -/
structure Cy (w W : World) (gw gg : Nat) (vw vg : Array Value) (bw bg : Nat) (A2 A4 : Option Addr) (m c2 c4 : Nat) (ys zs : List Int) : Prop where
  b : Below w.heap.size w W
  w0 : Blk W gw 33 vw
  g0 : Blk W gg 33 vg
  o2 : Own W bw A2 m c2 ys
  o4 : Own W bg A4 m c4 zs
theorem Cy.below {w W W' : World} {gw gg : Nat} {vw vg : Array Value} {bw bg : Nat} {A2 A4 : Option Addr} {m c2 c4 : Nat} {ys zs : List Int}
    (h : Cy w W gw gg vw vg bw bg A2 A4 m c2 c4 ys zs) (hb : Below W.heap.size W W') : Cy w W' gw gg vw vg bw bg A2 A4 m c2 c4 ys zs :=
  ⟨Below.step h.b hb, h.w0.bel hb, h.g0.bel hb, h.o2.below hb, h.o4.below hb⟩
theorem Cy.alloc {w W : World} {gw gg : Nat} {vw vg : Array Value} {bw bg : Nat} {A2 A4 : Option Addr} {m c2 c4 : Nat} {ys zs : List Int}
    (h : Cy w W gw gg vw vg bw bg A2 A4 m c2 c4 ys zs) (o : Obj) : Cy w (W.alloc o) gw gg vw vg bw bg A2 A4 m c2 c4 ys zs := h.below ((Below.refl _ _).alloc (Nat.le_refl _) o)
set_option maxRecDepth 100000 in
set_option maxHeartbeats 1000000 in
theorem walk_FnExactNewDebouncer (kd : Int) (_ : (Lit.int .i64 kd).wf = true) (t : Int) (_ : (Lit.int .i64 t).wf = true) (ks : Int) (_ : (Lit.int .i64 ks).wf = true) (w : World) :
    Calls Try.prog 8 #[.int .i64 kd, .int .i64 t, .int .i64 ks] w fun e w' => e = .returned (.bool true) ∧ Below w.heap.size w w' := by
  obtain ⟨kd', t', ks', ys, ok, hy, hi, hs⟩ := new_all kd t ks
  have HS := hid hs
  have HI := hid hi
  clear hs hi
  have HF := hid (fun (W : World) (A B : Option Addr) (c d : Nat) (h : RdS W A ys.length ys) (h' : RdS W B ys.length ys) => eqDebouncer_same (c := c) (d := d) h.out h'.out (by omega) kd' t' ks' 0 0)
  go_enter Try.func8, Try.ntmps8
  go_wp2_with fail
  refine (HS.out _).mono ?_
  rintro e w2 ⟨A2, c2, rfl, ho2, hb2⟩
  have HO2 := hid ho2
  clear ho2
  go_wp2_with fail
  have HW2 := hid (Blk.new w2 33 #[.int .i64 kd', .int .i64 t', .int .i64 ks', .int .i64 0, .int .i64 0, .slice A2 ys.length c2])
  refine (HI.out _).mono ?_
  rintro e w4 ⟨A4, c4, rfl, ho4, hb4⟩
  have hap := ownsRow_apart HO2.out.2 ho4.2 (by simp)
  have hne1 := own_ne ho4.2 (g := w2.heap.size) (by simp)
  have hne2 := own_ne2 ho4.2 (Nat.le_refl _)
  have HAP := hid (And.intro hap (And.intro hne1 hne2))
  have C4 : Hid (Cy w (w4.alloc (.cells #[.int .i64 kd', .int .i64 t', .int .i64 ks', .int .i64 0, .int .i64 0, .slice A4 ys.length c4] 33)) w2.heap.size w4.heap.size _ _ _ _ A2 A4 ys.length c2 c4 ys ys) :=
    ⟨Below.alloc (Below.step (Below.alloc hb2 hb2.size _) hb4) (by have := hb4.size; have := hb2.size; simp at *; omega) _, (HW2.out.bel hb4).alloc _, Blk.new _ _ _, ((HO2.out.alloc _).below hb4).alloc _, ho4.alloc _⟩
  have hzz : w2.heap.size + 1 ≤ w4.heap.size := by have := hb4.size; simpa using this
  have hz2 := hb2.size
  clear hap hne1 hne2 HO2 HW2 ho4 hb4 hb2
  obtain ⟨q0, q1, q2, q3, q4, q5⟩ := C4.out.w0.six
  go_wp2_with fail
  refine (HF.out _ _ _ _ _ C4.out.o4.rs C4.out.o2.rs).mono ?_
  rintro e w5 ⟨rfl, hb5⟩
  have C8 := hid (C4.out.below hb5)
  clear hb5 C4 q0 q1 q2 q3 q4 q5
  obtain ⟨y0, y1, y2, y3, y4, y5⟩ := C8.out.g0.six
  go_wp2_with fail
  refine (markDebouncer_any C8.out.o4 (by omega) kd' t' ks' 0 0 1 (by omega) (by omega)).mono ?_
  rintro e w9 ⟨rfl, ho9, hg9⟩
  clear y0 y1 y2 y3 y4 y5
  obtain ⟨hap, hne1, hne2⟩ := HAP.out
  have C9 : Hid (Cy w w9 w2.heap.size w4.heap.size _ _ _ _ A2 A4 ys.length c2 c4 ys (marks 1 ys.length)) :=
    ⟨below_of_grown C8.out.b C8.out.o4.2 (by simp; omega) hg9, C8.out.w0.grown hg9 hne1, C8.out.g0.grown hg9 hne2, C8.out.o2.keptL hg9 hap, ho9⟩
  clear ho9 hg9 C8 hap hne1 hne2
  obtain ⟨y0, y1, y2, y3, y4, y5⟩ := C9.out.g0.six
  go_wp2_with fail
  refine (heldDebouncer_any C9.out.o4.rd (by omega) kd' t' ks' 0 0 (by omega) (by omega)).mono ?_
  rintro e w10 ⟨rfl, hb10⟩
  have C11 := hid (C9.out.below hb10)
  clear hb10 C9 y0 y1 y2 y3 y4 y5
  go_wp2_with fail
  refine (HI.out _).mono ?_
  rintro e w12 ⟨A12, c12, rfl, ho12, hb12⟩
  have C12 := hid (C11.out.below hb12)
  have HO12 := hid ho12
  clear hb12 C11 ho12
  have e0 := fun o => (C12.out.w0.alloc o).six.1
  have e1 := fun o => (C12.out.w0.alloc o).six.2.1
  have e2 := fun o => (C12.out.w0.alloc o).six.2.2.1
  have e3 := fun o => (C12.out.w0.alloc o).six.2.2.2.1
  have e4 := fun o => (C12.out.w0.alloc o).six.2.2.2.2.1
  have e5 := fun o => (C12.out.w0.alloc o).six.2.2.2.2.2
  go_wp2_with fail
  refine (HF.out _ _ _ _ _ (HO12.out.rs.alloc _) (C12.out.o2.rs.alloc _)).mono ?_
  rintro e w13 ⟨rfl, hb13⟩
  have C13 := hid ((C12.out.alloc _).below hb13)
  clear hb13 C12 HO12 e0 e1 e2 e3 e4 e5
  obtain ⟨y0, y1, y2, y3, y4, y5⟩ := C13.out.g0.six
  go_wp2_with fail
  refine (heldDebouncer_any C13.out.o4.rd (by omega) kd' t' ks' 0 0 (by omega) (by omega)).mono ?_
  rintro e w14 ⟨rfl, hb14⟩
  have C14 := hid (C13.out.below hb14)
  clear hb14 C13 y0 y1 y2 y3 y4 y5
  go_wp2
  go_ret
  exact ⟨rfl, C14.out.b⟩
end Go.Proofs.Ytdaabndngcebgaa
