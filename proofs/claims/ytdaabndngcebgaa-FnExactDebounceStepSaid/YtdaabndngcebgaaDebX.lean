/- The law that DebounceStep answers as the reference. Conditions: none of its own. -/
import Derived.Test.YtdaabndngcebgaaDebQ
import Derived.Test.YtdaabndngcebgaaDebR
import Derived.Test.YtdaabndngcebgaaDebW
import Derived.Deep.DeepCutAuto
namespace Go.Proofs.Ytdaabndngcebgaa
open Go.RowKit
set_option linter.unusedVariables false

/-- What a step hands back, in whichever program: a debouncer of the call's own, and whether it was taken. -/
def Stepped (w : World) (kd t ks sh la : Int) (ys : List Int) (ok : Bool) (e : Ending) (w' : World) : Prop :=
  ∃ (A : Option Addr) (cap : Nat), e = .returned (.tuple #[dbV kd t ks sh la A ys.length cap, .bool ok]) ∧ Own w' w.heap.size A ys.length cap ys ∧ Below w.heap.size w w'
theorem step_all (kd t ks sh la raw : Int) (xs : List Int) (hn : xs.length ≤ 1048576) : ∃ (kd' t' ks' sh' la' : Int) (ys : List Int) (ok : Bool), ys.length ≤ 24 ∧
    (∀ (w : World) (A : Option Addr) (cap : Nat), RdI w A xs.length xs → Calls Try.prog 34 #[dbV kd t ks sh la A xs.length cap, .int .i64 raw] w (Stepped w kd' t' ks' sh' la' ys ok)) ∧
    (∀ (w : World) (A : Option Addr) (cap : Nat), RdI w A xs.length xs → Calls Try.prog 35 #[dbV kd t ks sh la A xs.length cap, .int .i64 raw] w (Stepped w kd' t' ks' sh' la' ys ok)) := by
  by_cases hok : StepOk kd t ks sh la xs raw
  · obtain ⟨hd, h0, h1⟩ := hok
    have hh := hd.head
    obtain ⟨kd, rfl⟩ := Int.eq_ofNat_of_zero_le (show 0 ≤ kd from hh.kd0)
    obtain ⟨t, rfl⟩ := Int.eq_ofNat_of_zero_le (show 0 ≤ t by have := hh.t0; omega)
    obtain ⟨ks, rfl⟩ := Int.eq_ofNat_of_zero_le (show 0 ≤ ks by have := hh.ks0; omega)
    obtain ⟨sh, rfl⟩ := Int.eq_ofNat_of_zero_le hd.sh0
    obtain ⟨la, rfl⟩ := Int.eq_ofNat_of_zero_le hd.la0
    obtain ⟨raw, rfl⟩ := Int.eq_ofNat_of_zero_le h0
    have hl : xs.length = ks := by have := hh.len; omega
    have e2 : (2 : Int) ^ (ks : Int).toNat = ((2 ^ ks : Nat) : Int) := by simp
    have a1 := hd.sh1
    have a2 := hd.la1
    rw [e2] at a1 a2 h1
    have hO : (DB.St.mk kd t ks sh la xs).Ok := by
      have b1 := hh.kd1
      have b2 := hh.t0
      have b3 := hh.t1
      have b4 := hh.ks0
      have b5 := hh.ks1
      exact ⟨by simp only; omega, by simp only; omega, by simp only; omega, by simp only; omega, by simp only; omega, hl, by simp only; omega, by simp only; omega, hd.ages⟩
    have hlen := DB.agesTo_length kd t raw sh la xs ks
    refine ⟨kd, t, ks, (DB.shownTo kd t raw sh la xs ks : Nat), raw, DB.agesTo kd t raw sh la xs ks, true, by rw [hlen]; have := hO.keys1; simp only at this; omega, fun w A cap h => ?_, fun w A cap h => ?_⟩
    · rw [hl] at h ⊢
      exact iStep_yes kd t ks sh la raw xs hO (by omega) h
    · rw [hl] at h ⊢
      exact sStep_yes kd t ks sh la raw xs hO (by omega) h
  · refine ⟨0, 0, 0, 0, 0, [], false, by simp, fun w A cap h => ?_, fun w A cap h => ?_⟩
    · exact (iStep_no kd t ks sh la raw xs h hn hok).mono fun e w' ⟨h1, h2⟩ => ⟨none, 0, h1, ⟨rfl, World.ownsRow_nil _ _ _ _⟩, h2⟩
    · exact (sStep_no kd t ks sh la raw xs h hn hok).mono fun e w' ⟨h1, h2⟩ => ⟨none, 0, h1, ⟨rfl, World.ownsRow_nil _ _ _ _⟩, h2⟩
theorem Own.keptL {w w' : World} {base m cap' : Nat} {A B : Option Addr} {n cap : Nat} {xs : List Int} (h : Own w base A n cap xs) (hg : w.grownBy w' (Value.slice B m cap').ownBlock)
    (hne : (Value.slice A n cap).ownBlock = none ∨ (Value.slice A n cap).ownBlock ≠ (Value.slice B m cap').ownBlock) : Own w' base A n cap xs := ⟨h.1, h.2.kept hg hne⟩
theorem own_ne2 {w : World} {base size n g : Nat} {e : TypeId} {v : Value} {xs : List Value} (h : w.ownsRow base e size v n xs) (hg : w.heap.size ≤ g) : some g ≠ v.ownBlock := by
  intro he
  have := (h.lt g he.symm).2
  omega
theorem apart_symm {u v : Value} (h : u.ownBlock = none ∨ u.ownBlock ≠ v.ownBlock) : v.ownBlock = none ∨ v.ownBlock ≠ u.ownBlock := by
  rcases h with h | h
  · cases hv : v.ownBlock with
    | none => exact .inl rfl
    | some g => right; rw [h]; simp
  · exact .inr (fun e => h e.symm)
/-- What the law holds at a world W: its argument in its box, the reference's result and the program's result in theirs. -/
structure Cx (w W : World) (vD : Value → Array Value) (A : Option Addr) (n cap : Nat) (xs : List Int) (gw gg : Nat) (vw vg : Array Value) (bw bg : Nat) (A2 A4 : Option Addr) (m c2 c4 : Nat) (ys zs : List Int) : Prop where
  b : Below w.heap.size w W
  d : Blk W w.heap.size 38 (vD (.slice A n cap))
  w0 : Blk W gw 33 vw
  g0 : Blk W gg 33 vg
  o2 : Own W bw A2 m c2 ys
  o4 : Own W bg A4 m c4 zs
theorem Cx.below {w W W' : World} {vD : Value → Array Value} {A : Option Addr} {n cap : Nat} {xs : List Int} {gw gg : Nat} {vw vg : Array Value} {bw bg : Nat} {A2 A4 : Option Addr} {m c2 c4 : Nat} {ys zs : List Int}
    (h : Cx w W vD A n cap xs gw gg vw vg bw bg A2 A4 m c2 c4 ys zs) (hb : Below W.heap.size W W') : Cx w W' vD A n cap xs gw gg vw vg bw bg A2 A4 m c2 c4 ys zs :=
  ⟨Below.step h.b hb, h.d.bel hb, h.w0.bel hb, h.g0.bel hb, h.o2.below hb, h.o4.below hb⟩
theorem Cx.alloc {w W : World} {vD : Value → Array Value} {A : Option Addr} {n cap : Nat} {xs : List Int} {gw gg : Nat} {vw vg : Array Value} {bw bg : Nat} {A2 A4 : Option Addr} {m c2 c4 : Nat} {ys zs : List Int}
    (h : Cx w W vD A n cap xs gw gg vw vg bw bg A2 A4 m c2 c4 ys zs) (o : Obj) : Cx w (W.alloc o) vD A n cap xs gw gg vw vg bw bg A2 A4 m c2 c4 ys zs := h.below ((Below.refl _ _).alloc (Nat.le_refl _) o)
set_option maxRecDepth 100000 in
set_option maxHeartbeats 2000000 in
theorem walk_FnExactDebounceStep (kd t ks sh la : Int) (A : Option Addr) (n cap : Nat) (xs : List Int) (w : World) (hin : InInts w A n xs) (raw : Int) (_ : (Lit.int .i64 raw).wf = true) :
    Calls Try.prog 10 #[dbV kd t ks sh la A n cap, .int .i64 raw] w fun e w' => e = .returned (.bool true) ∧ Below w.heap.size w w' := by
  by_cases hbig : 1048576 < n
  · have hmx := hin.2.1
    unfold maxLen at hmx
    clear hin
    go_enter Try.func10, Try.ntmps10
    go_wp2
    go_ret
    exact ⟨rfl, by (first | (go_grown; done) | (refine below_drewN ?_ _; go_grown; done) | (refine Below.drew (below_drewN ?_ _); go_grown; done))⟩
  · have hn : n ≤ 1048576 := by omega
    have hl := hin.1
    have hR := RdS.mk hin.rd
    clear hin hbig
    subst hl
    have HR := hid hR; clear hR
    have HN := hid hn
    obtain ⟨kd', t', ks', sh', la', ys, ok, hy, hi, hs⟩ := step_all kd t ks sh la raw xs hn
    have HS := hid hs
    have HI := hid hi
    clear hs hi
    have HT := hid (fun (W : World) (h : RdS W A xs.length xs) => toDebouncer_any (cap := cap) h.out HN.out kd t ks sh la)
    have HE := hid (fun (W : World) (A B : Option Addr) (c d : Nat) (h : RdS W A xs.length xs) (h' : RdS W B xs.length xs) => eqDebouncer_same (c := c) (d := d) h.out h'.out HN.out kd t ks sh la)
    have HF := hid (fun (W : World) (A B : Option Addr) (c d : Nat) (h : RdS W A ys.length ys) (h' : RdS W B ys.length ys) => eqDebouncer_same (c := c) (d := d) h.out h'.out (by omega) kd' t' ks' sh' la')
    go_enter Try.func10, Try.ntmps10
    go_wp2_with fail
    refine (szDebouncer_any HN.out kd t ks sh la).mono ?_
    rintro e w0 ⟨rfl, hb0⟩
    have HR0 := hid ((HR.out.alloc _).below hb0)
    have HB0 := hid ((Blk.new w _ _).bel hb0)
    obtain ⟨hc0, hf0, hz0, hd0⟩ := bcell hb0; (try simp at hz0); replace hb0 := Below.via (B := w.heap.size) (a := w) (by (first | (go_grown; done) | (refine below_drewN ?_ _; go_grown; done) | (refine Below.drew (below_drewN ?_ _); go_grown; done))) hb0 (by go_size); (try have hy0 : w.heap.size < w0.heap.size := by omega); (try have hyy0 : w.heap.size + 1 < w0.heap.size := by omega)
    go_wp2_with fail
    refine (HT.out _ HR0.out).mono ?_
    rintro e w1 ⟨A1, c1, rfl, ho1, hb1⟩
    have HR1 := hid (HR0.out.below hb1)
    have HB1 := hid (HB0.out.bel hb1)
    obtain ⟨hc1, hf1, hz1, hd1⟩ := bcell hb1; (try simp at hz1); replace hb1 := Below.via (B := w.heap.size) (a := w) (by (first | (go_grown; done) | (refine below_drewN ?_ _; go_grown; done) | (refine Below.drew (below_drewN ?_ _); go_grown; done))) hb1 (by go_size); (try have hy1 : w.heap.size < w1.heap.size := by omega); (try have hyy1 : w.heap.size + 1 < w1.heap.size := by omega)
    go_wp2_with fail
    refine (HS.out _ _ _ ho1.rd).mono ?_
    rintro e w2 ⟨A2, c2, rfl, ho2, hb2⟩
    have HO2 := hid ho2
    have HR2 := hid (HR1.out.below hb2)
    have HB2 := hid (HB1.out.bel hb2)
    clear ho1 HR0 HR1 HB0 HB1
    obtain ⟨hc2, hf2, hz2, hd2⟩ := bcell hb2; (try simp at hz2); replace hb2 := Below.via (B := w.heap.size) (a := w) (by (first | (go_grown; done) | (refine below_drewN ?_ _; go_grown; done) | (refine Below.drew (below_drewN ?_ _); go_grown; done))) hb2 (by go_size); (try have hy2 : w.heap.size < w2.heap.size := by omega); (try have hyy2 : w.heap.size + 1 < w2.heap.size := by omega)
    go_wp2_with fail
    have HW2 := hid (Blk.new w2 33 #[.int .i64 kd', .int .i64 t', .int .i64 ks', .int .i64 sh', .int .i64 la', .slice A2 ys.length c2])
    refine (HT.out _ (HR2.out.alloc _)).mono ?_
    rintro e w3 ⟨A3, c3, rfl, ho3, hb3⟩
    have HO3 := hid ho3
    have HB3 := hid ((HB2.out.alloc _).bel hb3)
    have HW3 := hid (HW2.out.bel hb3)
    have HO23 := hid ((HO2.out.alloc _).below hb3)
    clear ho3 HR2 HB2 HW2
    obtain ⟨hc3, hf3, hz3, hd3⟩ := bcell hb3; (try simp at hz3); replace hb3 := Below.via (B := w.heap.size) (a := w) (by (first | (go_grown; done) | (refine below_drewN ?_ _; go_grown; done) | (refine Below.drew (below_drewN ?_ _); go_grown; done))) hb3 (by go_size); (try have hy3 : w.heap.size < w3.heap.size := by omega); (try have hyy3 : w.heap.size + 1 < w3.heap.size := by omega)
    go_wp2_with fail
    have HX3 := hid (Blk.new w3 33 #[.int .i64 kd, .int .i64 t, .int .i64 ks, .int .i64 sh, .int .i64 la, .slice A3 xs.length c3])
    refine (HI.out _ _ _ (HO3.out.rd.alloc _)).mono ?_
    rintro e w4 ⟨A4, c4, rfl, ho4, hb4⟩
    have HO4 := hid ho4
    have hap := ownsRow_apart HO3.out.2 ho4.2 (by simp)
    have hap2 := ownsRow_apart HO2.out.2 HO3.out.2 (by simp)
    have hap4 := ownsRow_apart HO23.out.2 ho4.2 (by simp)
    have hne1 := own_ne HO3.out.2 (g := w.heap.size) (by simp; omega)
    have hne2 := own_ne HO3.out.2 (g := w2.heap.size) (by simp)
    have hne3 := own_ne2 HO3.out.2 (g := w4.heap.size) (by have := hb4.size; simp at this; omega)
    have hne4 := own_ne HO4.out.2 (g := w.heap.size) (by simp; omega)
    have hne5 := own_ne HO4.out.2 (g := w2.heap.size) (by simp; omega)
    have hne6 := own_ne2 HO4.out.2 (g := w4.heap.size) (Nat.le_refl _)
    have HAP := hid (And.intro hap (And.intro hap2 (And.intro hap4 (And.intro hne1 (And.intro hne2 (And.intro hne3 (And.intro hne4 (And.intro hne5 hne6))))))))
    clear hap hap2 hap4 hne1 hne2 hne3 hne4 hne5 hne6
    have HB4 := hid ((HB3.out.alloc _).bel hb4)
    have HW4 := hid ((HW3.out.alloc _).bel hb4)
    have HX4 := hid (HX3.out.bel hb4)
    have HO24 := hid ((HO23.out.alloc _).below hb4)
    have HO34 := hid ((HO3.out.alloc _).below hb4)
    clear ho4 HB3 HW3 HX3 HO23
    obtain ⟨hc4, hf4, hz4, hd4⟩ := bcell hb4; (try simp at hz4); replace hb4 := Below.via (B := w.heap.size) (a := w) (by (first | (go_grown; done) | (refine below_drewN ?_ _; go_grown; done) | (refine Below.drew (below_drewN ?_ _); go_grown; done))) hb4 (by go_size); (try have hy4 : w.heap.size < w4.heap.size := by omega); (try have hyy4 : w.heap.size + 1 < w4.heap.size := by omega)
    have e0 := fun o => (HW4.out.alloc o).six.1
    have e1 := fun o => (HW4.out.alloc o).six.2.1
    have e2 := fun o => (HW4.out.alloc o).six.2.2.1
    have e3 := fun o => (HW4.out.alloc o).six.2.2.2.1
    have e4 := fun o => (HW4.out.alloc o).six.2.2.2.2.1
    have e5 := fun o => (HW4.out.alloc o).six.2.2.2.2.2
    go_wp2_with fail
    clear e0 e1 e2 e3 e4 e5
    have HG4 := hid (Blk.new w4 33 #[.int .i64 kd', .int .i64 t', .int .i64 ks', .int .i64 sh', .int .i64 la', .slice A4 ys.length c4])
    refine (HF.out _ _ _ _ _ (HO4.out.rs.alloc _) (HO24.out.rs.alloc _)).mono ?_
    rintro e w5 ⟨rfl, hb5⟩
    have HX5 := hid ((HX4.out.alloc _).bel hb5)
    have HO35 := hid ((HO34.out.alloc _).below hb5)
    have hbw5 : Below w.heap.size w w5 := Below.step (hb4.alloc (by omega) _) hb5
    have C5 : Hid (Cx w w5 (fun v => #[.int .i64 kd, .int .i64 t, .int .i64 ks, .int .i64 sh, .int .i64 la, v]) A xs.length cap xs w2.heap.size w4.heap.size _ _ _ _ A2 A4 ys.length c2 c4 ys ys) :=
      ⟨hbw5, (HB4.out.alloc _).bel hb5, (HW4.out.alloc _).bel hb5, HG4.out.bel hb5, (HO24.out.alloc _).below hb5, (HO4.out.alloc _).below hb5⟩
    have hr5 := HR.out.below hbw5
    have hx5 := HO35.out.rs
    clear HB4 HW4 HX4 HO24 HO34 HG4 HO4
    obtain ⟨q0, q1, q2, q3, q4, q5⟩ := C5.out.d.six
    obtain ⟨y0, y1, y2, y3, y4, y5⟩ := HX5.out.six
    obtain ⟨hc5, hf5, hz5, hd5⟩ := bcell hb5; (try simp at hz5); replace hb5 := Below.via (B := w.heap.size) (a := w) (by (first | (go_grown; done) | (refine below_drewN ?_ _; go_grown; done) | (refine Below.drew (below_drewN ?_ _); go_grown; done))) hb5 (by go_size); (try have hy5 : w.heap.size < w5.heap.size := by omega); (try have hyy5 : w.heap.size + 1 < w5.heap.size := by omega)
    clear hc1 hf1 hd1 hc2 hf2 hd2 hc3 hf3 hd3 hc4 hf4 hd4 hc0 hf0 hd0
    go_upto_region 10 with (fail)
    go_cut [49] (fun s49 wx => s49 = .bool false ∧ Below w5.heap.size w5 wx)
    case first =>
      go_region_held3 (fun w' => w'.cell? ⟨w3.heap.size, 0, none⟩ = some (.int .i64 kd) ∧ w'.cell? ⟨w3.heap.size, 1, none⟩ = some (.int .i64 t) ∧ w'.cell? ⟨w3.heap.size, 2, none⟩ = some (.int .i64 ks) ∧ w'.cell? ⟨w3.heap.size, 3, none⟩ = some (.int .i64 sh) ∧ w'.cell? ⟨w3.heap.size, 4, none⟩ = some (.int .i64 la) ∧ w'.cell? ⟨w3.heap.size, 5, none⟩ = some (.slice A3 xs.length c3) ∧ w'.cell? ⟨w.heap.size, 0, none⟩ = some (.int .i64 kd) ∧ w'.cell? ⟨w.heap.size, 1, none⟩ = some (.int .i64 t) ∧ w'.cell? ⟨w.heap.size, 2, none⟩ = some (.int .i64 ks) ∧ w'.cell? ⟨w.heap.size, 3, none⟩ = some (.int .i64 sh) ∧ w'.cell? ⟨w.heap.size, 4, none⟩ = some (.int .i64 la) ∧ w'.cell? ⟨w.heap.size, 5, none⟩ = some (.slice A xs.length cap) ∧ Below w5.heap.size w5 w' ∧ RdS w' A xs.length xs ∧ RdS w' A3 xs.length xs) (and_intros <;> first | assumption | (exact Below.drew (by assumption)) | (exact Below.drew (Below.refl _ _)) | (exact RdS.drew (by assumption)) | (simp (maxDischargeDepth := 20) [*]; done)) (first | (go_at_call 26; (with_reducible refine (HT.out _ (by (first | assumption | (exact RdS.drew (by assumption))))).mono ?_); rintro e w6 ⟨A6, c6, rfl, ho6, hb6⟩; have hr6 := RdS.below (A := A) (by (first | assumption | (exact RdS.drew (by assumption)))) hb6; have hx6 := RdS.below (A := A3) (by (first | assumption | (exact RdS.drew (by assumption)))) hb6; have hy6 := ho6.rs; have hq6 : Below w5.heap.size w5 w6 := Below.step (a := w5) (by first | assumption | exact Below.drew (by assumption) | exact Below.drew (Below.refl _ _)) hb6; obtain ⟨hc6, hf6, hz6, hd6⟩ := bcell hb6; replace hb6 := Below.step (by first | assumption | exact Below.drew (by assumption)) hb6) | (go_at_call 28; (with_reducible refine (HE.out _ _ _ _ _ (by (first | assumption | (exact RdS.drew (by assumption)))) (by (first | assumption | (exact RdS.drew (by assumption))))).mono ?_); rintro e w7 ⟨rfl, hb7⟩; have hr7 := RdS.below (A := A) (by (first | assumption | (exact RdS.drew (by assumption)))) hb7; have hx7 := RdS.below (A := A3) (by (first | assumption | (exact RdS.drew (by assumption)))) hb7; have hq7 : Below w5.heap.size w5 w7 := Below.step (a := w5) (by first | assumption | exact Below.drew (by assumption) | exact Below.drew (Below.refl _ _)) hb7; obtain ⟨hc7, hf7, hz7, hd7⟩ := bcell hb7; replace hb7 := Below.step (by first | assumption | exact Below.drew (by assumption)) hb7))
      all_goals
        go_wp2_with fail
        go_meet
        exact ⟨rfl, by first | assumption | exact Below.drew (by assumption)⟩
    case rest =>
      obtain ⟨rfl, hb6⟩ := hcut
      have HO36 := hid (HO35.out.below hb6)
      have C6 := hid (C5.out.below hb6)
      have HX6 := hid (HX5.out.bel hb6)
      clear q0 q1 q2 q3 q4 q5 y0 y1 y2 y3 y4 y5 hr5 hx5 C5 HX5 HO35 hb5 hb4 hb3 hb2 hb1 hb0 hz5 hz4 hz3 hz2 hz1 hz0 hc5 hf5 hd5
      obtain ⟨y0, y1, y2, y3, y4, y5⟩ := HX6.out.six
      go_wp2_with fail
      refine (markDebouncer_any HO36.out (by omega) kd t ks sh la 1 (by omega) (by omega)).mono ?_
      rintro e w7 ⟨rfl, _, hg7⟩
      clear y0 y1 y2 y3 y4 y5
      obtain ⟨hap, hap2, hap4, hne1, hne2, hne3, hne4, hne5, hne6⟩ := HAP.out
      have C7 : Hid (Cx w w7 (fun v => #[.int .i64 kd, .int .i64 t, .int .i64 ks, .int .i64 sh, .int .i64 la, v]) A xs.length cap xs w2.heap.size w4.heap.size _ _ _ _ A2 A4 ys.length c2 c4 ys ys) :=
        ⟨below_of_grown C6.out.b HO36.out.2 (by simp; omega) hg7, C6.out.d.grown hg7 hne1, C6.out.w0.grown hg7 hne2, C6.out.g0.grown hg7 hne3, C6.out.o2.keptL hg7 hap2, C6.out.o4.keptL hg7 (apart_symm hap)⟩
      clear hg7 hb6 HX6 HO36 C6 hap hap2 hap4 hne1 hne2 hne3 hne4 hne5 hne6
      obtain ⟨q0, q1, q2, q3, q4, q5⟩ := C7.out.w0.six
      obtain ⟨y0, y1, y2, y3, y4, y5⟩ := C7.out.g0.six
      go_wp2_with fail
      refine (HF.out _ _ _ _ _ C7.out.o4.rs C7.out.o2.rs).mono ?_
      rintro e w8 ⟨rfl, hb8⟩
      have C8 := hid (C7.out.below hb8)
      clear hb8 C7 q0 q1 q2 q3 q4 q5 y0 y1 y2 y3 y4 y5
      obtain ⟨y0, y1, y2, y3, y4, y5⟩ := C8.out.g0.six
      go_wp2_with fail
      refine (markDebouncer_any C8.out.o4 (by omega) kd' t' ks' sh' la' 1 (by omega) (by omega)).mono ?_
      rintro e w9 ⟨rfl, ho9, hg9⟩
      clear y0 y1 y2 y3 y4 y5
      obtain ⟨hap, hap2, hap4, hne1, hne2, hne3, hne4, hne5, hne6⟩ := HAP.out
      have C9 : Hid (Cx w w9 (fun v => #[.int .i64 kd, .int .i64 t, .int .i64 ks, .int .i64 sh, .int .i64 la, v]) A xs.length cap xs w2.heap.size w4.heap.size _ _ _ _ A2 A4 ys.length c2 c4 ys (marks 1 ys.length)) :=
        ⟨below_of_grown C8.out.b C8.out.o4.2 (by simp; omega) hg9, C8.out.d.grown hg9 hne4, C8.out.w0.grown hg9 hne5, C8.out.g0.grown hg9 hne6, C8.out.o2.keptL hg9 hap4, ho9⟩
      clear ho9 hg9 C8 hap hap2 hap4 hne1 hne2 hne3 hne4 hne5 hne6
      obtain ⟨y0, y1, y2, y3, y4, y5⟩ := C9.out.g0.six
      go_wp2_with fail
      refine (heldDebouncer_any C9.out.o4.rd (by omega) kd' t' ks' sh' la' (by omega) (by omega)).mono ?_
      rintro e w10 ⟨rfl, hb10⟩
      have C10 := hid (C9.out.below hb10)
      clear hb10 C9 y0 y1 y2 y3 y4 y5
      obtain ⟨q0, q1, q2, q3, q4, q5⟩ := C10.out.d.six
      go_wp2_with fail
      refine (HT.out _ (HR.out.below C10.out.b)).mono ?_
      rintro e w11 ⟨A11, c11, rfl, ho11, hb11⟩
      have C11 := hid (C10.out.below hb11)
      clear hb11 C10 q0 q1 q2 q3 q4 q5
      go_wp2_with fail
      refine (HI.out _ _ _ ho11.rd).mono ?_
      rintro e w12 ⟨A12, c12, rfl, ho12, hb12⟩
      have C12 := hid (C11.out.below hb12)
      have HO12 := hid ho12
      clear hb12 C11 ho11 ho12
      have e0 := fun o => (C12.out.w0.alloc o).six.1
      have e1 := fun o => (C12.out.w0.alloc o).six.2.1
      have e2 := fun o => (C12.out.w0.alloc o).six.2.2.1
      have e3 := fun o => (C12.out.w0.alloc o).six.2.2.2.1
      have e4 := fun o => (C12.out.w0.alloc o).six.2.2.2.2.1
      have e5 := fun o => (C12.out.w0.alloc o).six.2.2.2.2.2
      go_wp2_with fail
      refine (HF.out _ _ _ _ _ (HO12.out.rs.alloc _) (C12.out.o2.rs.alloc _)).mono ?_
      rintro e w13 ⟨rfl, hb13⟩
      have C13 := hid ((C12.out.alloc _).below hb13)
      clear hb13 C12 HO12 e0 e1 e2 e3 e4 e5
      obtain ⟨y0, y1, y2, y3, y4, y5⟩ := C13.out.g0.six
      go_wp2_with fail
      refine (heldDebouncer_any C13.out.o4.rd (by omega) kd' t' ks' sh' la' (by omega) (by omega)).mono ?_
      rintro e w14 ⟨rfl, hb14⟩
      have C14 := hid (C13.out.below hb14)
      clear hb14 C13 y0 y1 y2 y3 y4 y5
      go_wp2
      go_ret
      exact ⟨rfl, C14.out.b⟩
end Go.Proofs.Ytdaabndngcebgaa
