/- A debouncer by value, opened to its fields (the law on a struct of six fields is of the kit's page of words to copy). Conditions: none of its own. -/
import Derived.Test.YtdaabndngcebgaaFrame
import Derived.Test.YtdaabndngcebgaaDebB
namespace Go.Proofs.Ytdaabndngcebgaa
open Go.ChangeShapes Go.WideShapes Go.ChangeAt Go.RowKit Go.Joins Go.Deep
set_option linter.unusedVariables false
section
variable {H : Type} {enc : TypeId × Value → H} {P : Program} {w : World} {base : Nat} {spare : Nat → Bool} {held : Bool}
theorem open_agg6 {r : Reach} {b0 : Nat} {t : TypeId} {f0 f1 f2 f3 f4 f5 : Field} {v : Value} {d : DataW H} {p : List MemPlace} (hs : P.underlying t = some (.struct #[f0, f1, f2, f3, f4, f5])) (hone : oneCellFields P #[f0, f1, f2, f3, f4, f5] = true) (hC : P.cellsOf t = 6)
    (hv : Value.okWide P w r b0 t v) (h : DataW.Trod enc P w base spare held t v d p) :
    ∃ (v0 v1 v2 v3 v4 v5 : Value) (y0 y1 y2 y3 y4 y5 : DataW H × List MemPlace) (n : Nat), v = .agg #[v0, v1, v2, v3, v4, v5] ∧ d = .agg [y0.1, y1.1, y2.1, y3.1, y4.1, y5.1] ∧ p = y0.2 ++ (y1.2 ++ (y2.2 ++ (y3.2 ++ (y4.2 ++ y5.2)))) ∧
      DataW.trod enc P w base spare held n f0.type [v0] = some y0 ∧ DataW.trod enc P w base spare held n f1.type [v1] = some y1 ∧ DataW.trod enc P w base spare held n f2.type [v2] = some y2 ∧ DataW.trod enc P w base spare held n f3.type [v3] = some y3 ∧ DataW.trod enc P w base spare held n f4.type [v4] = some y4 ∧ DataW.trod enc P w base spare held n f5.type [v5] = some y5 := by
  obtain ⟨cs, rfl, hsz⟩ := okWide_struct hs hv
  obtain ⟨l⟩ := cs
  match l, hsz.trans hC with
  | [c0, c1, c2, c3, c4, c5], _ =>
    obtain ⟨fuel, hf⟩ := h
    obtain ⟨xs, n, _, hx, _, hlen, hg⟩ := DataW.trod_struct hs hf
    obtain ⟨o0, k0⟩ := hone_of hone 0 f0 rfl
    obtain ⟨o1, k1⟩ := hone_of hone 1 f1 rfl
    obtain ⟨o2, k2⟩ := hone_of hone 2 f2 rfl
    obtain ⟨o3, k3⟩ := hone_of hone 3 f3 rfl
    obtain ⟨o4, k4⟩ := hone_of hone 4 f4 rfl
    obtain ⟨o5, k5⟩ := hone_of hone 5 f5 rfl
    match xs, hlen with
    | [y0, y1, y2, y3, y4, y5], _ =>
      simp only [Prod.mk.injEq] at hx
      exact ⟨c0, c1, c2, c3, c4, c5, y0, y1, y2, y3, y4, y5, n, rfl, by simpa using hx.1, by simpa using hx.2, by simpa [Value.cells, o0, k0] using hg 0 f0 rfl, by simpa [Value.cells, o1, k1] using hg 1 f1 rfl, by simpa [Value.cells, o2, k2] using hg 2 f2 rfl, by simpa [Value.cells, o3, k3] using hg 3 f3 rfl, by simpa [Value.cells, o4, k4] using hg 4 f4 rfl, by simpa [Value.cells, o5, k5] using hg 5 f5 rfl⟩
end
section
variable {H : Type} {enc : TypeId × Value → H}
theorem open_debouncer {W : World} {v : Value} {d : DataW H} {p : List MemPlace} {r : Reach} {b0 : Nat} (hv : Value.okWide Try.prog W r b0 38 v)
    (h : DataW.Trod enc Try.prog W 0 (fun _ => true) true 38 v d p) (hlt : ∀ x ∈ p, x.block < W.heap.size) :
    ∃ (kd t ks sh la : Int) (A : Option Addr) (n c : Nat) (zs : List Int), v = dbV kd t ks sh la A n c ∧ InInts W A n zs := by
  obtain ⟨c0, c1, c2, c3, c4, c5, y0, y1, y2, y3, y4, y5, m, rfl, rfl, rfl, h0, h1, h2, h3, h4, h5⟩ := open_agg6 Try.underlying38 (by kernel_rfl) (by kernel_rfl) hv h
  obtain ⟨a0, e0, _⟩ := DataW.trod_int Try.underlying3 h0
  obtain ⟨a1, e1, _⟩ := DataW.trod_int Try.underlying3 h1
  obtain ⟨a2, e2, _⟩ := DataW.trod_int Try.underlying3 h2
  obtain ⟨a3, e3, _⟩ := DataW.trod_int Try.underlying3 h3
  obtain ⟨a4, e4, _⟩ := DataW.trod_int Try.underlying3 h4
  simp only [List.cons.injEq, and_true] at e0 e1 e2 e3 e4
  subst e0 e1 e2 e3 e4
  have hs : ∃ A n c, c5 = .slice A n c := by
    rcases open_ints Try.underlying22 Try.underlying3 (by kernel_rfl) h5 with ⟨hcs, _⟩ | ⟨x, l, c', zs, hcs, _⟩
    · simp only [List.cons.injEq, and_true] at hcs; exact ⟨_, _, _, hcs⟩
    · simp only [List.cons.injEq, and_true] at hcs; exact ⟨_, _, _, hcs⟩
  obtain ⟨A, n, c, rfl⟩ := hs
  obtain ⟨zs, hz⟩ := open_reads_int (W := W) (A := A) (n := n) (c := c) Try.underlying22 Try.underlying3 (by kernel_rfl) ⟨m, h5⟩ (fun x hx => hlt x (by simp [hx]))
  exact ⟨a0, a1, a2, a3, a4, A, n, c, zs, rfl, hz⟩
end
end Go.Proofs.Ytdaabndngcebgaa
