/- The laws' helpers on debouncers: copied, compared, marked, held against marks. Conditions: at most 2^20 ages. -/
import Derived.Test.YthjgapjagfjamaaDebA
namespace Go.Proofs.Ythjgapjagfjamaa
open Go.RowKit
set_option linter.unusedVariables false

theorem loadD {w : World} {g : Nat} {v0 v1 v2 v3 v4 v5 : Value} (hb : Blk w g 52 #[v0, v1, v2, v3, v4, v5]) : (loadVar 52 ⟨g, 0, none⟩).run Try.prog w = .ok (.agg #[v0, v1, v2, v3, v4, v5]) w := by
  have q0 := hb.cell 0
  have q1 := hb.cell 1
  have q2 := hb.cell 2
  have q3 := hb.cell 3
  have q4 := hb.cell 4
  have q5 := hb.cell 5
  simp only [List.getElem?_toArray, List.getElem?_cons_zero, List.getElem?_cons_succ] at q0 q1 q2 q3 q4 q5
  simp [loadVar, go_sem, q0, q1, q2, q3, q4, q5]
/-- A return of a debouncer that lies in a block of its own. -/
theorem retD {fn : Func} {R : Ending → World → Prop} {a : Act} {w : World} {s g : Nat} {v0 v1 v2 v3 v4 v5 : Value} (hr : fn.results = #[.cell s 52]) (hd : a.defers = []) (hp : a.tmps.getD s undef = .pointer (some ⟨g, 0, none⟩))
    (hb : Blk w g 52 #[v0, v1, v2, v3, v4, v5]) (hR : R (.returned (.agg #[v0, v1, v2, v3, v4, v5])) w) : bodyPost Try.prog fn R .ret a w :=
  bodyPost_ret (v := .agg #[v0, v1, v2, v3, v4, v5]) (by rw [Array.getD_eq_getD_getElem?] at hp; simp [results, hr, hp, asAddr, loadD hb]) hd hR
theorem retD2 {fn : Func} {R : Ending → World → Prop} {a : Act} {w : World} {s u g : Nat} {v0 v1 v2 v3 v4 v5 v : Value} (hr : fn.results = #[.cell s 52, .tmp u]) (hd : a.defers = []) (hp : a.tmps.getD s undef = .pointer (some ⟨g, 0, none⟩))
    (hb : Blk w g 52 #[v0, v1, v2, v3, v4, v5]) (hv : a.tmps.getD u undef = v) (hR : R (.returned (.tuple #[.agg #[v0, v1, v2, v3, v4, v5], v])) w) : bodyPost Try.prog fn R .ret a w :=
  bodyPost_ret (v := .tuple #[.agg #[v0, v1, v2, v3, v4, v5], v]) (by rw [Array.getD_eq_getD_getElem?] at hp hv; simp [results, hr, hp, hv, asAddr, loadD hb]) hd hR
theorem retD3 {fn : Func} {R : Ending → World → Prop} {a : Act} {w : World} {s u x g : Nat} {v0 v1 v2 v3 v4 v5 v v' : Value} (hr : fn.results = #[.cell s 52, .tmp u, .tmp x]) (hd : a.defers = []) (hp : a.tmps.getD s undef = .pointer (some ⟨g, 0, none⟩))
    (hb : Blk w g 52 #[v0, v1, v2, v3, v4, v5]) (hv : a.tmps.getD u undef = v) (hv' : a.tmps.getD x undef = v') (hR : R (.returned (.tuple #[.agg #[v0, v1, v2, v3, v4, v5], v, v'])) w) : bodyPost Try.prog fn R .ret a w :=
  bodyPost_ret (v := .tuple #[.agg #[v0, v1, v2, v3, v4, v5], v, v']) (by rw [Array.getD_eq_getD_getElem?] at hp hv hv'; simp [results, hr, hp, hv, hv', asAddr, loadD hb]) hd hR
/-- What a copy hands back. -/
def MadeD (w : World) (kd t ks sh la : Int) (xs : List Int) (e : Ending) (w' : World) : Prop :=
  ∃ (A : Option Addr) (cap : Nat), e = .returned (dbV kd t ks sh la A xs.length cap) ∧ Own w' w.heap.size A xs.length cap xs ∧ Below w.heap.size w w'
end Go.Proofs.Ythjgapjagfjamaa
