/- The laws' helpers on debouncers: copied, compared, marked, held against marks. Conditions: at most 2^20 ages. -/
import Derived.Test.YtdaabndngcebgaaDebA
namespace Go.Proofs.Ytdaabndngcebgaa
open Go.RowKit
set_option linter.unusedVariables false

theorem loadD {w : World} {g : Nat} {v0 v1 v2 v3 v4 v5 : Value} (hb : Blk w g 33 #[v0, v1, v2, v3, v4, v5]) : (loadVar 33 ⟨g, 0, none⟩).run Try.prog w = .ok (.agg #[v0, v1, v2, v3, v4, v5]) w := by
  have q0 := hb.cell 0
  have q1 := hb.cell 1
  have q2 := hb.cell 2
  have q3 := hb.cell 3
  have q4 := hb.cell 4
  have q5 := hb.cell 5
  simp only [List.getElem?_toArray, List.getElem?_cons_zero, List.getElem?_cons_succ] at q0 q1 q2 q3 q4 q5
  simp [loadVar, go_sem, q0, q1, q2, q3, q4, q5]
/-- A return of a debouncer that lies in a block of its own. -/
theorem retD {fn : Func} {R : Ending → World → Prop} {a : Act} {w : World} {s g : Nat} {v0 v1 v2 v3 v4 v5 : Value} (hr : fn.results = #[.cell s 33]) (hd : a.defers = []) (hp : a.tmps.getD s undef = .pointer (some ⟨g, 0, none⟩))
    (hb : Blk w g 33 #[v0, v1, v2, v3, v4, v5]) (hR : R (.returned (.agg #[v0, v1, v2, v3, v4, v5])) w) : bodyPost Try.prog fn R .ret a w :=
  bodyPost_ret (v := .agg #[v0, v1, v2, v3, v4, v5]) (by rw [Array.getD_eq_getD_getElem?] at hp; simp [results, hr, hp, asAddr, loadD hb]) hd hR
theorem retD2 {fn : Func} {R : Ending → World → Prop} {a : Act} {w : World} {s u g : Nat} {v0 v1 v2 v3 v4 v5 v : Value} (hr : fn.results = #[.cell s 33, .tmp u]) (hd : a.defers = []) (hp : a.tmps.getD s undef = .pointer (some ⟨g, 0, none⟩))
    (hb : Blk w g 33 #[v0, v1, v2, v3, v4, v5]) (hv : a.tmps.getD u undef = v) (hR : R (.returned (.tuple #[.agg #[v0, v1, v2, v3, v4, v5], v])) w) : bodyPost Try.prog fn R .ret a w :=
  bodyPost_ret (v := .tuple #[.agg #[v0, v1, v2, v3, v4, v5], v]) (by rw [Array.getD_eq_getD_getElem?] at hp hv; simp [results, hr, hp, hv, asAddr, loadD hb]) hd hR
theorem retD3 {fn : Func} {R : Ending → World → Prop} {a : Act} {w : World} {s u x g : Nat} {v0 v1 v2 v3 v4 v5 v v' : Value} (hr : fn.results = #[.cell s 33, .tmp u, .tmp x]) (hd : a.defers = []) (hp : a.tmps.getD s undef = .pointer (some ⟨g, 0, none⟩))
    (hb : Blk w g 33 #[v0, v1, v2, v3, v4, v5]) (hv : a.tmps.getD u undef = v) (hv' : a.tmps.getD x undef = v') (hR : R (.returned (.tuple #[.agg #[v0, v1, v2, v3, v4, v5], v, v'])) w) : bodyPost Try.prog fn R .ret a w :=
  bodyPost_ret (v := .tuple #[.agg #[v0, v1, v2, v3, v4, v5], v, v']) (by rw [Array.getD_eq_getD_getElem?] at hp hv hv'; simp [results, hr, hp, hv, hv', asAddr, loadD hb]) hd hR
/-- What a copy hands back. -/
def MadeD (w : World) (kd t ks sh la : Int) (xs : List Int) (e : Ending) (w' : World) : Prop :=
  ∃ (A : Option Addr) (cap : Nat), e = .returned (dbV kd t ks sh la A xs.length cap) ∧ Own w' w.heap.size A xs.length cap xs ∧ Below w.heap.size w w'
set_option maxHeartbeats 1000000 in
theorem toDebouncer_any {w : World} {A : Option Addr} {n cap : Nat} {xs : List Int} (h : RdI w A n xs) (hn : n ≤ 1048576) (kd t ks sh la : Int) : Calls Try.prog 26 #[dbV kd t ks sh la A n cap] w (MadeD w kd t ks sh la xs) := by
  have HR := hid h; clear h
  have HN := hid hn
  go_enter Try.func26, Try.ntmps26
  go_wp2_with (go_at_call 14; (with_reducible refine (toIntS_any (((HR.out.alloc _).alloc _).alloc _) HN.out).mono ?_); rintro e w1 ⟨A1, c1, rfl, ho1, hb1⟩; have HB1 := hid hb1; obtain ⟨hc1, hf1, hz1, hd1⟩ := bcell hb1; (try simp at hz1); replace hb1 := Below.via (B := w.heap.size) (a := w) (by (first | (go_grown; done) | (refine below_drewN ?_ _; go_grown; done) | (refine Below.drew (below_drewN ?_ _); go_grown; done))) hb1 (by go_size); (try have hy1 : w.heap.size < w1.heap.size := by omega); (try have hyy1 : w.heap.size + 1 < w1.heap.size := by omega); have HO := hid ho1; clear ho1)
  refine retD Try.results26 rfl rfl (g := w.heap.size + 1) (v0 := .int .i64 kd) (v1 := .int .i64 t) (v2 := .int .i64 ks) (v3 := .int .i64 sh) (v4 := .int .i64 la) (v5 := .slice A1 xs.length c1) ?_ ?_
  · have h0 := ((Blk.new (w.alloc _) _ _).alloc _).below HB1.out (by simp)
    simp only [World.size_alloc] at h0
    have h1 := ((((((h0.far (p := ⟨w.heap.size + 1 + 1, 5, none⟩) (by simp) (.slice A1 xs.length c1)).set_ 0 (.int .i64 kd)).set_ 1 (.int .i64 t)).set_ 2 (.int .i64 ks)).set_ 3 (.int .i64 sh)).set_ 4 (.int .i64 la)).set_ 5 (.slice A1 xs.length c1)
    exact h1
  · refine ⟨A1, c1, rfl, ?_, by go_grown⟩
    exact (((((((HO.out.far (by simp) _).far (by simp) _).far (by simp) _).far (by simp) _).far (by simp) _).far (by simp) _).far (by simp) _).base (by simp; omega)
set_option maxHeartbeats 1000000 in
theorem eqDebouncer_same {w : World} {A B : Option Addr} {n c d : Nat} {xs : List Int} (h : RdI w A n xs) (h' : RdI w B n xs) (hn : n ≤ 1048576) (kd t ks sh la : Int) :
    Calls Try.prog 28 #[dbV kd t ks sh la A n c, dbV kd t ks sh la B n d] w fun e w' => e = .returned (.bool true) ∧ Below w.heap.size w w' := by
  have HA := hid h; clear h
  have HB := hid h'; clear h'
  have HN := hid hn
  go_enter Try.func28, Try.ntmps28
  go_wp2_with (go_at_call 16; (with_reducible refine (eqIntS_same ((HA.out.alloc _).alloc _) ((HB.out.alloc _).alloc _) HN.out).mono ?_); rintro e w1 ⟨rfl, hb1⟩; have HB1 := hid hb1; clear hb1)
  go_ret
  exact ⟨rfl, Below.via (by (first | (go_grown; done) | (refine below_drewN ?_ _; go_grown; done) | (refine Below.drew (below_drewN ?_ _); go_grown; done))) HB1.out (by go_size)⟩
theorem only_first {a w : World} {row : Option Nat} {o : Obj} (h : (a.alloc o).grownBy w row) : a.grownBy w row :=
  ⟨h.os, h.tape, h.output, Nat.le_trans (by simp) h.size, fun i hi hne => (h.block i (by simp; omega) hne).trans (Below.heap_alloc a o i hi)⟩
theorem markDebouncer_any {w : World} {base : Nat} {A : Option Addr} {n cap : Nat} {xs : List Int} (h : Own w base A n cap xs) (hn : n ≤ 1048576) (kd t ks sh la : Int) (k : Int) (hk0 : 0 ≤ k) (hk : k ≤ 1099511627776) :
    Calls Try.prog 31 #[dbV kd t ks sh la A n cap, .int .i64 k] w (MarkedI w base A n cap k) := by
  have HA := hid h; clear h
  have HN := hid hn
  go_enter Try.func31, Try.ntmps31
  go_wp2_with (go_at_call 37; (with_reducible refine (markIntS_any (HA.out.alloc _) HN.out k hk0 hk).mono ?_); rintro e w1 ⟨rfl, ho1, hg1⟩; have HO := hid ho1; have HG := hid hg1; clear ho1 hg1)
  go_ret
  exact ⟨rfl, HO.out, only_first HG.out⟩
theorem heldDebouncer_any {w : World} {A : Option Addr} {n cap : Nat} {k : Int} (h : RdI w A n (marks k n)) (hn : n ≤ 1048576) (kd t ks sh la : Int) (hk0 : 0 ≤ k) (hk : k ≤ 1099511627776) :
    Calls Try.prog 32 #[dbV kd t ks sh la A n cap, .int .i64 k] w fun e w' => e = .returned (.int .i64 (k + n)) ∧ Below w.heap.size w w' := by
  have HA := hid h; clear h
  have HN := hid hn
  go_enter Try.func32, Try.ntmps32
  go_wp2_with (go_at_call 38; (with_reducible refine (heldIntS_any (HA.out.alloc _) HN.out hk0 hk).mono ?_); rintro e w1 ⟨rfl, rfl⟩)
  go_ret
  exact ⟨rfl, by (first | (go_grown; done) | (refine below_drewN ?_ _; go_grown; done) | (refine Below.drew (below_drewN ?_ _); go_grown; done))⟩
end Go.Proofs.Ytdaabndngcebgaa
