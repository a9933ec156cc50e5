/- A new debouncer, by contract in both programs. Conditions: none. -/
import Derived.Test.YthjgapjagfjamaaDebS
import Derived.Test.YthjgapjagfjamaaDebB0
namespace Go.Proofs.Ythjgapjagfjamaa
open Go.RowKit
set_option linter.unusedVariables false

def n99 (n : Nat) : List Int := List.replicate n 99
theorem n99_length (n : Nat) : (n99 n).length = n := by unfold n99; simp
theorem n99_succ (n : Nat) : n99 (n + 1) = n99 n ++ [99] := by unfold n99; rw [List.replicate_succ']
/-- The measure of a loop whose counter is the length of a slice in a box. -/
def muO (O n : Nat) (wr : World) : Nat := match wr.cell? ⟨O, 5, none⟩ with
  | some (.slice _ l _) => n - l
  | _ => 0
theorem muO_eq {w : World} {g n l c : Nat} {t : TypeId} {v0 v1 v2 v3 v4 : Value} {A : Option Addr} (h : Blk w g t #[v0, v1, v2, v3, v4, .slice A l c]) : muO g n w = n - l := by
  unfold muO; rw [h.six.2.2.2.2.2]
/-- What comes of it. -/
structure NewR (kd t ks : Int) (m : Nat) (ok : Bool) (kd' t' ks' : Int) (ys : List Int) : Prop where
  is : ok = true ↔ DbOk kd t ks 0 0 (n99 m)
  yes : ok = true → kd' = kd ∧ t' = t ∧ ks' = ks ∧ ys = n99 m
  no : ok = false → kd' = 0 ∧ t' = 0 ∧ ks' = 0 ∧ ys = []
/-- What is handed back. -/
def SteppedN (w : World) (kd t ks : Int) (ys : List Int) (ok : Bool) (e : Ending) (w' : World) : Prop :=
  ∃ (A : Option Addr) (cap : Nat), e = .returned (.tuple #[dbV kd t ks 0 0 A ys.length cap, .bool ok]) ∧ Own w' w.heap.size A ys.length cap ys ∧ Below w.heap.size w w'
set_option maxHeartbeats 1000000 in
theorem sNewDebouncer_in (kd t : Int) (m : Nat) (hm : m ≤ 24) {ok : Bool} {kd' t' ks' : Int} {ys : List Int} (hr : NewR kd t m m ok kd' t' ks' ys) (w : World) :
    Calls Try.prog 42 #[.int .i64 kd, .int .i64 t, .int .i64 m] w (SteppedN w kd' t' ks' ys ok) := by
  obtain ⟨i0, hi, hz0, hz1, hz2⟩ := info_parts int_info
  have HI0 := hid (And.intro hi (And.intro hz0 (And.intro hz1 hz2))); clear hi hz0 hz1 hz2
  have HRR := hid hr; clear hr
  have HI := hid (fun (w : World) (A : Option Addr) (c : Nat) (h : RdI w A m (n99 m)) => sIsDebouncer_any (cap := c) h (by omega) kd t m 0 0 ok HRR.out.is)
  go_enter Try.func42, Try.ntmps42
  go_wp2
  go_loopw [9] (fun i wr => ∃ (k : Nat) (A : Option Addr) (c : Nat), k ≤ m ∧ i = .int .i64 k ∧ Blk wr w.heap.size 52 #[.int .i64 0, .int .i64 0, .int .i64 0, .int .i64 0, .int .i64 0, .slice none 0 0] ∧
      Blk wr (w.heap.size + 1) 52 #[.int .i64 kd, .int .i64 t, .int .i64 m, .int .i64 0, .int .i64 0, .slice A k c] ∧
      wr.ownsRow (w.heap.size + 2) 3 1 (.slice A k c) k (ints (n99 k)) ∧ Below w.heap.size w wr) (fun i _ => m - (intOf i).toNat)
  case atStart =>
    refine ⟨0, none, 0, Nat.zero_le _, rfl, (Blk.new w _ _).alloc _, ?_, World.ownsRow_nil _ _ _ _, by go_grown⟩
    have q := Blk.new (w.alloc (.cells #[.int .i64 0, .int .i64 0, .int .i64 0, .int .i64 0, .int .i64 0, .slice none 0 0] 52)) 52 #[.int .i64 kd, .int .i64 t, .int .i64 m, .int .i64 0, .int .i64 0, .slice none 0 0]
    rw [World.size_alloc] at q
    exact q
  case round =>
    obtain ⟨k, A, c, hk, rfl, hBr, hBo, hown, hbel⟩ := hrel
    obtain ⟨y0, y1, y2, y3, y4, y5⟩ := hBo.six
    have hlt2 := hBo.lt
    have hf5 := hBo.frozen 5
    have HBr := hid hBr
    have HBo := hid hBo
    have HOwn := hid hown
    clear hBr hBo hown
    by_cases hlk : k < m
    · have h1 : ∀ u ∈ [Value.int .i64 99], u.oneCell' = true := by intro u hu; simp at hu; subst hu; rfl
      have hlk2 : (k : Int) < (m : Int) := by omega
      have hm2 : (m : Int) ≤ 24 := by omega
      go_wp2_with (at_builtin; refine wpList_append_any _ rfl _ _ 37 rfl (w.heap.size + 2) 3 i0 (.int .i64 0) 1 8 Try.underlying37 HI0.out.1 HI0.out.2.1 HI0.out.2.2.1 HI0.out.2.2.2 rfl (by decide) _ _ _ rfl (HOwn.out.alloc _) (wr.heap.size + 1) _ 1 1 [.int .i64 99] rfl (reads_new wr #[.int .i64 99] 3 rfl) h1 (by unfold maxLen; omega) (by omega) (by simp; omega) ?_; intro v' w2 hown1 hg1 hat1; obtain ⟨A', c', rfl⟩ := ownsRow_form hown1; have hb2 := below_app hbel HOwn.out (by omega) hg1; have HBr2 := hid (HBr.out.app HOwn.out (by omega) hg1); have HBo2 := hid (HBo.out.app HOwn.out (by omega) hg1); have HOw2 := hid hown1; obtain ⟨_, _, _, _, _, z5⟩ := HBo2.out.six; have zf := HBo2.out.frozen 5; clear hown1 hg1 hat1)
      go_roundw
      case rel =>
        refine ⟨k + 1, A', c', by omega, by go_num, HBr2.out.far (by simp) _, HBo2.out.set_ 5 _, ?_, Below.setCell hb2 (by simp) _⟩
        rw [n99_succ]; unfold ints; rw [List.map_append]; exact ownsRow_far HOw2.out (by simp) _
      case measure =>
        simp [intOf]; omega
    · obtain rfl : k = m := by omega
      have hrd : RdI wr A k (n99 k) := ⟨n99_length k, Reads.of_own HOwn.out⟩
      have HRD := hid hrd; clear hrd
      have hlk2 : ¬ (k : Int) < (k : Int) := by omega
      cases ok with
      | true =>
        obtain ⟨rfl, rfl, rfl, rfl⟩ := HRR.out.yes rfl
        clear HRR
        go_wp2_with (go_at_call 49; (with_reducible refine (HI.out _ _ _ HRD.out).mono ?_); rintro e w2 ⟨rfl, hb2⟩; have HB2 := hid hb2; have HRD2 := hid (HRD.out.below hb2); have HOw2 := hid (ownsRow_below HOwn.out hb2); have HBr2 := hid (HBr.out.bel hb2); obtain ⟨z0, z1, z2, z3, z4, z5⟩ := (HBo.out.bel hb2).six; obtain ⟨x0, x1, x2, x3, x4, x5⟩ := (HBr.out.bel hb2).six; have g0 := (HBr.out.bel hb2).frozen 0; have g1 := (HBr.out.bel hb2).frozen 1; have g2 := (HBr.out.bel hb2).frozen 2; have g3 := (HBr.out.bel hb2).frozen 3; have g4 := (HBr.out.bel hb2).frozen 4; have g5 := (HBr.out.bel hb2).frozen 5; clear hb2)
        refine retD2 Try.results42 rfl rfl (g := w.heap.size) (v0 := .int .i64 kd') (v1 := .int .i64 t') (v2 := .int .i64 k) (v3 := .int .i64 0) (v4 := .int .i64 0) (v5 := .slice A k c) ?_ rfl ?_
        · exact (((((HBr2.out.set_ 0 _).set_ 1 _).set_ 2 _).set_ 3 _).set_ 4 _).set_ 5 _
        · refine ⟨A, c, by rw [n99_length]; rfl, ?_, ?_⟩
          · have q : Own _ _ A k c (n99 k) := ⟨n99_length k, HOw2.out⟩
            rw [n99_length]
            exact ((((((q.far (by simp) _).far (by simp) _).far (by simp) _).far (by simp) _).far (by simp) _).far (by simp) _).base (by omega)
          · exact Below.setCell (Below.setCell (Below.setCell (Below.setCell (Below.setCell (Below.setCell (Below.step hbel HB2.out) (by simp) _) (by simp) _) (by simp) _) (by simp) _) (by simp) _) (by simp) _
      | false =>
        obtain ⟨rfl, rfl, rfl, rfl⟩ := HRR.out.no rfl
        clear HRR
        go_wp2_with (go_at_call 49; (with_reducible refine (HI.out _ _ _ HRD.out).mono ?_); rintro e w2 ⟨rfl, hb2⟩; have HB2 := hid hb2; have HRD2 := hid (HRD.out.below hb2); have HOw2 := hid (ownsRow_below HOwn.out hb2); have HBr2 := hid (HBr.out.bel hb2); obtain ⟨z0, z1, z2, z3, z4, z5⟩ := (HBo.out.bel hb2).six; obtain ⟨x0, x1, x2, x3, x4, x5⟩ := (HBr.out.bel hb2).six; have g0 := (HBr.out.bel hb2).frozen 0; have g1 := (HBr.out.bel hb2).frozen 1; have g2 := (HBr.out.bel hb2).frozen 2; have g3 := (HBr.out.bel hb2).frozen 3; have g4 := (HBr.out.bel hb2).frozen 4; have g5 := (HBr.out.bel hb2).frozen 5; clear hb2)
        refine retD2 Try.results42 rfl rfl (g := w.heap.size) (v0 := .int .i64 0) (v1 := .int .i64 0) (v2 := .int .i64 0) (v3 := .int .i64 0) (v4 := .int .i64 0) (v5 := .slice none 0 0) ?_ rfl ?_
        · exact (((((HBr2.out.set_ 0 _).set_ 1 _).set_ 2 _).set_ 3 _).set_ 4 _).set_ 5 _
        · refine ⟨none, 0, rfl, ⟨rfl, World.ownsRow_nil _ _ _ _⟩, ?_⟩
          exact Below.setCell (Below.setCell (Below.setCell (Below.setCell (Below.setCell (Below.setCell (Below.step hbel HB2.out) (by simp) _) (by simp) _) (by simp) _) (by simp) _) (by simp) _) (by simp) _
set_option maxHeartbeats 1000000 in
theorem sNewDebouncer_out (kd t ks : Int) (hk : ks < 0 ∨ 24 < ks) (w : World) :
    Calls Try.prog 42 #[.int .i64 kd, .int .i64 t, .int .i64 ks] w (SteppedN w 0 0 0 [] false) := by
  have hno : ¬ DbOk kd t ks 0 0 [] := fun h => by have h1 := h.head.ks0; have h2 := h.head.ks1; omega
  have HI := hid (fun (w : World) => sIsDebouncer_any (cap := 0) (w := w) (A := none) (n := 0) (xs := []) ⟨rfl, Reads.none_⟩ (by omega) kd t ks 0 0 false ⟨(fun h => by cases h), fun h => absurd h hno⟩)
  clear hno
  rcases hk with hk | hk
  all_goals
    go_enter Try.func42, Try.ntmps42
    go_wp2
    refine wp_loop_rounds 1 ?_; rw [rounds_succ]
    go_wp2_with (go_at_call 49; (with_reducible refine (HI.out _).mono ?_); rintro e w2 ⟨rfl, hb2⟩; have HB2 := hid hb2; obtain ⟨hc2, hf2, hz2, hd2⟩ := bcell hb2; (try simp at hz2); replace hb2 := Below.via (B := w.heap.size) (a := w) (by (first | (go_grown; done) | (refine below_drewN ?_ _; go_grown; done) | (refine Below.drew (below_drewN ?_ _); go_grown; done))) hb2 (by go_size); (try have hy2 : w.heap.size < w2.heap.size := by omega); (try have hyy2 : w.heap.size + 1 < w2.heap.size := by omega))
    have q0 := ((Blk.new w 52 #[.int .i64 0, .int .i64 0, .int .i64 0, .int .i64 0, .int .i64 0, .slice none 0 0]).alloc (.cells #[.int .i64 kd, .int .i64 t, .int .i64 ks, .int .i64 0, .int .i64 0, .slice none 0 0] 52)).bel HB2.out
    refine retD2 Try.results42 rfl rfl (g := w.heap.size) (v0 := .int .i64 0) (v1 := .int .i64 0) (v2 := .int .i64 0) (v3 := .int .i64 0) (v4 := .int .i64 0) (v5 := .slice none 0 0) ?_ rfl ?_
    · exact (((((q0.set_ 0 _).set_ 1 _).set_ 2 _).set_ 3 _).set_ 4 _).set_ 5 _
    · exact ⟨none, 0, rfl, ⟨rfl, World.ownsRow_nil _ _ _ _⟩, by (first | (go_grown; done) | (refine below_drewN ?_ _; go_grown; done) | (refine Below.drew (below_drewN ?_ _); go_grown; done))⟩
end Go.Proofs.Ythjgapjagfjamaa
