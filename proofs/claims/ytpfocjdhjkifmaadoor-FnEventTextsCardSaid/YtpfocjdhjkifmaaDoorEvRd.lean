/- Slices of events as lists: what is owned, what is read. Conditions: none of its own. -/
import Derived.Test.YtpfocjdhjkifmaaDoorSlG
import Derived.Test.YtpfocjdhjkifmaaDoorEvMath
namespace Go.Proofs.YtpfocjdhjkifmaaDoor
open Go.RowKit
set_option linter.unusedVariables false

theorem ev_info : (Tryd.prog.info? 47).map (fun i => (i.zero, i.size, i.bytes)) = some (some (.agg #[.int .i64 0, .int .i64 0, .bool false]), 3, 24) := by kernel_rfl
def evC (e : EV.Ev) : List Value := [.int .i64 e.time, .int .i64 e.key, .bool e.down]
abbrev evV (e : EV.Ev) : Value := .agg #[.int .i64 e.time, .int .i64 e.key, .bool e.down]
def evCs (l : List EV.Ev) : List Value := l.flatMap evC
abbrev evD : EV.Ev := ⟨0, 0, false⟩
theorem evCs_length (l : List EV.Ev) : (evCs l).length = l.length * 3 := by
  induction l with
  | nil => rfl
  | cons a l ih => unfold evCs at *; rw [List.flatMap_cons, List.length_append, ih]; simp [evC]; omega
theorem evCs_append (l r : List EV.Ev) : evCs (l ++ r) = evCs l ++ evCs r := by unfold evCs; simp
theorem evCs_get (l : List EV.Ev) (k : Nat) (hk : k < l.length) : (evCs l)[k * 3]? = some (.int .i64 (l.getD k evD).time) ∧ (evCs l)[k * 3 + 1]? = some (.int .i64 (l.getD k evD).key) ∧ (evCs l)[k * 3 + 2]? = some (.bool (l.getD k evD).down) := by
  induction l generalizing k with
  | nil => simp at hk
  | cons a l ih =>
    have e : evCs (a :: l) = evC a ++ evCs l := by unfold evCs; rw [List.flatMap_cons]
    cases k with
    | zero => rw [e]; exact ⟨rfl, rfl, rfl⟩
    | succ k =>
      have h := ih k (by simpa using hk)
      have hl : (evC a).length = 3 := rfl
      have f : ∀ j, (evC a ++ evCs l)[(k + 1) * 3 + j]? = (evCs l)[k * 3 + j]? := fun j => by
        rw [List.getElem?_append_right (by rw [hl]; omega), hl]; congr 1; omega
      rw [e]
      have g := f 0
      rw [Nat.add_zero, Nat.add_zero] at g
      rw [g, f 1, f 2]
      simpa using h
/-- A slice that the call itself has made, holding the events l. -/
def OwnE (w : World) (base : Nat) (A : Option Addr) (n cap : Nat) (l : List EV.Ev) : Prop :=
  l.length = n ∧ w.ownsRow base 47 3 (.slice A n cap) n (evCs l)
/-- A slice that reads as the events l. -/
def RdE (w : World) (A : Option Addr) (n : Nat) (l : List EV.Ev) : Prop := l.length = n ∧ Reads w w.heap.size 3 A n (evCs l)
theorem RdE.below {w w' : World} {A : Option Addr} {n : Nat} {xs : List EV.Ev} (h : RdE w A n xs) (hb : Below w.heap.size w w') : RdE w' A n xs := ⟨h.1, (h.2.below hb).more hb.size⟩
theorem RdE.drewN {w : World} {A : Option Addr} {n : Nat} {xs : List EV.Ev} (h : RdE w A n xs) (k : Nat) : RdE (w.drewN k) A n xs := h
theorem RdE.alloc {w : World} {A : Option Addr} {n : Nat} {xs : List EV.Ev} (h : RdE w A n xs) (o : Obj) : RdE (w.alloc o) A n xs := h.below ((Below.refl _ _).alloc (Nat.le_refl _) o)
theorem OwnE.rd {w : World} {base : Nat} {A : Option Addr} {n cap : Nat} {xs : List EV.Ev} (h : OwnE w base A n cap xs) : RdE w A n xs := ⟨h.1, Reads.of_own h.2⟩
theorem OwnE.below {w w' : World} {base : Nat} {A : Option Addr} {n cap : Nat} {xs : List EV.Ev} (h : OwnE w base A n cap xs) (hb : Below w.heap.size w w') : OwnE w' base A n cap xs := ⟨h.1, ownsRow_below h.2 hb⟩
theorem RdE.at_ {w : World} {A : Option Addr} {n : Nat} {xs : List EV.Ev} (h : RdE w A n xs) {k : Nat} (hk : k < n) :
    ∃ ad, A = some ad ∧ w.cell? (ad.add (k * 3)) = some (.int .i64 (xs.getD k evD).time) ∧ w.cell? (ad.add (k * 3 + 1)) = some (.int .i64 (xs.getD k evD).key) ∧ w.cell? (ad.add (k * 3 + 2)) = some (.bool (xs.getD k evD).down) := by
  obtain ⟨ad, e, _, hc⟩ := h.2.2 (by omega)
  have := h.1
  obtain ⟨g0, g1, g2⟩ := evCs_get xs k (by omega)
  exact ⟨ad, e, hc _ _ g0, hc _ _ g1, hc _ _ g2⟩
/-- What a copy hands back. -/
def MadeE (w : World) (xs : List EV.Ev) (e : Ending) (w' : World) : Prop :=
  ∃ (A : Option Addr) (cap : Nat), e = .returned (.slice A xs.length cap) ∧ OwnE w' w.heap.size A xs.length cap xs ∧ Below w.heap.size w w'
theorem add_next (ad : Addr) (m j : Nat) (h : 0 < j) : ad.add (m + j) = ⟨(ad.add m).block, (ad.add m).off + j, none⟩ := by
  unfold Addr.add
  by_cases h0 : m = 0
  · subst h0; simp; omega
  · rw [if_neg (by omega), if_neg h0]; simp; omega
/-- The cells of event k as the walk writes them. -/
theorem RdE.at3 {w : World} {A : Option Addr} {n : Nat} {xs : List EV.Ev} (h : RdE w A n xs) {k : Nat} (hk : k < n) :
    ∃ ad, A = some ad ∧ w.cell? (ad.add (k * 3)) = some (.int .i64 (xs.getD k evD).time) ∧ w.cell? ⟨(ad.add (k * 3)).block, (ad.add (k * 3)).off + 1, none⟩ = some (.int .i64 (xs.getD k evD).key) ∧ w.cell? ⟨(ad.add (k * 3)).block, (ad.add (k * 3)).off + 2, none⟩ = some (.bool (xs.getD k evD).down) ∧
      (ad.add (k * 3)).block < w.heap.size := by
  obtain ⟨ad, e, h0, h1, h2⟩ := h.at_ hk
  rw [add_next ad _ 1 (by omega)] at h1
  rw [add_next ad _ 2 (by omega)] at h2
  exact ⟨ad, e, h0, h1, h2, World.block_lt_of_cell? _ _ h0⟩
theorem evCs_cons (a : EV.Ev) (l : List EV.Ev) : evCs (a :: l) = .int .i64 a.time :: .int .i64 a.key :: .bool a.down :: evCs l := rfl
/-- One event stored. -/
theorem evCs_set (l : List EV.Ev) (k : Nat) (hk : k < l.length) (e : EV.Ev) :
    (((evCs l).set (k * 3) (.int .i64 e.time)).set (k * 3 + 1) (.int .i64 e.key)).set (k * 3 + 2) (.bool e.down) = evCs (l.set k e) := by
  induction l generalizing k with
  | nil => simp at hk
  | cons a l ih =>
    cases k with
    | zero => rfl
    | succ k =>
      have h := ih k (by simpa using hk)
      have e3 : (k + 1) * 3 = k * 3 + 1 + 1 + 1 := by omega
      rw [e3, List.set_cons_succ, evCs_cons, evCs_cons]
      rw [show k * 3 + 1 + 1 + 1 + 1 = (k * 3 + 1) + 1 + 1 + 1 by omega, show k * 3 + 1 + 1 + 1 + 2 = (k * 3 + 2) + 1 + 1 + 1 by omega]
      simp only [List.set_cons_succ]
      rw [h]
/-- The cells of event k of a slice that the call has made. -/
theorem own_cells3 {w : World} {base g n cap : Nat} {l : List EV.Ev} (h : w.ownsRow base 47 3 (.slice (some ⟨g, 0, none⟩) n cap) n (evCs l)) (hl : l.length = n) {k : Nat} (hk : k < n) :
    w.cell? ⟨g, k * 3, none⟩ = some (.int .i64 (l.getD k evD).time) ∧ w.cell? ⟨g, k * 3 + 1, none⟩ = some (.int .i64 (l.getD k evD).key) ∧ w.cell? ⟨g, k * 3 + 2, none⟩ = some (.bool (l.getD k evD).down) ∧
      w.frozen? ⟨g, k * 3, none⟩ = false ∧ w.frozen? ⟨g, k * 3 + 1, none⟩ = false ∧ w.frozen? ⟨g, k * 3 + 2, none⟩ = false := by
  obtain ⟨g0, g1, g2⟩ := evCs_get l k (by omega)
  exact ⟨(h.cellAt _ (by omega)).trans g0, (h.cellAt _ (by omega)).trans g1, (h.cellAt _ (by omega)).trans g2, h.frozenAt _, h.frozenAt _, h.frozenAt _⟩
/-- Event k stored. -/
theorem own_set3 {w : World} {base g n cap : Nat} {l : List EV.Ev} (h : w.ownsRow base 47 3 (.slice (some ⟨g, 0, none⟩) n cap) n (evCs l)) (hl : l.length = n) {k : Nat} (hk : k < n) (e : EV.Ev) :
    (((w.setCell ⟨g, k * 3, none⟩ (.int .i64 e.time)).setCell ⟨g, k * 3 + 1, none⟩ (.int .i64 e.key)).setCell ⟨g, k * 3 + 2, none⟩ (.bool e.down)).ownsRow base 47 3 (.slice (some ⟨g, 0, none⟩) n cap) n (evCs (l.set k e)) ∧
      w.grownBy (((w.setCell ⟨g, k * 3, none⟩ (.int .i64 e.time)).setCell ⟨g, k * 3 + 1, none⟩ (.int .i64 e.key)).setCell ⟨g, k * 3 + 2, none⟩ (.bool e.down)) (some g) := by
  have h1 := h.stored (k * 3) (.int .i64 e.time)
  have h2 := h1.1.stored (k * 3 + 1) (.int .i64 e.key)
  have h3 := h2.1.stored (k * 3 + 2) (.bool e.down)
  rw [evCs_set l k (by omega) e] at h3
  exact ⟨h3.1, grown_trans (grown_trans h1.2 h2.2) h3.2⟩
end Go.Proofs.YtpfocjdhjkifmaaDoor
