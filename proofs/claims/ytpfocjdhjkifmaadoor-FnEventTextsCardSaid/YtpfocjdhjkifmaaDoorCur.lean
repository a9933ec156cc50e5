/- The source of drawn numbers (a cursor over the code's bytes), each function by its contract: what is drawn lies in its range. Conditions: none. -/
import Derived.Test.YtpfocjdhjkifmaaDoorLib
import Derived.Test.YtpfocjdhjkifmaaDoorProg
import Derived.WalkKit
import Derived.WalkLawsBesides
import Derived.WalkSpells
import Derived.Outline
import Derived.BigQuiet
import Derived.Handy
import Derived.Deep.RegionHeld3
namespace Go.Proofs.YtpfocjdhjkifmaaDoor
open Go.RowKit
set_option linter.unusedVariables false

/-- Bytes of the code as the cursor reads them. -/
def Code (w : World) (B : Nat) (A : Option Addr) (n : Nat) (bs : List Int) : Prop :=
  bs.length = n ∧ Reads w B 1 A n (bs.map (Value.int .u8)) ∧ (∀ b ∈ bs, 0 ≤ b ∧ b ≤ 255) ∧ n ≤ 1048576
/-- A cursor at block g. -/
structure Cur (w : World) (g B : Nat) (A : Option Addr) (n cap : Nat) (bs : List Int) : Prop where
  out : B ≤ g ∧ ∃ (i : Nat) (h : Int), Blk w g 88 #[.slice A n cap, .int .i64 i, .int .i64 h] ∧ i ≤ n ∧ Code w B A n bs
theorem Code.grown {w w' : World} {B n : Nat} {A : Option Addr} {bs : List Int} (h : Code w B A n bs) {row : Option Nat} (hg : w.grownBy w' row) (hB : B ≤ w.heap.size) (hr : ∀ g, row = some g → B ≤ g) : Code w' B A n bs :=
  ⟨h.1, h.2.1.grown hg hB hr, h.2.2⟩
theorem Code.below {w w' : World} {B n : Nat} {A : Option Addr} {bs : List Int} (h : Code w B A n bs) (hb : Below B w w') : Code w' B A n bs := ⟨h.1, h.2.1.below hb, h.2.2⟩
theorem Code.more {w : World} {B B' n : Nat} {A : Option Addr} {bs : List Int} (h : Code w B A n bs) (hB : B ≤ B') : Code w B' A n bs := ⟨h.1, h.2.1.more hB, h.2.2⟩
theorem Cur.lt {w : World} {g B n cap : Nat} {A : Option Addr} {bs : List Int} (h : Cur w g B A n cap bs) : g < w.heap.size := by
  obtain ⟨_, i, hh, hb, _⟩ := h; exact hb.lt
theorem Cur.alloc {w : World} {g B n cap : Nat} {A : Option Addr} {bs : List Int} (h : Cur w g B A n cap bs) (o : Obj) : Cur (w.alloc o) g B A n cap bs := by
  obtain ⟨hB, i, hh, hb, hi, hc⟩ := h
  exact ⟨hB, i, hh, hb.alloc o, hi, hc.below ((Below.refl B w).alloc (by have := hb.lt; omega) o)⟩
theorem Cur.drewN {w : World} {g B n cap : Nat} {A : Option Addr} {bs : List Int} (h : Cur w g B A n cap bs) (k : Nat) : Cur (w.drewN k) g B A n cap bs := ⟨h.out⟩
theorem Cur.drew {w : World} {g B n cap : Nat} {A : Option Addr} {bs : List Int} (h : Cur w g B A n cap bs) : Cur w.drew g B A n cap bs := ⟨h.out⟩
theorem Cur.far {w : World} {g B n cap : Nat} {A : Option Addr} {bs : List Int} (h : Cur w g B A n cap bs) {p : Addr} (hp : p.block ≠ g) (hq : B ≤ p.block) (u : Value) : Cur (w.setCell p u) g B A n cap bs := by
  obtain ⟨hB, i, hh, hb, hi, hc⟩ := h
  exact ⟨hB, i, hh, hb.far (fun e => hp e.symm) u, hi, hc.below ((Below.refl B w).setCell hq u)⟩
theorem Cur.below {w w' : World} {g B n cap : Nat} {A : Option Addr} {bs : List Int} (h : Cur w g B A n cap bs) {B' : Nat} (hb : Below B' w w') (hB : g < B') : Cur w' g B A n cap bs := by
  obtain ⟨hB', i, hh, hk, hi, hc⟩ := h
  exact ⟨hB', i, hh, hk.below hb hB, hi, hc.below (hb.mono (by omega))⟩
/-- One draw's post: a number x that meets P; the cursor is one still; nothing else has turned. -/
def Drawn (P : Int → Prop) (w : World) (g B : Nat) (A : Option Addr) (n cap : Nat) (bs : List Int) (e : Ending) (w' : World) : Prop :=
  ∃ x : Int, P x ∧ e = .returned (.int .i64 x) ∧ Cur w' g B A n cap bs ∧ w.grownBy w' (some g)
theorem only_set {w : World} {g o : Nat} {u : Value} (h : g < w.heap.size) : w.grownBy (w.setCell ⟨g, o, none⟩ u) (some g) :=
  ⟨rfl, rfl, rfl, by simp, fun i _ hne => Below.heap_setCell w ⟨g, o, none⟩ u i (fun e => hne (by rw [e]))⟩
theorem only_trans {a b c : World} {row : Option Nat} (h : a.grownBy b row) (k : b.grownBy c row) : a.grownBy c row :=
  ⟨k.os.trans h.os, k.tape.trans h.tape, k.output.trans h.output, Nat.le_trans h.size k.size, fun i hi hne => (k.block i (Nat.lt_of_lt_of_le hi h.size) hne).trans (h.block i hi hne)⟩
theorem only_drewN {a w : World} {row : Option Nat} (h : a.grownBy w row) (n : Nat) : a.grownBy (w.drewN n) row := ⟨h.os, h.tape, h.output, h.size, h.block⟩
theorem only_alloc {a w : World} {row : Option Nat} (h : a.grownBy w row) (o : Obj) : a.grownBy (w.alloc o) row :=
  ⟨h.os, h.tape, h.output, Nat.le_trans h.size (by simp), fun i hi hne => (Below.heap_alloc w o i (Nat.lt_of_lt_of_le hi h.size)).trans (h.block i hi hne)⟩
theorem only_set_drewN {w : World} {g o k : Nat} {u : Value} (h : g < w.heap.size) : w.grownBy ((w.drewN k).setCell ⟨g, o, none⟩ u) (some g) :=
  only_trans (only_drewN (World.grownBy.refl w _) k) (only_set (w := w.drewN k) h)
theorem only_far {a w : World} {row : Option Nat} (h : a.grownBy w row) {p : Addr} (hp : a.heap.size ≤ p.block) (u : Value) : a.grownBy (w.setCell p u) row :=
  ⟨h.os, h.tape, h.output, by simpa [World.setCell] using h.size, fun i hi hne => (Below.heap_setCell w p u i (by rintro rfl; omega)).trans (h.block i hi hne)⟩
theorem only_first {a w : World} {row : Option Nat} {o : Obj} (h : (a.alloc o).grownBy w row) : a.grownBy w row :=
  ⟨h.os, h.tape, h.output, Nat.le_trans (by simp) h.size, fun i hi hne => (h.block i (by simp; omega) hne).trans (Below.heap_alloc a o i hi)⟩
theorem only_below {a b : World} (h : Below a.heap.size a b) (row : Option Nat) : a.grownBy b row := ⟨h.os, h.tape, h.output, h.size, fun i hi _ => h.block i hi⟩
theorem below_only {a b : World} {g : Nat} {B : Nat} (h : a.grownBy b (some g)) (hg : B ≤ g) (hB : B ≤ a.heap.size) : Below B a b := ⟨h.os, h.tape, h.output, h.size, fun i hi => h.block i (by omega) (by intro e; injection e with e; omega)⟩
theorem gcell {W w1 : World} {g : Nat} (hb : W.grownBy w1 (some g)) : (∀ b o, b ≠ g → (W.cell? ⟨b, o, none⟩).isSome = true → w1.cell? ⟨b, o, none⟩ = W.cell? ⟨b, o, none⟩) ∧ (∀ b o, b ≠ g → (W.cell? ⟨b, o, none⟩).isSome = true → w1.frozen? ⟨b, o, none⟩ = W.frozen? ⟨b, o, none⟩) := by
  have key : ∀ b o, b ≠ g → (W.cell? ⟨b, o, none⟩).isSome = true → w1.heap[b]? = W.heap[b]? := fun b o hne h => by
    obtain ⟨v, hv⟩ := Option.isSome_iff_exists.1 h
    exact hb.block b (World.block_lt_of_cell? W _ hv) (by intro e; injection e with e; omega)
  exact ⟨fun b o hne h => World.cell?_of_block (a := ⟨b, o, none⟩) (key b o hne h), fun b o hne h => World.frozen?_of_block (a := ⟨b, o, none⟩) (key b o hne h)⟩
theorem and255 (y : Int) : 0 ≤ bits .and .i64 y 255 ∧ bits .and .i64 y 255 ≤ 255 := by
  have h1 : (BitVec.ofInt 64 255).toNat = 255 := by decide
  have e : bits .and .i64 y 255 = IntKind.i64.wrap ((BitVec.ofInt 64 y &&& BitVec.ofInt 64 255).toNat : Int) := rfl
  have h2 : (BitVec.ofInt 64 y &&& BitVec.ofInt 64 255).toNat ≤ 255 := by rw [BitVec.toNat_and, h1]; exact Nat.and_le_right
  rw [e]
  generalize (BitVec.ofInt 64 y &&& BitVec.ofInt 64 255).toNat = z at *
  rw [IntWalk.i64_in _ ⟨by omega, by omega⟩]
  omega

set_option maxHeartbeats 1000000 in
theorem l1Byte_any {w : World} {g B n cap : Nat} {A : Option Addr} {bs : List Int} (h : Cur w g B A n cap bs) :
    Calls Tryd.prog 82 #[.pointer (some ⟨g, 0, none⟩)] w (Drawn (fun x => 0 ≤ x ∧ x ≤ 255) w g B A n cap bs) := by
  obtain ⟨hBg, i, hh, hb, hi, hcode⟩ := h
  have m0 := hb.cell 0
  have m1 := hb.cell 1
  have m2 := hb.cell 2
  have f1 := hb.frozen 1
  have f2 := hb.frozen 2
  have HB := hid hb; clear hb
  have HC := hid hcode; clear hcode
  simp only [List.getElem?_toArray, List.getElem?_cons_zero, List.getElem?_cons_succ] at m0 m1 m2
  go_enter Tryd.func82, Tryd.ntmps82
  go_wp2
  generalize wrap64 (hh * 6364136223846793005) = h1
  generalize wrap64 (h1 + 1442695040888963407) = h2
  have hg1 : w.grownBy (w.setCell ⟨g, 2, none⟩ (.int .i64 h2)) (some g) := only_set HB.out.lt
  have hb1 : Blk (w.setCell ⟨g, 2, none⟩ (.int .i64 h2)) g 88 #[.slice A n cap, .int .i64 i, .int .i64 h2] := HB.out.set_ 2 (.int .i64 h2)
  have hc1 : Code (w.setCell ⟨g, 2, none⟩ (.int .i64 h2)) B A n bs := HC.out.grown hg1 (by have := HB.out.lt; omega) (fun k hk => by injection hk with hk; omega)
  clear m0 m1 m2 f1 f2
  generalize w.setCell ⟨g, 2, none⟩ (.int .i64 h2) = W at *
  have m0 := hb1.cell 0
  have m1 := hb1.cell 1
  have m2 := hb1.cell 2
  have f1 := hb1.frozen 1
  simp only [List.getElem?_toArray, List.getElem?_cons_zero, List.getElem?_cons_succ] at m0 m1 m2
  clear HB HC
  have HB := hid hb1; clear hb1
  have HC := hid hc1; clear hc1
  have HG := hid hg1; clear hg1
  go_quiet (fail)
  go_wp2
  have hx := and255 (bits .xor .i64 (h2 / 8589934592) (h2 / 35184372088832))
  generalize bits .and .i64 (bits .xor .i64 (h2 / 8589934592) (h2 / 35184372088832)) 255 = x0 at *
  by_cases hlt : i < n
  · obtain ⟨ad, u, rfl, _, hu, hcell⟩ := HC.out.2.1.at_ hlt
    have hu' : ∃ b : Int, u = .int .u8 b ∧ 0 ≤ b ∧ b ≤ 255 := by
      rw [List.getElem?_map] at hu
      cases e : bs[i]? with
      | none => rw [e] at hu; cases hu
      | some b => rw [e] at hu; simp at hu; exact ⟨b, hu.symm, HC.out.2.2.1 b (List.mem_of_getElem? e)⟩
    obtain ⟨b, rfl, b0, b1⟩ := hu'
    clear hu
    have hn := HC.out.2.2.2
    have hi0 : (0 : Int) ≤ (i : Int) := by omega
    have hin : (i : Int) < (n : Int) := by omega
    have e1 : IntKind.i64.wrap (x0 + b) = x0 + b := IntWalk.i64_in _ ⟨by omega, by omega⟩
    have hy := and255 (x0 + b)
    go_quiet (fail)
    go_wp2
    go_quiet (fail)
    go_wp2
    go_ret
    exact ⟨_, hy, rfl, ⟨hBg, i + 1, h2, (HB.out.drewN _).set_ 1 (.int .i64 ((i + 1 : Nat) : Int)), by omega, HC.out.grown (only_set_drewN HB.out.lt) (by have := HB.out.lt; omega) (fun k hk => by injection hk with hk; omega)⟩, only_trans HG.out (only_set_drewN HB.out.lt)⟩
  · have hin : ¬ (i : Int) < (n : Int) := by omega
    go_quiet (fail)
    go_wp2
    go_ret
    exact ⟨_, hx, rfl, ⟨hBg, i, h2, HB.out, by omega, HC.out⟩, only_drewN HG.out _⟩

/-- A draw below n. -/
theorem l1Below_any {w : World} {g B n cap : Nat} {A : Option Addr} {bs : List Int} (h : Cur w g B A n cap bs) (m : Int) (h1 : 1 ≤ m) (hm : m ≤ 256) :
    Calls Tryd.prog 60 #[.pointer (some ⟨g, 0, none⟩), .int .i64 m] w (Drawn (fun x => 0 ≤ x ∧ x < m) w g B A n cap bs) := by
  have H := hid (l1Byte_any h)
  clear h
  go_enter Tryd.func60, Tryd.ntmps60
  go_wp2_with (go_at_call 82; (with_reducible refine H.out.mono ?_); rintro e w1 ⟨x, ⟨x0, x1⟩, rfl, hc, hg⟩)
  go_ret
  exact ⟨_, ⟨Int.emod_nonneg _ (by omega), Int.emod_lt_of_pos _ (by omega)⟩, rfl, hc, hg⟩
/-- A draw of one of n chances: yes or no. -/
def DrawnB (w : World) (g B : Nat) (A : Option Addr) (n cap : Nat) (bs : List Int) (e : Ending) (w' : World) : Prop :=
  ∃ b : Bool, e = .returned (.bool b) ∧ Cur w' g B A n cap bs ∧ w.grownBy w' (some g)
/-- A new cursor. -/
def MadeCur (w : World) (B : Nat) (A : Option Addr) (n cap : Nat) (bs : List Int) (e : Ending) (w' : World) : Prop :=
  ∃ g : Nat, e = .returned (.pointer (some ⟨g, 0, none⟩)) ∧ Cur w' g B A n cap bs ∧ w.heap.size ≤ g ∧ Below w.heap.size w w'
set_option maxRecDepth 100000 in
theorem l1New_any {w : World} {B n cap : Nat} {A : Option Addr} {bs : List Int} (h : Code w B A n bs) (hB : B ≤ w.heap.size) :
    Calls Tryd.prog 80 #[.slice A n cap] w (MadeCur w B A n cap bs) := by
  have hn := h.2.2.2
  have HC := hid h; clear h
  go_enter Tryd.func80, Tryd.ntmps80
  go_wp2
  go_loop [3, 4] (fun x i => ∃ k : Nat, k ≤ n ∧ i = .int .i64 k ∧ ∃ y : Int, x = .int .i64 y) (fun _ i => n - (intOf i).toNat)
  case atStart => exact ⟨0, Nat.zero_le _, rfl, _, rfl⟩
  case round =>
    obtain ⟨k, hk, rfl, y, rfl⟩ := hrel
    by_cases hlt : k < n
    · obtain ⟨ad, u, rfl, _, hu, hcell⟩ := HC.out.2.1.at_ hlt
      have hu' : ∃ b : Int, u = .int .u8 b ∧ 0 ≤ b ∧ b ≤ 255 := by
        rw [List.getElem?_map] at hu
        cases e : bs[k]? with
        | none => rw [e] at hu; cases hu
        | some b => rw [e] at hu; simp at hu; exact ⟨b, hu.symm, HC.out.2.2.1 b (List.mem_of_getElem? e)⟩
      obtain ⟨b, rfl, b0, b1⟩ := hu'
      clear hu
      by_cases h4 : k < 4000
      · go_wp2
        go_round
        case rel => exact ⟨k + 1, by omega, by go_num, _, rfl⟩
        case measure => simp [intOf]; omega
      · go_wp2
        go_ret
        exact ⟨_, rfl, ⟨hB, 0, _, Blk.new w _ _, Nat.zero_le _, (HC.out.below ((Below.refl _ _).alloc hB _))⟩, Nat.le_refl _, by (first | (go_grown; done) | (refine below_drewN ?_ _; go_grown; done) | (refine Below.drew (below_drewN ?_ _); go_grown; done))⟩
    · go_wp2
      go_ret
      exact ⟨_, rfl, ⟨hB, 0, _, Blk.new w _ _, Nat.zero_le _, (HC.out.below ((Below.refl _ _).alloc hB _))⟩, Nat.le_refl _, by (first | (go_grown; done) | (refine below_drewN ?_ _; go_grown; done) | (refine Below.drew (below_drewN ?_ _); go_grown; done))⟩
theorem l24New_any {w : World} {B n cap : Nat} {A : Option Addr} {bs : List Int} (h : Code w B A n bs) (hB : B ≤ w.heap.size) (m : Int) :
    Calls Tryd.prog 58 #[.slice A n cap, .int .i64 m] w (MadeCur w B A n cap bs) := by
  have H := hid (l1New_any (cap := cap) h hB)
  clear h
  go_enter Tryd.func58, Tryd.ntmps58
  go_wp2_with (go_at_call 80; (with_reducible refine H.out.mono ?_); rintro e w1 ⟨g, rfl, hc, hg, hb⟩; obtain ⟨hBg, i, hh, hblk, hi, hcode⟩ := hc; have m2 := hblk.cell 2; have f2 := hblk.frozen 2; have HB := hid hblk; clear hblk; have HC := hid hcode; clear hcode; simp only [List.getElem?_toArray, List.getElem?_cons_zero, List.getElem?_cons_succ] at m2)
  go_ret
  exact ⟨g, rfl, ⟨hBg, i, _, HB.out.set_ 2 _, hi, HC.out.grown (only_set HB.out.lt) (by have := HB.out.lt; omega) (fun k hk => by injection hk with hk; omega)⟩, hg, hb.setCell hg _⟩
end Go.Proofs.YtpfocjdhjkifmaaDoor
