/- Small contracts of numbers: bounds and bits. Conditions: none. -/
import Derived.Test.YtpfocjdhjkifmaaDoorLib
import Derived.Test.YtpfocjdhjkifmaaDoorProg
import Derived.WalkKit
import Derived.WalkLawsBesides
import Derived.WalkSpells
import Derived.Outline
import Derived.BigQuiet
import Derived.StillTailTactics
import Derived.Handy
import Derived.Deep.RegionHeld3
namespace Go.Proofs.YtpfocjdhjkifmaaDoor
open Go.RowKit
set_option linter.unusedVariables false

def inB (lo hi x : Int) : Bool := decide (lo ≤ x) && decide (x ≤ hi)
theorem inB_true {lo hi x : Int} (h : lo ≤ x ∧ x ≤ hi) : inB lo hi x = true := by unfold inB; simpa using h
theorem inB_false {lo hi x : Int} (h : ¬ (lo ≤ x ∧ x ≤ hi)) : inB lo hi x = false := by unfold inB; simp; omega
theorem inB_out {lo hi x : Int} (h : inB lo hi x = true) : lo ≤ x ∧ x ≤ hi := by unfold inB at h; simpa using h
theorem l1In_any (x lo hi : Int) (w : World) : Calls Tryd.prog 43 #[.int .i64 x, .int .i64 lo, .int .i64 hi] w fun e w' => e = .returned (.bool (inB lo hi x)) ∧ w = w' := by
  by_cases h1 : lo ≤ x
  · go_enter Tryd.func43, Tryd.ntmps43
    go_wp2
    go_ret
    exact ⟨ret_bool (by unfold inB; rw [Bool.eq_iff_iff]; simp; omega), rfl⟩
  · have h2 : x < lo := by omega
    go_enter Tryd.func43, Tryd.ntmps43
    go_wp2
    go_ret
    exact ⟨ret_bool (by unfold inB; rw [Bool.eq_iff_iff]; simp; omega), rfl⟩
theorem l1In_yes (x lo hi : Int) (h : lo ≤ x ∧ x ≤ hi) (w : World) : Calls Tryd.prog 43 #[.int .i64 x, .int .i64 lo, .int .i64 hi] w fun e w' => e = .returned (.bool true) ∧ w = w' := by
  have := l1In_any x lo hi w
  rwa [inB_true h] at this
theorem l1In_no (x lo hi : Int) (h : ¬ (lo ≤ x ∧ x ≤ hi)) (w : World) : Calls Tryd.prog 43 #[.int .i64 x, .int .i64 lo, .int .i64 hi] w fun e w' => e = .returned (.bool false) ∧ w = w' := by
  have := l1In_any x lo hi w
  rwa [inB_false h] at this
def rng (x : Int) : Prop := -9223372036854775808 ≤ x ∧ x ≤ 9223372036854775807
def b2i (b : Bool) : Int := if b then 1 else 0
theorem bit_any (x : Int) (K : Nat) (hx : rng x) (hK : K ≤ 62) (w : World) : Calls Tryd.prog 79 #[.int .i64 x, .int .i64 K] w fun e w' => e = .returned (.int .i64 (b2i (tbI x K))) ∧ w = w' := by
  have e1 := and_one_shr x K hx
  unfold b2i
  cases hb : tbI x K
  all_goals
    rw [hb] at e1
    simp only [if_true, Bool.false_eq_true, if_false] at e1
    clear hb hx
    go_enter Tryd.func79, Tryd.ntmps79
    go_wp2
    go_ret
    exact ⟨rfl, rfl⟩
theorem ownsRow_form {w : World} {base m : Nat} {e : TypeId} {v : Value} {xs : List Value} (h : w.ownsRow base e 1 v m xs) : ∃ A cap, v = .slice A m cap := by
  have h1 := h.1
  rcases h.2 with ⟨h2, h3⟩ | ⟨g, cap, cur, rfl, _⟩
  · have : m = 0 := by first | exact h3 | (subst h3; simpa using h1.symm)
    subst this
    exact ⟨none, 0, h2⟩
  · exact ⟨_, _, rfl⟩
theorem grown_own {w wr w1 : World} {e e' : TypeId} {size n : Nat} {v : Value} {xs : List Value} {cs : Array Value} (hb : Below w.heap.size w wr) (ho : wr.ownsRow w.heap.size e size v n xs) (hg : (wr.alloc (.cells cs e')).grownBy w1 v.ownBlock) : Below w.heap.size w w1 :=
  (hb.alloc hb.size _).grown hg (by have := hb.size; simp; omega) (fun k hk => (ho.lt k hk).1)
def nats (l : List Nat) : List Int := l.map (fun i : Nat => (i : Int))
theorem nats_append (l r : List Nat) : nats (l ++ r) = nats l ++ nats r := by unfold nats; simp
theorem ownsRow_far {w : World} {base size n : Nat} {e : TypeId} {v : Value} {xs : List Value} (h : w.ownsRow base e size v n xs) {p : Addr} (hp : p.block < base) (u : Value) : (w.setCell p u).ownsRow base e size v n xs := by
  refine ⟨h.1, ?_⟩
  rcases h.2 with h1 | ⟨g, cap, cur, h1, h2, h3, h4⟩
  · exact .inl h1
  · exact .inr ⟨g, cap, cur, h1, h2, (Below.heap_setCell w p u g (by omega)).trans h3, h4⟩
theorem ownsRow_apart {w w2 : World} {base base' size size' n m : Nat} {e e' : TypeId} {v v' : Value} {xs ys : List Value} (h : w.ownsRow base e size v n xs) (h' : w2.ownsRow base' e' size' v' m ys) (hs : w.heap.size ≤ base') : v.ownBlock = none ∨ v.ownBlock ≠ v'.ownBlock := by
  cases hv : v.ownBlock with
  | none => exact .inl rfl
  | some g =>
    right
    intro hc
    have h1 := (h.lt g hv).2
    have h2 := (h'.lt g hc.symm).1
    omega
theorem ownsRow_drewN {w : World} {base size n : Nat} {e : TypeId} {v : Value} {xs : List Value} (h : w.ownsRow base e size v n xs) (k : Nat) : (w.drewN k).ownsRow base e size v n xs := h
theorem below_of_grown {w a b : World} {v : Value} {base size n : Nat} {e : TypeId} {xs : List Value} (hb : Below w.heap.size w a) (h : a.ownsRow base e size v n xs) (hB : w.heap.size ≤ base) (hg : a.grownBy b v.ownBlock) : Below w.heap.size w b :=
  hb.grown hg hb.size (fun k hk => by have := (h.lt k hk).1; omega)
theorem Blk.bel {w w' : World} {g : Nat} {t : TypeId} {cs : Array Value} (h : Blk w g t cs) (hb : Below w.heap.size w w') : Blk w' g t cs := h.below hb h.lt
theorem Blk.six {w : World} {g : Nat} {t : TypeId} {v0 v1 v2 v3 v4 v5 : Value} (h : Blk w g t #[v0, v1, v2, v3, v4, v5]) :
    w.cell? ⟨g, 0, none⟩ = some v0 ∧ w.cell? ⟨g, 1, none⟩ = some v1 ∧ w.cell? ⟨g, 2, none⟩ = some v2 ∧ w.cell? ⟨g, 3, none⟩ = some v3 ∧ w.cell? ⟨g, 4, none⟩ = some v4 ∧ w.cell? ⟨g, 5, none⟩ = some v5 :=
  ⟨h.cell 0, h.cell 1, h.cell 2, h.cell 3, h.cell 4, h.cell 5⟩
theorem pow_small {k n : Nat} (h : k ≤ n) (hn : n ≤ 61) : 2 ^ k < 4611686018427387904 := by
  have h1 : 2 ^ k ≤ 2 ^ 61 := Nat.pow_le_pow_right (by omega) (by omega)
  have h2 : (2 : Nat) ^ 61 = 2305843009213693952 := by decide
  omega
theorem wrap64_pow (k : Nat) (hk : k ≤ 61) : wrap64 ((2 : Int) ^ k) = ((2 ^ k : Nat) : Int) := by
  have e : (2 : Int) ^ k = ((2 ^ k : Nat) : Int) := by simp
  have h := pow_small (Nat.le_refl k) hk
  rw [e]
  generalize 2 ^ k = p at *
  exact wrap64_id ⟨by omega, by omega⟩
theorem xor_shl (s k : Nat) (hs : s < 4611686018427387904) (hk : k ≤ 61) : bits .xor .i64 (s : Int) (wrap64 ((2 : Int) ^ k)) = ((s ^^^ 2 ^ k : Nat) : Int) := by
  rw [wrap64_pow k hk]
  have h := pow_small (Nat.le_refl k) hk
  exact i64_xor_nat _ _ (by omega) (by omega)
theorem own_ne {w : World} {base size n g : Nat} {e : TypeId} {v : Value} {xs : List Value} (h : w.ownsRow base e size v n xs) (hg : g < base) : some g ≠ v.ownBlock := by
  intro he
  have := (h.lt g he.symm).1
  omega
theorem Blk.app {w w2 : World} {g base size n : Nat} {t e e' : TypeId} {cs cs' : Array Value} {v : Value} {xs : List Value} (h : Blk w g t cs) (ho : w.ownsRow base e size v n xs) (hlt : g < base) (hg : (w.alloc (.cells cs' e')).grownBy w2 v.ownBlock) : Blk w2 g t cs :=
  (h.alloc _).grown hg (own_ne ho hlt)
theorem below_app {w wr w1 : World} {base size n : Nat} {e e' : TypeId} {v : Value} {xs : List Value} {cs : Array Value} (hb : Below w.heap.size w wr) (ho : wr.ownsRow base e size v n xs) (hB : w.heap.size ≤ base) (hg : (wr.alloc (.cells cs e')).grownBy w1 v.ownBlock) : Below w.heap.size w w1 :=
  (hb.alloc hb.size _).grown hg (by have := hb.size; simp; omega) (fun k hk => by have := (ho.lt k hk).1; omega)
theorem keep_cell {wr W : World} {a : Addr} {v : Value} (hc : wr.cell? a = some v) (hb : Below wr.heap.size wr W) : W.cell? a = some v := (hb.cell (World.block_lt_of_cell? _ _ hc)).trans hc
end Go.Proofs.YtpfocjdhjkifmaaDoor
