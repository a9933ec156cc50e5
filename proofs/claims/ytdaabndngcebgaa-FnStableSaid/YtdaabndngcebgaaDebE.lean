/- What the laws on drawn debouncers share: the code's size, a drawn number, a run over drawn samples. Conditions: none. -/
import Derived.Test.YtdaabndngcebgaaDebD
import Derived.Test.YtdaabndngcebgaaDebM
namespace Go.Proofs.Ytdaabndngcebgaa
open Go.RowKit
set_option linter.unusedVariables false

/-- What the law is handed: a slice of bytes. -/
def InBytes (w : World) (A : Option Addr) (n : Nat) (zs : List Int) : Prop :=
  zs.length = n ∧ n ≤ maxLen ∧ Reads w w.heap.size 1 A n (zs.map (Value.int .u8)) ∧ ∀ z ∈ zs, (Lit.int .u8 z).wf = true
theorem InBytes.code {w : World} {A : Option Addr} {n : Nat} {zs : List Int} (h : InBytes w A n zs) (hn : n ≤ 1048576) : Code w w.heap.size A n zs :=
  ⟨h.1, h.2.2.1, fun b hb => by have := h.2.2.2 b hb; simpa [Lit.wf, IntKind.min, IntKind.max, IntKind.signed, IntKind.bits] using this, hn⟩
set_option maxRecDepth 100000 in
theorem big_any (A : Option Addr) (n cap : Nat) (w : World) : Calls Try.prog 19 #[.slice A n cap] w fun e w' => e = .returned (.bool (decide (1048576 < n))) ∧ w = w' := by
  go_enter Try.func19, Try.ntmps19
  go_wp2
  go_ret
  exact ⟨ret_bool (by rw [Bool.eq_iff_iff]; simp; omega), rfl⟩
theorem big_yes {A : Option Addr} {n cap : Nat} (h : 1048576 < n) (w : World) : Calls Try.prog 19 #[.slice A n cap] w fun e w' => e = .returned (.bool true) ∧ w = w' := by
  have := big_any A n cap w
  rwa [decide_eq_true h] at this
theorem big_no {A : Option Addr} {n cap : Nat} (h : ¬ 1048576 < n) (w : World) : Calls Try.prog 19 #[.slice A n cap] w fun e w' => e = .returned (.bool false) ∧ w = w' := by
  have := big_any A n cap w
  rwa [decide_eq_false h] at this
theorem nz_nats (ms : List Nat) : nz (nats ms) ms.length = ms := by
  unfold nz nats
  rw [List.take_of_length_le (by simp), List.map_map]
  have e : (Int.toNat ∘ fun i : Nat => (i : Int)) = id := by funext i; simp
  rw [e]; simp
theorem okS_nats {ks : Nat} {ms : List Nat} (h : ∀ x ∈ ms, x < 2 ^ ks) : ∀ i, i < (nats ms).length → okS ks ((nats ms).getD i 0) := by
  intro i hi
  have hi' : i < ms.length := by unfold nats at hi; simpa using hi
  have e : (nats ms).getD i 0 = ((ms[i] : Nat) : Int) := by unfold nats; simp [List.getD_eq_getElem?_getD, hi']
  have h2 := h ms[i] (List.getElem_mem _)
  have e2 : (2 : Int) ^ ks = ((2 ^ ks : Nat) : Int) := by simp
  rw [e]
  exact ⟨by omega, by rw [e2]; omega⟩
theorem new_run {kd t m : Nat} {ms : List Nat} (h0 : kd ≤ 2) (h1 : 1 ≤ t) (h2 : t ≤ 5) (h3 : 1 ≤ m) (h4 : m ≤ 4) (hall : ∀ x ∈ ms, x < 2 ^ m) (hlen : ms.length ≤ 40) :
    RunOut (DB.new kd t m) (nats ms) true kd t m (DB.run (DB.new kd t m) ms).shown (DB.run (DB.new kd t m) ms).last (DB.run (DB.new kd t m) ms).ages (nats (DB.shows (DB.new kd t m) ms)) := by
  have hl : (nats ms).length = ms.length := by unfold nats; simp
  refine ⟨⟨fun _ => ⟨by omega, okS_nats hall⟩, fun _ => rfl⟩, fun _ => ?_, fun e => (by cases e)⟩
  rw [hl, nz_nats]
  exact ⟨rfl, rfl, rfl, rfl, rfl, rfl, rfl⟩
set_option maxRecDepth 100000 in
theorem MakeNumber_any {w : World} {B : Nat} {A : Option Addr} {n cap : Nat} {bs : List Int} (h : Code w B A n bs) (hB : B ≤ w.heap.size) (p : Int) (m : Int) (h1 : 1 ≤ m) (hm : m ≤ 256) :
    Calls Try.prog 33 #[.slice A n cap, .int .i64 p, .int .i64 m] w fun e w' => ∃ x : Int, (0 ≤ x ∧ x < m) ∧ e = .returned (.int .i64 x) ∧ Below w.heap.size w w' := by
  have HC := hid h
  clear h
  go_enter Try.func33, Try.ntmps33
  go_wp2_with fail
  refine (l24New_any (cap := cap) HC.out hB p).mono ?_
  rintro e w1 ⟨g, rfl, hc1, hg, hb1⟩
  go_wp2_with fail
  refine (l1Below_any hc1 m h1 hm).mono ?_
  rintro e w2 ⟨x, hx, rfl, hc2, hg2⟩
  go_wp2
  go_ret
  exact ⟨x, hx, rfl, hb1.trans (below_only hg2 hg hb1.size)⟩
end Go.Proofs.Ytdaabndngcebgaa
