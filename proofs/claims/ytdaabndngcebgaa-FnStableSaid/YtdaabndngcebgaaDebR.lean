/- A step of a debouncer that is not taken, by contract in both programs. Conditions: at most 2^20 ages. -/
import Derived.Test.YtdaabndngcebgaaDebS
import Derived.Test.YtdaabndngcebgaaDebI
import Derived.Test.YtdaabndngcebgaaDebB
namespace Go.Proofs.Ytdaabndngcebgaa
open Go.RowKit
set_option linter.unusedVariables false

theorem pow24 {k : Nat} (hk : k ≤ 24) : (0 : Int) < (2 : Int) ^ k ∧ (2 : Int) ^ k ≤ 16777216 := by
  have e : (2 : Int) ^ k = ((2 ^ k : Nat) : Int) := by simp
  have h1 : 2 ^ k ≤ 2 ^ 24 := Nat.pow_le_pow_right (by omega) hk
  have h2 : (2 : Nat) ^ 24 = 16777216 := by decide
  have h3 := Nat.two_pow_pos k
  rw [e]
  generalize 2 ^ k = p at *
  omega
abbrev zeroDb : Value := dbV 0 0 0 0 0 none 0 0
def NoStep (w : World) (e : Ending) (w' : World) : Prop := e = .returned (.tuple #[zeroDb, .bool false]) ∧ Below w.heap.size w w'
def StepOk (kd t ks sh la : Int) (xs : List Int) (raw : Int) : Prop := DbOk kd t ks sh la xs ∧ 0 ≤ raw ∧ raw < 2 ^ ks.toNat
set_option maxHeartbeats 1000000 in
theorem iStep_no (kd t ks sh la raw : Int) (xs : List Int) {w : World} {A : Option Addr} {n cap : Nat} (h : RdI w A n xs) (hn : n ≤ 1048576) (hno : ¬ StepOk kd t ks sh la xs raw) :
    Calls Try.prog 34 #[dbV kd t ks sh la A n cap, .int .i64 raw] w (NoStep w) := by
  have HR := hid h; clear h
  by_cases hok : DbOk kd t ks sh la xs
  · have hh := hok.head
    obtain ⟨k, rfl⟩ := Int.eq_ofNat_of_zero_le (show 0 ≤ ks by have := hh.ks0; omega)
    have hk : k ≤ 24 := by have := hh.ks1; omega
    have s1 := shl_one k (by omega)
    have e2 : ((2 ^ k : Nat) : Int) = (2 : Int) ^ k := by simp
    rw [e2] at s1
    have hr : raw < 0 ∨ (0 ≤ raw ∧ (2 : Int) ^ k ≤ raw) := by
      by_cases h0 : 0 ≤ raw
      · right
        refine ⟨h0, ?_⟩
        by_cases h1 : raw < (2 : Int) ^ k
        · exact absurd ⟨hok, h0, by rw [Int.toNat_natCast]; exact h1⟩ hno
        · omega
      · left; omega
    have HI := hid (fun (w : World) (A : Option Addr) (c : Nat) (h : RdI w A n xs) => iIsDebouncer_any (cap := c) h hn kd t (k : Nat) sh la true ⟨fun _ => hok, fun _ => rfl⟩)
    clear hno hok e2 hh
    rcases hr with h1 | ⟨h1, h2⟩
    all_goals
      go_enter Try.func34, Try.ntmps34
      go_wp2_with (go_at_call 27; (with_reducible refine (HI.out _ _ _ (((HR.out.alloc _).alloc _))).mono ?_); rintro e w1 ⟨rfl, hb1⟩; have HBB := hid hb1; obtain ⟨hc1, hf1, hz1, hd1⟩ := bcell hb1; (try simp at hz1); replace hb1 := Below.via (B := w.heap.size) (a := w) (by (first | (go_grown; done) | (refine below_drewN ?_ _; go_grown; done) | (refine Below.drew (below_drewN ?_ _); go_grown; done))) hb1 (by go_size); (try have hy1 : w.heap.size < w1.heap.size := by omega); (try have hyy1 : w.heap.size + 1 < w1.heap.size := by omega))
      have q0 := (Blk.new (w.alloc (.cells #[.int .i64 kd, .int .i64 t, .int .i64 (k : Nat), .int .i64 sh, .int .i64 la, .slice A n cap] 33)) 33 #[.int .i64 0, .int .i64 0, .int .i64 0, .int .i64 0, .int .i64 0, .slice none 0 0]).bel HBB.out
      rw [World.size_alloc] at q0
      refine retD2 Try.results34 rfl rfl (g := w.heap.size + 1) (v0 := .int .i64 0) (v1 := .int .i64 0) (v2 := .int .i64 0) (v3 := .int .i64 0) (v4 := .int .i64 0) (v5 := .slice none 0 0) ?_ rfl ?_
      · exact (((((q0.set_ 0 _).set_ 1 _).set_ 2 _).set_ 3 _).set_ 4 _).set_ 5 _
      · exact ⟨rfl, by (first | (go_grown; done) | (refine below_drewN ?_ _; go_grown; done) | (refine Below.drew (below_drewN ?_ _); go_grown; done))⟩
  · have HI := hid (fun (w : World) (A : Option Addr) (c : Nat) (h : RdI w A n xs) => iIsDebouncer_any (cap := c) h hn kd t ks sh la false ⟨fun e => (by cases e), fun e => absurd e hok⟩)
    clear hno hok
    go_enter Try.func34, Try.ntmps34
    go_wp2_with (go_at_call 27; (with_reducible refine (HI.out _ _ _ (((HR.out.alloc _).alloc _))).mono ?_); rintro e w1 ⟨rfl, hb1⟩; have HBB := hid hb1; obtain ⟨hc1, hf1, hz1, hd1⟩ := bcell hb1; (try simp at hz1); replace hb1 := Below.via (B := w.heap.size) (a := w) (by (first | (go_grown; done) | (refine below_drewN ?_ _; go_grown; done) | (refine Below.drew (below_drewN ?_ _); go_grown; done))) hb1 (by go_size); (try have hy1 : w.heap.size < w1.heap.size := by omega); (try have hyy1 : w.heap.size + 1 < w1.heap.size := by omega))
    have q0 := (Blk.new (w.alloc (.cells #[.int .i64 kd, .int .i64 t, .int .i64 ks, .int .i64 sh, .int .i64 la, .slice A n cap] 33)) 33 #[.int .i64 0, .int .i64 0, .int .i64 0, .int .i64 0, .int .i64 0, .slice none 0 0]).bel HBB.out
    rw [World.size_alloc] at q0
    refine retD2 Try.results34 rfl rfl (g := w.heap.size + 1) (v0 := .int .i64 0) (v1 := .int .i64 0) (v2 := .int .i64 0) (v3 := .int .i64 0) (v4 := .int .i64 0) (v5 := .slice none 0 0) ?_ rfl ?_
    · exact (((((q0.set_ 0 _).set_ 1 _).set_ 2 _).set_ 3 _).set_ 4 _).set_ 5 _
    · exact ⟨rfl, by (first | (go_grown; done) | (refine below_drewN ?_ _; go_grown; done) | (refine Below.drew (below_drewN ?_ _); go_grown; done))⟩
set_option maxHeartbeats 1000000 in
theorem sStep_no (kd t ks sh la raw : Int) (xs : List Int) {w : World} {A : Option Addr} {n cap : Nat} (h : RdI w A n xs) (hn : n ≤ 1048576) (hno : ¬ StepOk kd t ks sh la xs raw) :
    Calls Try.prog 35 #[dbV kd t ks sh la A n cap, .int .i64 raw] w (NoStep w) := by
  have HR := hid h; clear h
  by_cases hok : DbOk kd t ks sh la xs
  · have hh := hok.head
    obtain ⟨k, rfl⟩ := Int.eq_ofNat_of_zero_le (show 0 ≤ ks by have := hh.ks0; omega)
    have hk : k ≤ 24 := by have := hh.ks1; omega
    have s1 := shl_one k (by omega)
    have e2 : ((2 ^ k : Nat) : Int) = (2 : Int) ^ k := by simp
    have hp24 : (2 : Nat) ^ k ≤ 2 ^ 24 := Nat.pow_le_pow_right (by omega) hk
    have h24 : (2 : Nat) ^ 24 = 16777216 := by decide
    rw [h24] at hp24
    have hpw := pow24 hk
    have s2 : IntKind.i64.wrap ((2 : Int) ^ k - 1) = (2 : Int) ^ k - 1 := IntWalk.i64_in _ ⟨by omega, by omega⟩
    rw [e2] at s1
    have hr : ¬ (0 ≤ raw ∧ raw ≤ (2 : Int) ^ k - 1) := fun hx => hno ⟨hok, hx.1, by rw [Int.toNat_natCast]; omega⟩
    have HL := hid (l1In_no raw 0 ((2 : Int) ^ k - 1) hr)
    have HI := hid (fun (w : World) (A : Option Addr) (c : Nat) (h : RdI w A n xs) => sIsDebouncer_any (cap := c) h hn kd t (k : Nat) sh la true ⟨fun _ => hok, fun _ => rfl⟩)
    clear hno hok e2 hh h24
    have HP := hid hr
    clear hr
    go_enter Try.func35, Try.ntmps35
    go_wp2_with (first | (go_at_call 25; (with_reducible refine (HI.out _ _ _ (((HR.out.alloc _).alloc _))).mono ?_); rintro e w1 ⟨rfl, hb1⟩; have HBB := hid hb1; obtain ⟨hc1, hf1, hz1, hd1⟩ := bcell hb1; (try simp at hz1); replace hb1 := Below.via (B := w.heap.size) (a := w) (by (first | (go_grown; done) | (refine below_drewN ?_ _; go_grown; done) | (refine Below.drew (below_drewN ?_ _); go_grown; done))) hb1 (by go_size); (try have hy1 : w.heap.size < w1.heap.size := by omega); (try have hyy1 : w.heap.size + 1 < w1.heap.size := by omega)) | (go_at_call 42; (with_reducible refine (HL.out _).mono ?_); rintro e w' ⟨rfl, rfl⟩))
    have q0 := (Blk.new (w.alloc (.cells #[.int .i64 kd, .int .i64 t, .int .i64 (k : Nat), .int .i64 sh, .int .i64 la, .slice A n cap] 33)) 33 #[.int .i64 0, .int .i64 0, .int .i64 0, .int .i64 0, .int .i64 0, .slice none 0 0]).bel HBB.out
    rw [World.size_alloc] at q0
    refine retD2 Try.results35 rfl rfl (g := w.heap.size + 1) (v0 := .int .i64 0) (v1 := .int .i64 0) (v2 := .int .i64 0) (v3 := .int .i64 0) (v4 := .int .i64 0) (v5 := .slice none 0 0) ?_ rfl ?_
    · exact (((((q0.set_ 0 _).set_ 1 _).set_ 2 _).set_ 3 _).set_ 4 _).set_ 5 _
    · exact ⟨rfl, by (first | (go_grown; done) | (refine below_drewN ?_ _; go_grown; done) | (refine Below.drew (below_drewN ?_ _); go_grown; done))⟩
  · have HI := hid (fun (w : World) (A : Option Addr) (c : Nat) (h : RdI w A n xs) => sIsDebouncer_any (cap := c) h hn kd t ks sh la false ⟨fun e => (by cases e), fun e => absurd e hok⟩)
    clear hno hok
    go_enter Try.func35, Try.ntmps35
    go_wp2_with (go_at_call 25; (with_reducible refine (HI.out _ _ _ (((HR.out.alloc _).alloc _))).mono ?_); rintro e w1 ⟨rfl, hb1⟩; have HBB := hid hb1; obtain ⟨hc1, hf1, hz1, hd1⟩ := bcell hb1; (try simp at hz1); replace hb1 := Below.via (B := w.heap.size) (a := w) (by (first | (go_grown; done) | (refine below_drewN ?_ _; go_grown; done) | (refine Below.drew (below_drewN ?_ _); go_grown; done))) hb1 (by go_size); (try have hy1 : w.heap.size < w1.heap.size := by omega); (try have hyy1 : w.heap.size + 1 < w1.heap.size := by omega))
    have q0 := (Blk.new (w.alloc (.cells #[.int .i64 kd, .int .i64 t, .int .i64 ks, .int .i64 sh, .int .i64 la, .slice A n cap] 33)) 33 #[.int .i64 0, .int .i64 0, .int .i64 0, .int .i64 0, .int .i64 0, .slice none 0 0]).bel HBB.out
    rw [World.size_alloc] at q0
    refine retD2 Try.results35 rfl rfl (g := w.heap.size + 1) (v0 := .int .i64 0) (v1 := .int .i64 0) (v2 := .int .i64 0) (v3 := .int .i64 0) (v4 := .int .i64 0) (v5 := .slice none 0 0) ?_ rfl ?_
    · exact (((((q0.set_ 0 _).set_ 1 _).set_ 2 _).set_ 3 _).set_ 4 _).set_ 5 _
    · exact ⟨rfl, by (first | (go_grown; done) | (refine below_drewN ?_ _; go_grown; done) | (refine Below.drew (below_drewN ?_ _); go_grown; done))⟩
end Go.Proofs.Ytdaabndngcebgaa
