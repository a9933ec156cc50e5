/- Changes of a key, by contract in the program. Conditions: at most 2^20 samples. -/
import Derived.Test.YthjgapjagfjamaaSlInts
import Derived.Test.YthjgapjagfjamaaChgMath
namespace Go.Proofs.Ythjgapjagfjamaa
open Go.RowKit
set_option linter.unusedVariables false

theorem isSwitchKey_any (x : Int) (w : World) : Calls Try.prog 45 #[.int .i64 x] w fun e w' => e = .returned (.bool (inB 0 23 x)) ∧ w = w' := by
  rcases (show x < 0 ∨ (0 ≤ x ∧ x < 24) ∨ 24 ≤ x by omega) with h | ⟨h0, h⟩ | h
  all_goals
    go_enter Try.func45, Try.ntmps45
    go_wp2
    go_ret
    exact ⟨ret_bool (by unfold inB; rw [Bool.eq_iff_iff]; simp; try omega), rfl⟩
/-- The key's bits of the samples. -/
def kb (xs : List Int) (K : Nat) : Nat → Bool := fun i => tbI (xs.getD i 0) K
theorem getD_rng {xs : List Int} (h : ∀ x ∈ xs, rng x) (i : Nat) : rng (xs.getD i 0) := by
  rw [List.getD_eq_getElem?_getD]
  cases e : xs[i]? with
  | none => simp [rng]
  | some a => simpa using h a (List.mem_of_getElem? e)
def ccI (xs : List Int) (key : Int) : Int := if inB 0 23 key then ((DB.cnt (kb xs key.toNat) xs.length : Nat) : Int) else 0

set_option maxHeartbeats 1000000 in
theorem changesOf_any {w : World} {A : Option Addr} {n cap : Nat} {xs : List Int} (h : RdI w A n xs) (hr : ∀ x ∈ xs, rng x) (hn : n ≤ 1048576) (K : Nat) (hK : K ≤ 62) :
    Calls Try.prog 46 #[.slice A n cap, .int .i64 K] w (MadeI w (nats (DB.chs (kb xs K) n))) := by
  have hl := h.1
  obtain ⟨i0, hi, hz0, hz1, hz2⟩ := info_parts int_info
  have HI := hid (And.intro hi (And.intro hz0 (And.intro hz1 hz2))); clear hi hz0 hz1 hz2
  have HR := hid h
  have HX := hid hr
  clear h hr
  go_enter Try.func46, Try.ntmps46
  go_wp2
  go_loopw [5, 6, 7, 8, 11] (fun v l _ _ i wr => ∃ k : Nat, k ≤ n ∧ i = .int .i64 k ∧ l = .int .i64 (b2i (DB.prev (kb xs K) k)) ∧ wr.ownsRow w.heap.size 3 1 v (DB.cnt (kb xs K) k) (ints (nats (DB.chs (kb xs K) k))) ∧ Below w.heap.size w wr) (fun _ _ _ _ i _ => n - (intOf i).toNat)
  case atStart => exact ⟨0, Nat.zero_le _, rfl, rfl, World.ownsRow_nil _ _ _ _, Below.refl _ _⟩
  case round =>
    obtain ⟨k, hk, rfl, rfl, hown, hbel⟩ := hrel
    by_cases hlt : k < n
    · obtain ⟨ad, rfl, hcell⟩ := (HR.out.below hbel).at_ hlt
      have Hb := bit_any (xs.getD k 0) K (getD_rng HX.out k) hK
      have hst : DB.cnt (kb xs K) (k + 1) = if kb xs K k = DB.prev (kb xs K) k then DB.cnt (kb xs K) k else DB.cnt (kb xs K) k + 1 := rfl
      have hch : DB.chs (kb xs K) (k + 1) = if kb xs K k = DB.prev (kb xs K) k then DB.chs (kb xs K) k else DB.chs (kb xs K) k ++ [k] := rfl
      have hp : DB.prev (kb xs K) (k + 1) = kb xs K k := rfl
      have hle := DB.cnt_le (kb xs K) k
      change ∀ w, Calls _ _ _ w fun e w' => e = .returned (.int .i64 (b2i (kb xs K k))) ∧ w = w' at Hb
      generalize xs.getD k 0 = x at *
      generalize DB.cnt (kb xs K) k = c at *
      generalize DB.chs (kb xs K) k = cs at *
      generalize DB.prev (kb xs K) k = p at *
      generalize kb xs K k = b at *
      have HO := hid hown; clear hown
      cases b <;> cases p
      all_goals
        simp only [if_true, Bool.false_eq_true, if_false, Bool.true_eq_false] at hst hch
        have HS := hid hst; clear hst
        have HC := hid hch; clear hch
        have HP := hid hp; clear hp
        unfold b2i at Hb ⊢
        simp only [if_true, Bool.false_eq_true, if_false] at Hb ⊢
        have Hb := hid Hb
      · go_wp2_with (go_at_call 47; (with_reducible refine (Hb.out _).mono ?_); rintro e w' ⟨rfl, rfl⟩)
        go_roundw
        case rel => exact ⟨k + 1, by omega, by go_num, by rw [HP.out]; rfl, by rw [HS.out, HC.out]; exact HO.out, hbel⟩
        case measure => simp [intOf]; omega
      · have h1 : ∀ u ∈ [Value.int .i64 (k : Int)], u.oneCell' = true := by intro u hu; simp at hu; subst hu; rfl
        go_wp2_with (first | (go_at_call 47; (with_reducible refine (Hb.out _).mono ?_); rintro e w' ⟨rfl, rfl⟩) | (at_builtin; refine wpList_append_any _ rfl _ _ 37 rfl w.heap.size 3 i0 (.int .i64 0) 1 8 Try.underlying37 HI.out.1 HI.out.2.1 HI.out.2.2.1 HI.out.2.2.2 rfl (by decide) _ _ _ rfl (HO.out.alloc _) (wr.heap.size + 1) _ 1 1 [.int .i64 k] rfl (reads_new wr #[.int .i64 k] 3 rfl) h1 (by unfold maxLen; omega) (by omega) (by have := Below.size hbel; simp; omega) ?_; intro v' w1 hown1 hg1 hat1; have hb1 : Below w.heap.size w w1 := grown_own hbel HO.out hg1; have HO1 := hid hown1; clear hown1 hg1 hat1))
        go_roundw
        case rel => exact ⟨k + 1, by omega, by go_num, by rw [HP.out]; rfl, by rw [HS.out, HC.out, nats_append]; unfold ints; rw [List.map_append]; exact HO1.out, hb1⟩
        case measure => simp [intOf]; omega
      · have h1 : ∀ u ∈ [Value.int .i64 (k : Int)], u.oneCell' = true := by intro u hu; simp at hu; subst hu; rfl
        go_wp2_with (first | (go_at_call 47; (with_reducible refine (Hb.out _).mono ?_); rintro e w' ⟨rfl, rfl⟩) | (at_builtin; refine wpList_append_any _ rfl _ _ 37 rfl w.heap.size 3 i0 (.int .i64 0) 1 8 Try.underlying37 HI.out.1 HI.out.2.1 HI.out.2.2.1 HI.out.2.2.2 rfl (by decide) _ _ _ rfl (HO.out.alloc _) (wr.heap.size + 1) _ 1 1 [.int .i64 k] rfl (reads_new wr #[.int .i64 k] 3 rfl) h1 (by unfold maxLen; omega) (by omega) (by have := Below.size hbel; simp; omega) ?_; intro v' w1 hown1 hg1 hat1; have hb1 : Below w.heap.size w w1 := grown_own hbel HO.out hg1; have HO1 := hid hown1; clear hown1 hg1 hat1))
        go_roundw
        case rel => exact ⟨k + 1, by omega, by go_num, by rw [HP.out]; rfl, by rw [HS.out, HC.out, nats_append]; unfold ints; rw [List.map_append]; exact HO1.out, hb1⟩
        case measure => simp [intOf]; omega
      · go_wp2_with (go_at_call 47; (with_reducible refine (Hb.out _).mono ?_); rintro e w' ⟨rfl, rfl⟩)
        go_roundw
        case rel => exact ⟨k + 1, by omega, by go_num, by rw [HP.out]; rfl, by rw [HS.out, HC.out]; exact HO.out, hbel⟩
        case measure => simp [intOf]; omega
    · obtain rfl : k = n := by omega
      obtain ⟨A', cap', rfl⟩ := ownsRow_form hown
      have hlen : (nats (DB.chs (kb xs K) k)).length = DB.cnt (kb xs K) k := by unfold nats; rw [List.length_map, DB.chs_length]
      have HL := hid hlen; clear hlen
      go_wp2
      go_ret
      exact ⟨A', cap', by rw [HL.out]; rfl, ⟨rfl, by rw [HL.out]; exact hown⟩, hbel⟩

theorem nats_length (l : List Nat) : (nats l).length = l.length := by unfold nats; simp
theorem iCountChanges_any {w : World} {A : Option Addr} {n cap : Nat} {xs : List Int} (h : RdI w A n xs) (hr : ∀ x ∈ xs, rng x) (hn : n ≤ 1048576) (key : Int) :
    Calls Try.prog 35 #[.slice A n cap, .int .i64 key] w fun e w' => e = .returned (.int .i64 (ccI xs key)) ∧ Below w.heap.size w w' := by
  have Hk := isSwitchKey_any key
  cases hin : inB 0 23 key with
  | false =>
    have hc : ccI xs key = 0 := by unfold ccI; rw [hin]; rfl
    rw [hc]
    rw [hin] at Hk
    have Hk := hid Hk
    clear hc hin h hr
    go_enter Try.func35, Try.ntmps35
    go_wp2_with (go_at_call 45; (with_reducible refine (Hk.out _).mono ?_); rintro e w' ⟨rfl, rfl⟩)
    go_ret
    exact ⟨rfl, Below.refl _ _⟩
  | true =>
    obtain ⟨k0, k1⟩ := inB_out hin
    obtain ⟨K, rfl⟩ := Int.eq_ofNat_of_zero_le k0
    have hl := h.1
    have hc : ccI xs K = ((DB.cnt (kb xs K) n : Nat) : Int) := by unfold ccI; rw [hin, hl]; simp
    rw [hc]
    rw [hin] at Hk
    have Hk := hid Hk
    have Hc := changesOf_any (cap := cap) h hr hn K (by omega)
    have hlen : (nats (DB.chs (kb xs K) n)).length = DB.cnt (kb xs K) n := by rw [nats_length, DB.chs_length]
    have HL := hid hlen
    unfold MadeI at Hc
    rw [hlen] at Hc
    have Hc := hid Hc
    clear hc hin h hr hlen
    go_enter Try.func35, Try.ntmps35
    go_wp2_with (first | (go_at_call 45; (with_reducible refine (Hk.out _).mono ?_); rintro e w' ⟨rfl, rfl⟩) | (go_at_call 46; (with_reducible refine Hc.out.mono ?_); rintro e w1 ⟨A', cap', rfl, hown, hb1⟩))
    go_ret
    exact ⟨rfl, hb1⟩
end Go.Proofs.Ythjgapjagfjamaa
