/- Bits of samples and changes of a key, by contract in both programs. Conditions: at most 2^20 samples. -/
import Derived.Test.YtdaabndngcebgaaSlInts
import Derived.Test.YtdaabndngcebgaaChgMath
namespace Go.Proofs.Ytdaabndngcebgaa
open Go.RowKit
set_option linter.unusedVariables false

def inB (lo hi x : Int) : Bool := decide (lo ≤ x) && decide (x ≤ hi)
theorem inB_true {lo hi x : Int} (h : lo ≤ x ∧ x ≤ hi) : inB lo hi x = true := by unfold inB; simpa using h
theorem inB_false {lo hi x : Int} (h : ¬ (lo ≤ x ∧ x ≤ hi)) : inB lo hi x = false := by unfold inB; simp; omega
theorem inB_out {lo hi x : Int} (h : inB lo hi x = true) : lo ≤ x ∧ x ≤ hi := by unfold inB at h; simpa using h
theorem l1In_any (x lo hi : Int) (w : World) : Calls Try.prog 42 #[.int .i64 x, .int .i64 lo, .int .i64 hi] w fun e w' => e = .returned (.bool (inB lo hi x)) ∧ w = w' := by
  by_cases h1 : lo ≤ x
  · go_enter Try.func42, Try.ntmps42
    go_wp2
    go_ret
    exact ⟨ret_bool (by unfold inB; rw [Bool.eq_iff_iff]; simp; omega), rfl⟩
  · have h2 : x < lo := by omega
    go_enter Try.func42, Try.ntmps42
    go_wp2
    go_ret
    exact ⟨ret_bool (by unfold inB; rw [Bool.eq_iff_iff]; simp; omega), rfl⟩
theorem l3Key_any (x : Int) (w : World) : Calls Try.prog 39 #[.int .i64 x] w fun e w' => e = .returned (.bool (inB 0 23 x)) ∧ w = w' := by
  have H := hid (l1In_any x 0 23)
  go_enter Try.func39, Try.ntmps39
  go_wp2_with (go_at_call 42; (with_reducible refine (H.out _).mono ?_); rintro e w' ⟨rfl, rfl⟩)
  go_ret
  exact ⟨rfl, rfl⟩
theorem isSwitchKey_any (x : Int) (w : World) : Calls Try.prog 40 #[.int .i64 x] w fun e w' => e = .returned (.bool (inB 0 23 x)) ∧ w = w' := by
  rcases (show x < 0 ∨ (0 ≤ x ∧ x < 24) ∨ 24 ≤ x by omega) with h | ⟨h0, h⟩ | h
  all_goals
    go_enter Try.func40, Try.ntmps40
    go_wp2
    go_ret
    exact ⟨ret_bool (by unfold inB; rw [Bool.eq_iff_iff]; simp; try omega), rfl⟩
def rng (x : Int) : Prop := -9223372036854775808 ≤ x ∧ x ≤ 9223372036854775807
def b2i (b : Bool) : Int := if b then 1 else 0
theorem bit_any (x : Int) (K : Nat) (hx : rng x) (hK : K ≤ 62) (w : World) : Calls Try.prog 43 #[.int .i64 x, .int .i64 K] w fun e w' => e = .returned (.int .i64 (b2i (tbI x K))) ∧ w = w' := by
  have e1 := and_one_shr x K hx
  unfold b2i
  cases hb : tbI x K
  all_goals
    rw [hb] at e1
    simp only [if_true, Bool.false_eq_true, if_false] at e1
    clear hb hx
    go_enter Try.func43, Try.ntmps43
    go_wp2
    go_ret
    exact ⟨rfl, rfl⟩
/-- The key's bits of the samples. -/
def kb (xs : List Int) (K : Nat) : Nat → Bool := fun i => tbI (xs.getD i 0) K
theorem getD_rng {xs : List Int} (h : ∀ x ∈ xs, rng x) (i : Nat) : rng (xs.getD i 0) := by
  rw [List.getD_eq_getElem?_getD]
  cases e : xs[i]? with
  | none => simp [rng]
  | some a => simpa using h a (List.mem_of_getElem? e)
def ccI (xs : List Int) (key : Int) : Int := if inB 0 23 key then ((DB.cnt (kb xs key.toNat) xs.length : Nat) : Int) else 0

set_option maxHeartbeats 1000000 in
theorem sCountChanges_any {w : World} {A : Option Addr} {n cap : Nat} {xs : List Int} (h : RdI w A n xs) (hr : ∀ x ∈ xs, rng x) (hn : n ≤ 1048576) (key : Int) :
    Calls Try.prog 13 #[.slice A n cap, .int .i64 key] w fun e w' => e = .returned (.int .i64 (ccI xs key)) ∧ w = w' := by
  have Hk := l3Key_any key
  cases hin : inB 0 23 key with
  | false =>
    have hc : ccI xs key = 0 := by unfold ccI; rw [hin]; rfl
    rw [hc]
    rw [hin] at Hk
    have Hk := hid Hk
    clear hc hin h hr
    by_cases h0 : 0 < n
    all_goals
      go_enter Try.func13, Try.ntmps13
      go_wp2_with fail
      refine wp_loop_rounds 1 ?_; rw [rounds_succ]
      go_wp2_with (go_at_call 39; (with_reducible refine (Hk.out _).mono ?_); rintro e w' ⟨rfl, rfl⟩)
      go_ret
      exact ⟨rfl, rfl⟩
  | true =>
    obtain ⟨k0, k1⟩ := inB_out hin
    obtain ⟨K, rfl⟩ := Int.eq_ofNat_of_zero_le k0
    have hl := h.1
    have hc : ccI xs K = ((DB.cnt (kb xs K) n : Nat) : Int) := by unfold ccI; rw [hin, hl]; simp
    rw [hc]
    rw [hin] at Hk
    have Hk := hid Hk
    have HR := hid h
    have HX := hid hr
    clear hc hin h hr
    go_enter Try.func13, Try.ntmps13
    go_wp2_with fail
    go_loop [5, 6, 7] (fun c l i => ∃ k : Nat, k ≤ n ∧ i = .int .i64 k ∧ c = .int .i64 (DB.cnt (kb xs K) k : Nat) ∧ l = .int .i64 (b2i (DB.prev (kb xs K) k))) (fun _ _ i => n - (intOf i).toNat)
    case atStart => exact ⟨0, Nat.zero_le _, rfl, rfl, rfl⟩
    case round =>
      obtain ⟨k, hk, rfl, rfl, rfl⟩ := hrel
      by_cases hlt : k < n
      · obtain ⟨ad, rfl, hcell⟩ := HR.out.at_ hlt
        have e1 := and_one_shr (xs.getD k 0) K (getD_rng HX.out k)
        have hst : DB.cnt (kb xs K) (k + 1) = if kb xs K k = DB.prev (kb xs K) k then DB.cnt (kb xs K) k else DB.cnt (kb xs K) k + 1 := rfl
        have hp : DB.prev (kb xs K) (k + 1) = kb xs K k := rfl
        have hle := DB.cnt_le (kb xs K) k
        change _ = if kb xs K k = true then 1 else 0 at e1
        generalize xs.getD k 0 = x at *
        generalize DB.cnt (kb xs K) k = c at *
        generalize DB.prev (kb xs K) k = p at *
        generalize kb xs K k = b at *
        cases b <;> cases p
        all_goals
          simp only [if_true, Bool.false_eq_true, if_false, Bool.true_eq_false] at e1 hst
          have HS := hid hst; clear hst
          have HP := hid hp; clear hp
          unfold b2i
          simp only [if_true, Bool.false_eq_true, if_false]
          go_wp2_with (go_at_call 39; (with_reducible refine (Hk.out _).mono ?_); rintro e w' ⟨rfl, rfl⟩)
          go_round
          case rel => exact ⟨k + 1, by omega, by go_num, by first | (rw [HS.out]; done) | (rw [HS.out]; go_num), by rw [HP.out]; rfl⟩
          case measure => simp [intOf]; omega
      · obtain rfl : k = n := by omega
        go_wp2
        go_ret
        exact ⟨rfl, rfl⟩

theorem ownsRow_form {w : World} {base m : Nat} {e : TypeId} {v : Value} {xs : List Value} (h : w.ownsRow base e 1 v m xs) : ∃ A cap, v = .slice A m cap := by
  have h1 := h.1
  rcases h.2 with ⟨h2, h3⟩ | ⟨g, cap, cur, rfl, _⟩
  · have : m = 0 := by first | exact h3 | (subst h3; simpa using h1.symm)
    subst this
    exact ⟨none, 0, h2⟩
  · exact ⟨_, _, rfl⟩
theorem grown_own {w wr w1 : World} {e e' : TypeId} {size n : Nat} {v : Value} {xs : List Value} {cs : Array Value} (hb : Below w.heap.size w wr) (ho : wr.ownsRow w.heap.size e size v n xs) (hg : (wr.alloc (.cells cs e')).grownBy w1 v.ownBlock) : Below w.heap.size w w1 :=
  (hb.alloc hb.size _).grown hg (by have := hb.size; simp; omega) (fun k hk => (ho.lt k hk).1)
def nats (l : List Nat) : List Int := l.map (fun i : Nat => (i : Int))
theorem nats_append (l r : List Nat) : nats (l ++ r) = nats l ++ nats r := by unfold nats; simp
set_option maxHeartbeats 1000000 in
theorem changesOf_any {w : World} {A : Option Addr} {n cap : Nat} {xs : List Int} (h : RdI w A n xs) (hr : ∀ x ∈ xs, rng x) (hn : n ≤ 1048576) (K : Nat) (hK : K ≤ 62) :
    Calls Try.prog 41 #[.slice A n cap, .int .i64 K] w (MadeI w (nats (DB.chs (kb xs K) n))) := by
  have hl := h.1
  obtain ⟨i0, hi, hz0, hz1, hz2⟩ := info_parts int_info
  have HI := hid (And.intro hi (And.intro hz0 (And.intro hz1 hz2))); clear hi hz0 hz1 hz2
  have HR := hid h
  have HX := hid hr
  clear h hr
  go_enter Try.func41, Try.ntmps41
  go_wp2
  go_loopw [5, 6, 7, 8, 11] (fun v l _ _ i wr => ∃ k : Nat, k ≤ n ∧ i = .int .i64 k ∧ l = .int .i64 (b2i (DB.prev (kb xs K) k)) ∧ wr.ownsRow w.heap.size 3 1 v (DB.cnt (kb xs K) k) (ints (nats (DB.chs (kb xs K) k))) ∧ Below w.heap.size w wr) (fun _ _ _ _ i _ => n - (intOf i).toNat)
  case atStart => exact ⟨0, Nat.zero_le _, rfl, rfl, World.ownsRow_nil _ _ _ _, Below.refl _ _⟩
  case round =>
    obtain ⟨k, hk, rfl, rfl, hown, hbel⟩ := hrel
    by_cases hlt : k < n
    · obtain ⟨ad, rfl, hcell⟩ := (HR.out.below hbel).at_ hlt
      have Hb := bit_any (xs.getD k 0) K (getD_rng HX.out k) hK
      have hst : DB.cnt (kb xs K) (k + 1) = if kb xs K k = DB.prev (kb xs K) k then DB.cnt (kb xs K) k else DB.cnt (kb xs K) k + 1 := rfl
      have hch : DB.chs (kb xs K) (k + 1) = if kb xs K k = DB.prev (kb xs K) k then DB.chs (kb xs K) k else DB.chs (kb xs K) k ++ [k] := rfl
      have hp : DB.prev (kb xs K) (k + 1) = kb xs K k := rfl
      have hle := DB.cnt_le (kb xs K) k
      change ∀ w, Calls _ _ _ w fun e w' => e = .returned (.int .i64 (b2i (kb xs K k))) ∧ w = w' at Hb
      generalize xs.getD k 0 = x at *
      generalize DB.cnt (kb xs K) k = c at *
      generalize DB.chs (kb xs K) k = cs at *
      generalize DB.prev (kb xs K) k = p at *
      generalize kb xs K k = b at *
      have HO := hid hown; clear hown
      cases b <;> cases p
      all_goals
        simp only [if_true, Bool.false_eq_true, if_false, Bool.true_eq_false] at hst hch
        have HS := hid hst; clear hst
        have HC := hid hch; clear hch
        have HP := hid hp; clear hp
        unfold b2i at Hb ⊢
        simp only [if_true, Bool.false_eq_true, if_false] at Hb ⊢
        have Hb := hid Hb
      · go_wp2_with (go_at_call 43; (with_reducible refine (Hb.out _).mono ?_); rintro e w' ⟨rfl, rfl⟩)
        go_roundw
        case rel => exact ⟨k + 1, by omega, by go_num, by rw [HP.out]; rfl, by rw [HS.out, HC.out]; exact HO.out, hbel⟩
        case measure => simp [intOf]; omega
      · have h1 : ∀ u ∈ [Value.int .i64 (k : Int)], u.oneCell' = true := by intro u hu; simp at hu; subst hu; rfl
        go_wp2_with (first | (go_at_call 43; (with_reducible refine (Hb.out _).mono ?_); rintro e w' ⟨rfl, rfl⟩) | (at_builtin; refine wpList_append_any _ rfl _ _ 22 rfl w.heap.size 3 i0 (.int .i64 0) 1 8 Try.underlying22 HI.out.1 HI.out.2.1 HI.out.2.2.1 HI.out.2.2.2 rfl (by decide) _ _ _ rfl (HO.out.alloc _) (wr.heap.size + 1) _ 1 1 [.int .i64 k] rfl (reads_new wr #[.int .i64 k] 3 rfl) h1 (by unfold maxLen; omega) (by omega) (by have := Below.size hbel; simp; omega) ?_; intro v' w1 hown1 hg1 hat1; have hb1 : Below w.heap.size w w1 := grown_own hbel HO.out hg1; have HO1 := hid hown1; clear hown1 hg1 hat1))
        go_roundw
        case rel => exact ⟨k + 1, by omega, by go_num, by rw [HP.out]; rfl, by rw [HS.out, HC.out, nats_append]; unfold ints; rw [List.map_append]; exact HO1.out, hb1⟩
        case measure => simp [intOf]; omega
      · have h1 : ∀ u ∈ [Value.int .i64 (k : Int)], u.oneCell' = true := by intro u hu; simp at hu; subst hu; rfl
        go_wp2_with (first | (go_at_call 43; (with_reducible refine (Hb.out _).mono ?_); rintro e w' ⟨rfl, rfl⟩) | (at_builtin; refine wpList_append_any _ rfl _ _ 22 rfl w.heap.size 3 i0 (.int .i64 0) 1 8 Try.underlying22 HI.out.1 HI.out.2.1 HI.out.2.2.1 HI.out.2.2.2 rfl (by decide) _ _ _ rfl (HO.out.alloc _) (wr.heap.size + 1) _ 1 1 [.int .i64 k] rfl (reads_new wr #[.int .i64 k] 3 rfl) h1 (by unfold maxLen; omega) (by omega) (by have := Below.size hbel; simp; omega) ?_; intro v' w1 hown1 hg1 hat1; have hb1 : Below w.heap.size w w1 := grown_own hbel HO.out hg1; have HO1 := hid hown1; clear hown1 hg1 hat1))
        go_roundw
        case rel => exact ⟨k + 1, by omega, by go_num, by rw [HP.out]; rfl, by rw [HS.out, HC.out, nats_append]; unfold ints; rw [List.map_append]; exact HO1.out, hb1⟩
        case measure => simp [intOf]; omega
      · go_wp2_with (go_at_call 43; (with_reducible refine (Hb.out _).mono ?_); rintro e w' ⟨rfl, rfl⟩)
        go_roundw
        case rel => exact ⟨k + 1, by omega, by go_num, by rw [HP.out]; rfl, by rw [HS.out, HC.out]; exact HO.out, hbel⟩
        case measure => simp [intOf]; omega
    · obtain rfl : k = n := by omega
      obtain ⟨A', cap', rfl⟩ := ownsRow_form hown
      have hlen : (nats (DB.chs (kb xs K) k)).length = DB.cnt (kb xs K) k := by unfold nats; rw [List.length_map, DB.chs_length]
      have HL := hid hlen; clear hlen
      go_wp2
      go_ret
      exact ⟨A', cap', by rw [HL.out]; rfl, ⟨rfl, by rw [HL.out]; exact hown⟩, hbel⟩

theorem nats_length (l : List Nat) : (nats l).length = l.length := by unfold nats; simp
theorem iCountChanges_any {w : World} {A : Option Addr} {n cap : Nat} {xs : List Int} (h : RdI w A n xs) (hr : ∀ x ∈ xs, rng x) (hn : n ≤ 1048576) (key : Int) :
    Calls Try.prog 15 #[.slice A n cap, .int .i64 key] w fun e w' => e = .returned (.int .i64 (ccI xs key)) ∧ Below w.heap.size w w' := by
  have Hk := isSwitchKey_any key
  cases hin : inB 0 23 key with
  | false =>
    have hc : ccI xs key = 0 := by unfold ccI; rw [hin]; rfl
    rw [hc]
    rw [hin] at Hk
    have Hk := hid Hk
    clear hc hin h hr
    go_enter Try.func15, Try.ntmps15
    go_wp2_with (go_at_call 40; (with_reducible refine (Hk.out _).mono ?_); rintro e w' ⟨rfl, rfl⟩)
    go_ret
    exact ⟨rfl, Below.refl _ _⟩
  | true =>
    obtain ⟨k0, k1⟩ := inB_out hin
    obtain ⟨K, rfl⟩ := Int.eq_ofNat_of_zero_le k0
    have hl := h.1
    have hc : ccI xs K = ((DB.cnt (kb xs K) n : Nat) : Int) := by unfold ccI; rw [hin, hl]; simp
    rw [hc]
    rw [hin] at Hk
    have Hk := hid Hk
    have Hc := changesOf_any (cap := cap) h hr hn K (by omega)
    have hlen : (nats (DB.chs (kb xs K) n)).length = DB.cnt (kb xs K) n := by rw [nats_length, DB.chs_length]
    have HL := hid hlen
    unfold MadeI at Hc
    rw [hlen] at Hc
    have Hc := hid Hc
    clear hc hin h hr hlen
    go_enter Try.func15, Try.ntmps15
    go_wp2_with (first | (go_at_call 40; (with_reducible refine (Hk.out _).mono ?_); rintro e w' ⟨rfl, rfl⟩) | (go_at_call 41; (with_reducible refine Hc.out.mono ?_); rintro e w1 ⟨A', cap', rfl, hown, hb1⟩))
    go_ret
    exact ⟨rfl, hb1⟩
/-- What the law is handed: a slice of ints. -/
def InInts (w : World) (A : Option Addr) (n : Nat) (zs : List Int) : Prop :=
  zs.length = n ∧ n ≤ maxLen ∧ Reads w w.heap.size 1 A n (zs.map (Value.int .i64)) ∧ ∀ z ∈ zs, (Lit.int .i64 z).wf = true
theorem InInts.rd {w : World} {A : Option Addr} {n : Nat} {zs : List Int} (h : InInts w A n zs) : RdI w A n zs := ⟨h.1, h.2.2.1⟩
theorem InInts.rng {w : World} {A : Option Addr} {n : Nat} {zs : List Int} (h : InInts w A n zs) : ∀ z ∈ zs, rng z := fun z hz => i64_wf (h.2.2.2 z hz)
set_option maxRecDepth 100000 in
set_option maxHeartbeats 1000000 in
theorem walk_FnExactCountChanges (A : Option Addr) (n cap : Nat) (xs : List Int) (w : World) (hin : InInts w A n xs) (key : Int) (_ : (Lit.int .i64 key).wf = true) :
    Calls Try.prog 3 #[.slice A n cap, .int .i64 key] w fun e w' => e = .returned (.bool true) ∧ Below w.heap.size w w' := by
  by_cases hbig : 1048576 < n
  · clear hin
    go_enter Try.func3, Try.ntmps3
    go_wp2
    go_ret
    exact ⟨rfl, Below.refl _ _⟩
  · have hn : n ≤ 1048576 := by omega
    have hl := hin.1
    have hR := hin.rd
    have HX := hid hin.rng
    clear hin hbig
    subst hl
    have HR := hid hR; clear hR
    have HN := hid hn
    go_enter Try.func3, Try.ntmps3
    go_wp2_with fail
    refine (toIntS_any HR.out HN.out).mono ?_
    rintro e w1 ⟨A1, c1, rfl, ho1, hb1⟩
    have HR1 := hid (HR.out.below hb1); clear HR
    go_wp2_with fail
    refine (sCountChanges_any ho1.rd HX.out HN.out key).mono ?_
    rintro e w' ⟨rfl, rfl⟩
    go_wp2_with fail
    refine (toIntS_any HR1.out HN.out).mono ?_
    rintro e w2 ⟨A2, c2, rfl, ho2, hb2⟩
    have hb2' : Below w.heap.size w w2 := Below.step hb1 hb2
    have HR2 := hid (HR1.out.below hb2); clear HR1 hb2 hb1 ho1
    go_wp2_with fail
    refine (iCountChanges_any ho2.rd HX.out HN.out key).mono ?_
    rintro e w3 ⟨rfl, hb3⟩
    have ho3 := ho2.below hb3
    have hb3' : Below w.heap.size w w3 := Below.step hb2' hb3
    have HR3 := hid (HR2.out.below hb3); clear HR2 hb3 hb2' ho2
    go_wp2_with fail
    refine (toIntS_any HR3.out HN.out).mono ?_
    rintro e w4 ⟨A4, c4, rfl, ho4, hb4⟩
    have ho3' := ho3.below hb4
    have hb4' : Below w.heap.size w w4 := Below.step hb3' hb4
    clear HR3 hb4 hb3' ho3
    go_wp2_with fail
    refine (eqIntS_same ho3'.rd ho4.rd HN.out).mono ?_
    rintro e w5 ⟨rfl, hb5⟩
    have hb5' : Below w.heap.size w w5 := Below.step hb4' hb5
    clear hb5 hb4' ho4 ho3'
    go_wp2
    go_ret
    exact ⟨rfl, hb5'⟩
end Go.Proofs.Ytdaabndngcebgaa
