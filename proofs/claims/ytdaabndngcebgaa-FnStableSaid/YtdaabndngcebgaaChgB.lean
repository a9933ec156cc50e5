/- Changes that lie apart, by contract in both programs, and the law on them. Conditions: at most 2^20 samples. -/
import Derived.Test.YtdaabndngcebgaaChgA
namespace Go.Proofs.Ytdaabndngcebgaa
open Go.RowKit
set_option linter.unusedVariables false

theorem spaced_prefix {n : Int} {l r : List Nat} (h : DB.Spaced n (l ++ r)) : DB.Spaced n l := by
  intro i hi
  have := h i (by simp; omega)
  rw [List.getD_eq_getElem?_getD, List.getD_eq_getElem?_getD, List.getElem?_append_left (by omega), List.getElem?_append_left (by omega)] at this
  rwa [List.getD_eq_getElem?_getD, List.getD_eq_getElem?_getD]
theorem chs_prefix (f : Nat → Bool) (k : Nat) : ∀ N, k ≤ N → ∃ r, DB.chs f N = DB.chs f k ++ r
  | 0, h => by obtain rfl : k = 0 := by omega
               exact ⟨[], by simp⟩
  | N + 1, h => by
    by_cases e : k = N + 1
    · subst e; exact ⟨[], by simp⟩
    · obtain ⟨r, hr⟩ := chs_prefix f k N (by omega)
      rw [DB.chs]
      split
      · exact ⟨r, hr⟩
      · exact ⟨r ++ [N], by rw [hr, List.append_assoc]⟩
theorem spaced_chs {n : Int} {f : Nat → Bool} {k N : Nat} (h : k ≤ N) (hs : DB.Spaced n (DB.chs f N)) : DB.Spaced n (DB.chs f k) := by
  obtain ⟨r, hr⟩ := chs_prefix f k N h
  rw [hr] at hs
  exact spaced_prefix hs
/-- The last change, or -1. -/
def lastOf (l : List Nat) : Int := if l.length = 0 then -1 else ((l.getD (l.length - 1) 0 : Nat) : Int)
theorem lastOf_snoc (l : List Nat) (k : Nat) : lastOf (l ++ [k]) = (k : Int) := by
  unfold lastOf
  rw [if_neg (by simp), List.length_append, List.length_singleton, Nat.add_sub_cancel, DB.getD_snoc_eq]
theorem lastOf_rng (f : Nat → Bool) (k : Nat) : -1 ≤ lastOf (DB.chs f k) ∧ lastOf (DB.chs f k) < k := by
  unfold lastOf
  split
  · omega
  · rename_i h
    have hlt := DB.chs_lt f k ((DB.chs f k).getD ((DB.chs f k).length - 1) 0) (by
      rw [List.getD_eq_getElem?_getD, List.getElem?_eq_getElem (by omega)]
      exact List.getElem_mem _)
    omega
theorem spaced_step {n : Int} {l : List Nat} {k : Nat} (h : DB.Spaced n l) (hk : lastOf l < 0 ∨ n ≤ (k : Int) - lastOf l) : DB.Spaced n (l ++ [k]) := by
  refine DB.spaced_snoc.2 ⟨h, fun hl => ?_⟩
  unfold lastOf at hk
  rw [if_neg (by omega)] at hk
  omega
theorem spaced_not {n : Int} {l : List Nat} {k : Nat} (h0 : 0 ≤ lastOf l) (hk : (k : Int) - lastOf l < n) : ¬ DB.Spaced n (l ++ [k]) := by
  intro h
  have h2 := (DB.spaced_snoc.1 h).2
  unfold lastOf at h0 hk
  by_cases hl : l.length = 0
  · rw [if_pos hl] at h0; omega
  · rw [if_neg hl] at hk
    have := h2 (by omega)
    omega
/-- b says whether the key is one of the keyboard's and its changes lie m apart. -/
def SpB (xs : List Int) (key m : Int) (b : Bool) : Prop := b = true ↔ (inB 0 23 key = true ∧ DB.Spaced m (DB.chs (kb xs key.toNat) xs.length))

set_option maxHeartbeats 2000000 in
theorem sIsSpaced_any {w : World} {A : Option Addr} {n cap : Nat} {xs : List Int} (h : RdI w A n xs) (hr : ∀ x ∈ xs, rng x) (hn : n ≤ 1048576) (key m : Int) (b : Bool) (hb : SpB xs key m b) :
    Calls Try.prog 22 #[.slice A n cap, .int .i64 key, .int .i64 m] w fun e w' => e = .returned (.bool b) ∧ w = w' := by
  have Hk := l3Key_any key
  cases hin : inB 0 23 key with
  | false =>
    have hc : b = false := by
      cases b with
      | false => rfl
      | true => have := (hb.1 rfl).1; rw [hin] at this; cases this
    subst hc
    rw [hin] at Hk
    have Hk := hid Hk
    clear hin h hr hb
    by_cases h0 : 0 < n
    all_goals
      go_enter Try.func22, Try.ntmps22
      go_wp2_with fail
      refine wp_loop_rounds 1 ?_; rw [rounds_succ]
      go_wp2_with (go_at_call 39; (with_reducible refine (Hk.out _).mono ?_); rintro e w' ⟨rfl, rfl⟩)
      go_ret
      exact ⟨rfl, rfl⟩
  | true =>
    obtain ⟨k0, k1⟩ := inB_out hin
    obtain ⟨K, rfl⟩ := Int.eq_ofNat_of_zero_le k0
    have hl := h.1
    have hS : b = true ↔ DB.Spaced m (DB.chs (kb xs K) n) := by
      have := hb
      unfold SpB at this
      rw [hin, hl] at this
      simpa using this
    rw [hin] at Hk
    have Hk := hid Hk
    have HR := hid h
    have HX := hid hr
    have HSP := hid hS
    clear hin h hr hb hS
    go_enter Try.func22, Try.ntmps22
    go_wp2_with fail
    go_loop [7, 8, 9] (fun l a i => ∃ k : Nat, k ≤ n ∧ i = .int .i64 k ∧ a = .int .i64 (lastOf (DB.chs (kb xs K) k)) ∧ l = .int .i64 (b2i (DB.prev (kb xs K) k)) ∧ DB.Spaced m (DB.chs (kb xs K) k)) (fun _ _ i => n - (intOf i).toNat)
    case atStart => exact ⟨0, Nat.zero_le _, rfl, rfl, rfl, DB.spaced_nil _⟩
    case round =>
      obtain ⟨k, hk, rfl, rfl, rfl, hsp⟩ := hrel
      by_cases hlt : k < n
      · obtain ⟨ad, rfl, hcell⟩ := HR.out.at_ hlt
        have e1 := and_one_shr (xs.getD k 0) K (getD_rng HX.out k)
        have hst : DB.chs (kb xs K) (k + 1) = if kb xs K k = DB.prev (kb xs K) k then DB.chs (kb xs K) k else DB.chs (kb xs K) k ++ [k] := rfl
        have hp : DB.prev (kb xs K) (k + 1) = kb xs K k := rfl
        have hrg := lastOf_rng (kb xs K) k
        have hno : ¬ DB.Spaced m (DB.chs (kb xs K) (k + 1)) → b = false := fun hh => by
          cases b with
          | false => rfl
          | true => exact absurd (spaced_chs (by omega) (HSP.out.1 rfl)) hh
        change _ = if kb xs K k = true then 1 else 0 at e1
        generalize xs.getD k 0 = x at *
        generalize DB.chs (kb xs K) k = c at *
        generalize DB.prev (kb xs K) k = p at *
        generalize kb xs K k = bb at *
        have HSpc := hid hsp; clear hsp
        have HNO := hid hno; clear hno
        have HP := hid hp; clear hp
        by_cases hbp : bb = p
        · subst hbp
          rw [if_pos rfl] at hst
          have HS := hid hst; clear hst
          cases bb
          all_goals
            unfold b2i
            simp only [if_true, Bool.false_eq_true, if_false] at e1 ⊢
            generalize hla : lastOf c = la at *
            have HLa := hid hla; clear hla
            go_wp2_with (go_at_call 39; (with_reducible refine (Hk.out _).mono ?_); rintro e w' ⟨rfl, rfl⟩)
            go_round
            case rel => exact ⟨k + 1, by omega, by go_num, by rw [HS.out, HLa.out], by rw [HP.out]; rfl, by rw [HS.out]; exact HSpc.out⟩
            case measure => simp [intOf]; omega
        · rw [if_neg hbp] at hst
          have HS := hid hst; clear hst
          have HST := hid (fun hk => spaced_step (k := k) HSpc.out hk)
          have HNT := hid (fun h0 hk => spaced_not (n := m) (l := c) (k := k) h0 hk)
          have HLS := hid (lastOf_snoc c k)
          generalize lastOf c = la at *
          by_cases hd : la < 0 ∨ m ≤ (k : Int) - la
          · have HD := hid hd
            cases bb <;> cases p
            · exact absurd rfl hbp
            · rcases hd with hd | hd
              all_goals
                unfold b2i
                simp only [if_true, Bool.false_eq_true, if_false] at e1 ⊢
                clear hbp
                go_wp2_with (go_at_call 39; (with_reducible refine (Hk.out _).mono ?_); rintro e w' ⟨rfl, rfl⟩)
                all_goals
                  go_round
                  case rel => exact ⟨k + 1, by omega, by go_num, by rw [HS.out, HLS.out], by rw [HP.out]; rfl, by rw [HS.out]; exact HST.out HD.out⟩
                  case measure => simp [intOf]; omega
            · rcases hd with hd | hd
              all_goals
                unfold b2i
                simp only [if_true, Bool.false_eq_true, if_false] at e1 ⊢
                clear hbp
                go_wp2_with (go_at_call 39; (with_reducible refine (Hk.out _).mono ?_); rintro e w' ⟨rfl, rfl⟩)
                all_goals
                  go_round
                  case rel => exact ⟨k + 1, by omega, by go_num, by rw [HS.out, HLS.out], by rw [HP.out]; rfl, by rw [HS.out]; exact HST.out HD.out⟩
                  case measure => simp [intOf]; omega
            · exact absurd rfl hbp
          · have h0 : 0 ≤ la := by omega
            have hd2 : (k : Int) - la < m := by omega
            have hbf := HNO.out (by rw [HS.out]; exact HNT.out h0 hd2)
            subst hbf
            clear hd
            cases bb <;> cases p
            · exact absurd rfl hbp
            · unfold b2i
              simp only [if_true, Bool.false_eq_true, if_false] at e1 ⊢
              clear hbp
              go_wp2_with (go_at_call 39; (with_reducible refine (Hk.out _).mono ?_); rintro e w' ⟨rfl, rfl⟩)
              go_ret
              exact ⟨rfl, rfl⟩
            · unfold b2i
              simp only [if_true, Bool.false_eq_true, if_false] at e1 ⊢
              clear hbp
              go_wp2_with (go_at_call 39; (with_reducible refine (Hk.out _).mono ?_); rintro e w' ⟨rfl, rfl⟩)
              go_ret
              exact ⟨rfl, rfl⟩
            · exact absurd rfl hbp
      · obtain rfl : k = n := by omega
        have hbt : b = true := HSP.out.2 hsp
        subst hbt
        go_wp2_with (go_at_call 39; (with_reducible refine (Hk.out _).mono ?_); rintro e w' ⟨rfl, rfl⟩)
        go_ret
        exact ⟨rfl, rfl⟩

theorem nats_getD (l : List Nat) (i : Nat) : (nats l).getD i 0 = ((l.getD i 0 : Nat) : Int) := by
  unfold nats
  rw [List.getD_eq_getElem?_getD, List.getD_eq_getElem?_getD, List.getElem?_map]
  cases l[i]? <;> rfl
set_option maxHeartbeats 2000000 in
theorem iIsSpaced_any {w : World} {A : Option Addr} {n cap : Nat} {xs : List Int} (h : RdI w A n xs) (hr : ∀ x ∈ xs, rng x) (hn : n ≤ 1048576) (key m : Int) (b : Bool) (hb : SpB xs key m b) :
    Calls Try.prog 23 #[.slice A n cap, .int .i64 key, .int .i64 m] w fun e w' => e = .returned (.bool b) ∧ Below w.heap.size w w' := by
  have Hk := isSwitchKey_any key
  cases hin : inB 0 23 key with
  | false =>
    have hc : b = false := by
      cases b with
      | false => rfl
      | true => have := (hb.1 rfl).1; rw [hin] at this; cases this
    subst hc
    rw [hin] at Hk
    have Hk := hid Hk
    clear hin h hr hb
    go_enter Try.func23, Try.ntmps23
    go_wp2_with (go_at_call 40; (with_reducible refine (Hk.out _).mono ?_); rintro e w' ⟨rfl, rfl⟩)
    go_ret
    exact ⟨rfl, Below.refl _ _⟩
  | true =>
    obtain ⟨k0, k1⟩ := inB_out hin
    obtain ⟨K, rfl⟩ := Int.eq_ofNat_of_zero_le k0
    have hl := h.1
    have hS : b = true ↔ DB.Spaced m (DB.chs (kb xs K) n) := by
      have := hb
      unfold SpB at this
      rw [hin, hl] at this
      simpa using this
    rw [hin] at Hk
    have Hk := hid Hk
    have Hc := changesOf_any (cap := cap) h hr hn K (by omega)
    have hlt : ∀ q, q < (DB.chs (kb xs K) n).length → (DB.chs (kb xs K) n).getD q 0 < n := fun q hq => DB.chs_lt (kb xs K) n _ (by
      rw [List.getD_eq_getElem?_getD, List.getElem?_eq_getElem hq]
      exact List.getElem_mem _)
    have hcl : (DB.chs (kb xs K) n).length ≤ n := by rw [DB.chs_length]; exact DB.cnt_le _ _
    generalize DB.chs (kb xs K) n = c at *
    have hL := nats_length c
    unfold MadeI at Hc
    rw [hL] at Hc
    have Hc := hid Hc
    have HSP := hid hS
    have HLT := hid hlt
    clear hin h hr hb hS hL hlt
    go_enter Try.func23, Try.ntmps23
    go_wp2_with (first | (go_at_call 40; (with_reducible refine (Hk.out _).mono ?_); rintro e w' ⟨rfl, rfl⟩) | (go_at_call 41; (with_reducible refine Hc.out.mono ?_); rintro e w1 ⟨A', cap', rfl, hown, hb1⟩))
    have HO := hid hown; clear hown
    have HB1 := hid hb1; clear hb1
    go_loopw [8] (fun i wr => ∃ j q : Nat, 1 ≤ j ∧ (j ≤ c.length ∨ j = 1) ∧ i = .int .i64 j ∧ (∀ q, q + 1 < j → m ≤ ((c.getD (q + 1) 0 : Nat) : Int) - ((c.getD q 0 : Nat) : Int)) ∧ wr = w1.drewN q) (fun i _ => c.length - (intOf i).toNat)
    case atStart => exact ⟨1, 0, Nat.le_refl _, .inr rfl, rfl, fun q hq => by omega, rfl⟩
    case round =>
      obtain ⟨j, q, hj1, hj2, rfl, hsp, rfl⟩ := hrel
      have HSF := hid hsp; clear hsp
      by_cases hlt : j < c.length
      · obtain ⟨ad, rfl, hx⟩ := HO.out.rd.at_ (k := j) hlt
        obtain ⟨bd, hbd, hy⟩ := HO.out.rd.at_ (k := j - 1) (by omega)
        injection hbd with hbd
        subst hbd
        rw [nats_getD] at hx hy
        have r1 := HLT.out j hlt
        have r2 := HLT.out (j - 1) (by omega)
        have HMS := hid (fun hd : m ≤ ((c.getD j 0 : Nat) : Int) - ((c.getD (j - 1) 0 : Nat) : Int) => fun q (hq : q + 1 < j + 1) => (by
          by_cases e : q + 1 = j
          · have e2 : q = j - 1 := by omega
            rw [e, e2]; exact hd
          · exact HSF.out q (by omega) : m ≤ ((c.getD (q + 1) 0 : Nat) : Int) - ((c.getD q 0 : Nat) : Int)))
        have HNO := hid (fun hd : ¬ m ≤ ((c.getD j 0 : Nat) : Int) - ((c.getD (j - 1) 0 : Nat) : Int) => (by
          cases b with
          | false => rfl
          | true =>
            have := HSP.out.1 rfl (j - 1) (by omega)
            rw [show j - 1 + 1 = j from by omega] at this
            exact absurd this hd : b = false))
        generalize c.getD j 0 = x at *
        generalize c.getD (j - 1) 0 = y at *
        have hj0 : (0 : Int) ≤ (j : Int) := by omega
        have hjl : (j : Int) < (c.length : Int) := by omega
        have hj3 : (0 : Int) ≤ (j : Int) - 1 := by omega
        have hj4 : (j : Int) - 1 < (c.length : Int) := by omega
        have t1 : IntKind.i64.wrap ((j : Int) - 1) = (j : Int) - 1 := IntWalk.i64_in _ ⟨by omega, by omega⟩
        have t2 : ((j : Int) - 1).toNat = j - 1 := by omega
        have t3 : IntKind.i64.wrap ((x : Int) - (y : Int)) = (x : Int) - (y : Int) := IntWalk.i64_in _ ⟨by omega, by omega⟩
        by_cases hd : m ≤ (x : Int) - (y : Int)
        · have HD := hid (HMS.out hd)
          go_wp2
          go_quiet (fail)
          go_wp2
          go_roundw
          case rel => exact ⟨j + 1, _, by omega, .inl hlt, by go_num, HD.out, rfl⟩
          case measure => simp [intOf]; omega
        · have hbf := HNO.out hd
          subst hbf
          have hd2 : (x : Int) - (y : Int) < m := by omega
          clear hd
          go_wp2
          go_quiet (fail)
          go_wp2
          go_ret
          exact ⟨rfl, below_drewN (below_drewN HB1.out _) _⟩
      · have hbt : b = true := HSP.out.2 (fun i hi => HSF.out i (by omega))
        subst hbt
        go_wp2
        go_ret
        exact ⟨rfl, below_drewN HB1.out _⟩

theorem spB_any (xs : List Int) (key m : Int) : ∃ b, SpB xs key m b := by
  by_cases h : inB 0 23 key = true ∧ DB.Spaced m (DB.chs (kb xs key.toNat) xs.length)
  · exact ⟨true, ⟨fun _ => h, fun _ => rfl⟩⟩
  · exact ⟨false, ⟨fun e => (by cases e), fun e => absurd e h⟩⟩

theorem walk_FnExactIsSpaced (A : Option Addr) (n cap : Nat) (xs : List Int) (w : World) (hin : InInts w A n xs) (key : Int) (_ : (Lit.int .i64 key).wf = true) (m : Int) (_ : (Lit.int .i64 m).wf = true) :
    Calls Try.prog 6 #[.slice A n cap, .int .i64 key, .int .i64 m] w fun e w' => e = .returned (.bool true) ∧ Below w.heap.size w w' := by
  obtain ⟨b, hb⟩ := spB_any xs key m
  by_cases hbig : 1048576 < n
  · clear hin hb
    go_enter Try.func6, Try.ntmps6
    go_wp2
    go_ret
    exact ⟨rfl, Below.refl _ _⟩
  · have hn : n ≤ 1048576 := by omega
    have hl := hin.1
    have hR := hin.rd
    have HX := hid hin.rng
    have HB := hid hb
    clear hin hbig hb
    subst hl
    have HR := hid hR; clear hR
    have HN := hid hn
    go_enter Try.func6, Try.ntmps6
    go_wp2_with fail
    refine (toIntS_any HR.out HN.out).mono ?_
    rintro e w1 ⟨A1, c1, rfl, ho1, hb1⟩
    have HR1 := hid (HR.out.below hb1); clear HR
    go_wp2_with fail
    refine (sIsSpaced_any ho1.rd HX.out HN.out key m b HB.out).mono ?_
    rintro e w' ⟨rfl, rfl⟩
    go_wp2_with fail
    refine (toIntS_any HR1.out HN.out).mono ?_
    rintro e w2 ⟨A2, c2, rfl, ho2, hb2⟩
    have hb2' : Below w.heap.size w w2 := Below.step hb1 hb2
    have HR2 := hid (HR1.out.below hb2); clear HR1 hb2 hb1 ho1
    go_wp2_with fail
    refine (iIsSpaced_any ho2.rd HX.out HN.out key m b HB.out).mono ?_
    rintro e w3 ⟨rfl, hb3⟩
    have ho3 := ho2.below hb3
    have hb3' : Below w.heap.size w w3 := Below.step hb2' hb3
    have HR3 := hid (HR2.out.below hb3); clear HR2 hb3 hb2' ho2
    go_wp2_with fail
    refine (toIntS_any HR3.out HN.out).mono ?_
    rintro e w4 ⟨A4, c4, rfl, ho4, hb4⟩
    have ho3' := ho3.below hb4
    have hb4' : Below w.heap.size w w4 := Below.step hb3' hb4
    clear HR3 hb4 hb3' ho3
    go_wp2_with fail
    refine (eqIntS_same ho3'.rd ho4.rd HN.out).mono ?_
    rintro e w5 ⟨rfl, hb5⟩
    have hb5' : Below w.heap.size w w5 := Below.step hb4' hb5
    clear hb5 hb4' ho4 ho3'
    go_wp2
    go_ret
    exact ⟨rfl, hb5'⟩
end Go.Proofs.Ytdaabndngcebgaa
