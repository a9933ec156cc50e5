/- Events as texts and read from texts: what both programs answer, in plain words. Conditions: none; no program in sight. -/
import Derived.Test.YtpfocjdhjkifmaaDoorPinM
import Derived.Test.YtpfocjdhjkifmaaDoorEvMath
import Derived.Test.YtpfocjdhjkifmaaDoorTxtMath
import Derived.Lib.IndexAny
namespace Go.Proofs.YtpfocjdhjkifmaaDoor
set_option linter.unusedVariables false

/-- The text of an event. -/
def evT (e : EV.Ev) : List UInt8 := Lib.itoa e.time ++ (if e.down then 43 else 45) :: Lib.itoa e.key
def feL (l : List EV.Ev) : List UInt8 := if EV.isEvs l then Lib.join (l.map evT) [32] else []
/-- The place of the first sign. -/
def isSg (b : UInt8) : Bool := b == 43 || b == 45
def sgI (l : List UInt8) : Nat := l.findIdx isSg
/-- The event of a part. -/
def peO (l : List UInt8) : Option EV.Ev :=
  if sgI l < l.length then
    match piO (l.take (sgI l)), piO (l.drop (sgI l + 1)) with
    | some t, some k => some ⟨t, k, l.getD (sgI l) 0 == 43⟩
    | _, _ => none
  else none
def peE (l : List UInt8) : EV.Ev := (peO l).getD ⟨0, 0, false⟩
def peB (l : List UInt8) : Bool := (peO l).isSome
theorem peO_none {l : List UInt8} (h : ¬ sgI l < l.length) : peO l = none := by unfold peO; rw [if_neg h]
theorem peO_some {l : List UInt8} {t k : Int} (h : sgI l < l.length) (h1 : piO (l.take (sgI l)) = some t) (h2 : piO (l.drop (sgI l + 1)) = some k) : peO l = some ⟨t, k, l.getD (sgI l) 0 == 43⟩ := by
  unfold peO; rw [if_pos h, h1, h2]
theorem peO_bad {l : List UInt8} (h : piO (l.take (sgI l)) = none ∨ piO (l.drop (sgI l + 1)) = none) : peO l = none := by
  unfold peO
  by_cases hs : sgI l < l.length
  · rw [if_pos hs]
    rcases h with h | h
    · rw [h]
    · rw [h]; cases piO (l.take (sgI l)) <;> rfl
  · rw [if_neg hs]
theorem sgI_at {l : List UInt8} (h : sgI l < l.length) : isSg (l.getD (sgI l) 0) = true := by
  rw [List.getD_eq_getElem?_getD, List.getElem?_eq_getElem h]
  exact List.findIdx_getElem (w := h)
theorem getD_split {l : List UInt8} {k : Nat} (h : k < l.length) : l.take k ++ l.getD k 0 :: l.drop (k + 1) = l := by
  rw [List.getD_eq_getElem?_getD, List.getElem?_eq_getElem h]
  simp only [Option.getD_some]
  rw [← List.drop_eq_getElem_cons h, List.take_append_drop]
theorem peO_text {l : List UInt8} {e : EV.Ev} (h : peO l = some e) : evT e = l := by
  by_cases hs : sgI l < l.length
  · unfold peO at h
    rw [if_pos hs] at h
    cases h1 : piO (l.take (sgI l)) with
    | none => rw [h1] at h; simp at h
    | some t =>
      cases h2 : piO (l.drop (sgI l + 1)) with
      | none => rw [h1, h2] at h; simp at h
      | some k =>
        rw [h1, h2] at h
        simp only [Option.some.injEq] at h
        subst h
        have e1 := (piO_out h1).2.2
        have e2 := (piO_out h2).2.2
        have e3 := sgI_at hs
        unfold evT
        simp only
        rw [e1, e2]
        have e4 : (if (l.getD (sgI l) 0 == 43) = true then (43 : UInt8) else 45) = l.getD (sgI l) 0 := by
          unfold isSg at e3
          by_cases h43 : l.getD (sgI l) 0 = 43
          · rw [h43]; rfl
          · rw [if_neg (by simpa using h43)]
            simp only [Bool.or_eq_true, beq_iff_eq] at e3
            rcases e3 with e3 | e3
            · exact absurd e3 h43
            · exact e3.symm
        rw [e4]
        exact getD_split hs
  · rw [peO_none hs] at h; cases h
/-- The events of a text. -/
def peL (l : List UInt8) : Option (List EV.Ev) :=
  if l = [] then some [] else
  if decide ((TX.parts 32 l).length ≤ 64) && (TX.parts 32 l).all peB && EV.isEvs ((TX.parts 32 l).map peE) then some ((TX.parts 32 l).map peE) else none
theorem peL_nil : peL [] = some [] := rfl
theorem peL_yes {l : List UInt8} (h0 : l ≠ []) (h1 : (TX.parts 32 l).length ≤ 64) (h2 : ∀ p ∈ TX.parts 32 l, peB p = true) (h3 : EV.isEvs ((TX.parts 32 l).map peE) = true) : peL l = some ((TX.parts 32 l).map peE) := by
  unfold peL; rw [if_neg h0, if_pos]; rw [decide_eq_true h1, h3, List.all_eq_true.2 h2]; rfl
theorem peL_long {l : List UInt8} (h0 : l ≠ []) (h1 : 64 < (TX.parts 32 l).length) : peL l = none := by
  unfold peL; rw [if_neg h0, if_neg]; rw [decide_eq_false (by omega)]; simp
theorem peL_bad {l : List UInt8} (h0 : l ≠ []) {p : List UInt8} (hp : p ∈ TX.parts 32 l) (h : peB p = false) : peL l = none := by
  unfold peL; rw [if_neg h0, if_neg]
  rw [show (TX.parts 32 l).all peB = false from by rw [List.all_eq_false]; exact ⟨p, hp, by rw [h]; simp⟩]; simp
theorem peL_wrong {l : List UInt8} (h0 : l ≠ []) (h : EV.isEvs ((TX.parts 32 l).map peE) = false) : peL l = none := by
  unfold peL; rw [if_neg h0, if_neg]; rw [h]; simp
/-- What has been read is written as the text. -/
theorem feL_parts {l : List UInt8} (h2 : ∀ p ∈ TX.parts 32 l, peB p = true) (h3 : EV.isEvs ((TX.parts 32 l).map peE) = true) : feL ((TX.parts 32 l).map peE) = l := by
  unfold feL
  rw [if_pos h3, List.map_map, List.map_congr_left (g := id), List.map_id, TX.join_parts]
  intro p hp
  have h := h2 p hp
  unfold peB at h
  obtain ⟨e, he⟩ := Option.isSome_iff_exists.1 h
  show evT (peE p) = p
  unfold peE
  rw [he]
  exact peO_text he
/-- Each of right events is right for itself. -/
theorem isEvs_mem {l : List EV.Ev} (h : EV.isEvs l = true) {j : Nat} (hj : j < l.length) : 0 ≤ (l.getD j ⟨0, 0, false⟩).time ∧ (l.getD j ⟨0, 0, false⟩).time ≤ 1000000 ∧ 0 ≤ (l.getD j ⟨0, 0, false⟩).key ∧ (l.getD j ⟨0, 0, false⟩).key ≤ 31 := by
  have hf := (EV.isEvs_fw h).2
  have hj2 : EV.fw l (j + 1) ≠ none := by
    intro hn
    have := EV.fw_none l hn l.length hj
    rw [this] at hf; cases hf
  rw [EV.fw] at hj2
  split at hj2
  · exact absurd rfl hj2
  · rename_i d hd
    by_cases hg : EV.good l j d = true
    · unfold EV.good at hg
      simp only [Bool.and_eq_true, decide_eq_true_eq] at hg
      exact hg.1.1
    · rw [if_neg hg] at hj2; exact absurd rfl hj2

/-! ### read again -/
theorem digs_digit : ∀ (k n : Nat), n < 10 ^ k → ∀ b ∈ digs n, 48 ≤ b.toNat ∧ b.toNat ≤ 57
  | 0, n, h => by
    obtain rfl : n = 0 := by simpa using h
    rw [digs_zero]; simp
  | k + 1, n, h => by
    by_cases h0 : n = 0
    · subst h0; rw [digs_zero]; simp
    · rw [digs_pos h0]
      intro b hb
      rcases List.mem_append.1 hb with hb | hb
      · exact digs_digit k (n / 10) (by rw [Nat.pow_succ] at h; omega) b hb
      · have hb' : b = UInt8.ofNat (48 + n % 10) := by simpa using hb
        have := digit_nat (n % 10) (by omega)
        rw [hb', this]; omega
theorem dec_digit (n : Nat) (h : n ≤ 999999999) : ∀ b ∈ Lib.decDigits n, 48 ≤ b.toNat ∧ b.toNat ≤ 57 := by
  by_cases h0 : n = 0
  · subst h0; rw [Lib.decDigits_one (by omega)]; intro b hb; have : b = UInt8.ofNat (48 + 0) := by simpa using hb
    rw [this]; decide
  · rw [decDigits_digs h0]; exact digs_digit 9 n (by omega)
theorem decFrom_snoc : ∀ (l : List UInt8) (acc v : Nat) (b : UInt8), Lib.decFrom acc l = some v → 48 ≤ b.toNat ∧ b.toNat ≤ 57 → Lib.decFrom acc (l ++ [b]) = some (v * 10 + (b.toNat - 48))
  | [], acc, v, b, h, hb => by
    simp only [Lib.decFrom, Option.some.injEq] at h
    subst h
    have hd : Lib.digitVal b = some (b.toNat - 48) := by unfold Lib.digitVal; rw [if_pos hb]
    simp [Lib.decFrom, hd]
  | x :: l, acc, v, b, h, hb => by
    rw [List.cons_append]
    unfold Lib.decFrom at h ⊢
    cases hx : Lib.digitVal x with
    | none => rw [hx] at h; simp at h
    | some d =>
      rw [hx] at h
      simp only at h ⊢
      exact decFrom_snoc l _ v b h hb
theorem decFrom_digs : ∀ (k n : Nat), n < 10 ^ k → Lib.decFrom 0 (digs n) = some n
  | 0, n, h => by
    obtain rfl : n = 0 := by simpa using h
    rw [digs_zero]; rfl
  | k + 1, n, h => by
    by_cases h0 : n = 0
    · subst h0; rw [digs_zero]; rfl
    · rw [digs_pos h0]
      have ih := decFrom_digs k (n / 10) (by rw [Nat.pow_succ] at h; omega)
      have hd := digit_nat (n % 10) (by omega)
      rw [decFrom_snoc _ _ _ _ ih (by rw [hd]; omega), hd]
      congr 1; omega
theorem itoa_nat {n : Int} (h0 : 0 ≤ n) : Lib.itoa n = Lib.decDigits n.toNat := by unfold Lib.itoa; rw [if_neg (by omega)]
/-- A number's text is read as the number. -/
theorem piO_itoa {n : Int} (h0 : 0 ≤ n) (h1 : n ≤ 999999999) : piO (Lib.itoa n) = some n := by
  refine piO_yes ?_ ⟨by omega, h1⟩ rfl
  rw [itoa_nat h0]
  have hdec : Lib.decFrom 0 (Lib.decDigits n.toNat) = some n.toNat := by
    by_cases h : n.toNat = 0
    · rw [h, Lib.decDigits_one (by omega)]; rfl
    · rw [decDigits_digs h]; exact decFrom_digs 9 _ (by omega)
  have hlen := dec_len n.toNat (by omega)
  have hdig := dec_digit n.toNat (by omega)
  cases hl : Lib.decDigits n.toNat with
  | nil => rw [hl] at hlen; simp at hlen
  | cons b r =>
    rw [hl] at hdec hdig
    have hb := hdig b (by simp)
    have n45 : (b == 45) = false := by
      rw [beq_eq_false_iff_ne]; rintro rfl; revert hb; decide
    have n43 : (b == 43) = false := by
      rw [beq_eq_false_iff_ne]; rintro rfl; revert hb; decide
    rw [atoi_cons, n45, n43]
    simp only [Bool.false_eq_true, if_false]
    have : Lib.decNat (b :: r) = some n.toNat := by unfold Lib.decNat; simpa using hdec
    rw [this]
    simp; omega
theorem findIdx_app {p : UInt8 → Bool} (a : List UInt8) (c : UInt8) (b : List UInt8) (ha : ∀ x ∈ a, p x = false) (hc : p c = true) : (a ++ c :: b).findIdx p = a.length := by
  induction a with
  | nil => simp [List.findIdx_cons, hc]
  | cons x a ih =>
    rw [List.cons_append, List.findIdx_cons, ha x (by simp), ih (fun y hy => ha y (by simp [hy]))]
    simp
theorem digit_nosg {b : UInt8} (h : 48 ≤ b.toNat ∧ b.toNat ≤ 57) : isSg b = false := by
  unfold isSg
  rw [Bool.or_eq_false_iff, beq_eq_false_iff_ne, beq_eq_false_iff_ne]
  constructor <;> (rintro rfl; revert h; decide)
theorem peO_evT {e : EV.Ev} (h0 : 0 ≤ e.time) (h1 : e.time ≤ 999999999) (h2 : 0 ≤ e.key) (h3 : e.key ≤ 999999999) : peO (evT e) = some e := by
  have hdt : ∀ x ∈ Lib.itoa e.time, isSg x = false := by rw [itoa_nat h0]; exact fun x hx => digit_nosg (dec_digit _ (by omega) x hx)
  have hsg : isSg (if e.down then 43 else 45) = true := by cases e.down <;> rfl
  have hi : sgI (evT e) = (Lib.itoa e.time).length := by unfold sgI evT; exact findIdx_app _ _ _ hdt hsg
  have hlt : sgI (evT e) < (evT e).length := by rw [hi]; unfold evT; simp
  have e1 : (evT e).take (sgI (evT e)) = Lib.itoa e.time := by rw [hi]; unfold evT; simp
  have e2 : (evT e).drop (sgI (evT e) + 1) = Lib.itoa e.key := by
    rw [hi]; unfold evT
    rw [List.drop_append]
    simp
  have e3 : (evT e).getD (sgI (evT e)) 0 = (if e.down then 43 else 45) := by rw [hi]; unfold evT; simp
  rw [peO_some hlt (by rw [e1]; exact piO_itoa h0 h1) (by rw [e2]; exact piO_itoa h2 h3), e3]
  obtain ⟨t, k, d⟩ := e
  cases d <;> rfl
theorem evT_free (e : EV.Ev) (h0 : 0 ≤ e.time) (h1 : e.time ≤ 999999999) (h2 : 0 ≤ e.key) (h3 : e.key ≤ 999999999) : (32 : UInt8) ∉ evT e := by
  unfold evT
  intro hm
  have hno : ∀ n : Int, 0 ≤ n → n ≤ 999999999 → (32 : UInt8) ∉ Lib.itoa n := by
    intro n hn0 hn1 hmem
    rw [itoa_nat hn0] at hmem
    have := dec_digit _ (by omega) _ hmem
    revert this; decide
  rcases List.mem_append.1 hm with h | h
  · exact hno _ h0 h1 h
  · rcases List.mem_cons.1 h with h | h
    · revert h; cases e.down <;> decide
    · exact hno _ h2 h3 h
end Go.Proofs.YtpfocjdhjkifmaaDoor
