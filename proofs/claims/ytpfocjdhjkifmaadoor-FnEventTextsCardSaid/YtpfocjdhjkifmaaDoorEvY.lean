/- Drawn events and a drawn number, by contract in the reference. Conditions: none. -/
import Derived.Test.YtpfocjdhjkifmaaDoorCur
import Derived.Test.YtpfocjdhjkifmaaDoorEvP0
import Derived.Deep.DeepCutAuto
namespace Go.Proofs.YtpfocjdhjkifmaaDoor
open Go.RowKit
set_option linter.unusedVariables false

/-- What the drawing of events holds at a world W. -/
structure Se (w W : World) (g B : Nat) (A : Option Addr) (n cap : Nat) (bs : List Int) (v : Value) (l : List EV.Ev) : Prop where
  cur : Cur W g B A n cap bs
  gr : w.grownBy W (some g)
  own : W.ownsRow w.heap.size 47 3 v l.length (evCs l)
theorem Se.next {w W W' : World} {g B : Nat} {A : Option Addr} {n cap : Nat} {bs : List Int} {v : Value} {l : List EV.Ev} (h : Se w W g B A n cap bs v l) (hg : g < w.heap.size) (hc : Cur W' g B A n cap bs) (hgr : W.grownBy W' (some g)) : Se w W' g B A n cap bs v l :=
  ⟨hc, only_trans h.gr hgr, h.own.kept hgr (.inr (fun e => own_ne h.own hg e.symm))⟩
theorem Se.alloc {w W : World} {g B : Nat} {A : Option Addr} {n cap : Nat} {bs : List Int} {v : Value} {l : List EV.Ev} (h : Se w W g B A n cap bs v l) (o : Obj) : Se w (W.alloc o) g B A n cap bs v l :=
  ⟨h.cur.alloc o, only_alloc h.gr o, h.own.alloc o⟩
theorem Se.app {w W W' : World} {g B : Nat} {A : Option Addr} {n cap : Nat} {bs : List Int} {v v' : Value} {l : List EV.Ev} {x : EV.Ev} {cs : Array Value} {e : TypeId} (h : Se w W g B A n cap bs v l) (hg : g < w.heap.size)
    (ho : W'.ownsRow w.heap.size 47 3 v' (l.length + 1) (evCs l ++ [.int .i64 x.time, .int .i64 x.key, .bool x.down])) (hgr : (W.alloc (.cells cs e)).grownBy W' v.ownBlock) : Se w W' g B A n cap bs v' (l ++ [x]) := by
  have hb : Below w.heap.size W W' := (((Below.refl w.heap.size W).alloc h.gr.size _)).grown hgr (by have := h.gr.size; simp; omega) (fun k hk => (h.own.lt k hk).1)
  refine ⟨h.cur.below hb hg, ⟨hb.os.trans h.gr.os, hb.tape.trans h.gr.tape, hb.output.trans h.gr.output, Nat.le_trans h.gr.size hb.size, fun i hi hne => (hb.block i hi).trans (h.gr.block i hi hne)⟩, ?_⟩
  rw [List.length_append, evCs_append]; exact ho
theorem pick8 {P : Int → Prop} {v0 v1 v2 v3 v4 v5 v6 v7 : Int} (hP : P v0 ∧ P v1 ∧ P v2 ∧ P v3 ∧ P v4 ∧ P v5 ∧ P v6 ∧ P v7) (j : Nat) (hj : j < 8) :
    ∃ x, P x ∧ (#[Value.int .i64 v0, .int .i64 v1, .int .i64 v2, .int .i64 v3, .int .i64 v4, .int .i64 v5, .int .i64 v6, .int .i64 v7])[j]? = some (.int .i64 x) := by
  obtain ⟨p0, p1, p2, p3, p4, p5, p6, p7⟩ := hP
  have : j = 0 ∨ j = 1 ∨ j = 2 ∨ j = 3 ∨ j = 4 ∨ j = 5 ∨ j = 6 ∨ j = 7 := by omega
  rcases this with rfl | rfl | rfl | rfl | rfl | rfl | rfl | rfl
  · exact ⟨v0, p0, rfl⟩
  · exact ⟨v1, p1, rfl⟩
  · exact ⟨v2, p2, rfl⟩
  · exact ⟨v3, p3, rfl⟩
  · exact ⟨v4, p4, rfl⟩
  · exact ⟨v5, p5, rfl⟩
  · exact ⟨v6, p6, rfl⟩
  · exact ⟨v7, p7, rfl⟩
theorem l1PickInt_any {w : World} {g B n cap : Nat} {A : Option Addr} {bs : List Int} (h : Cur w g B A n cap bs) {b : Nat} {v0 v1 v2 v3 v4 v5 v6 v7 : Int}
    (hb : Blk w b 3 #[.int .i64 v0, .int .i64 v1, .int .i64 v2, .int .i64 v3, .int .i64 v4, .int .i64 v5, .int .i64 v6, .int .i64 v7]) (hne : b ≠ g) {P : Int → Prop} (hP : P v0 ∧ P v1 ∧ P v2 ∧ P v3 ∧ P v4 ∧ P v5 ∧ P v6 ∧ P v7) :
    Calls Tryd.prog 81 #[.pointer (some ⟨g, 0, none⟩), .slice (some ⟨b, 0, none⟩) 8 8] w (Drawn P w g B A n cap bs) := by
  have H := hid (l1Below_any h 8 (by omega) (by omega))
  have HB := hid hb
  have HN := hid hne
  have HP := hid hP
  clear h hb hne hP
  go_enter Tryd.func81, Tryd.ntmps81
  go_wp2_with (go_at_call 60; (with_reducible refine H.out.mono ?_); rintro e w1 ⟨x, ⟨x0, x1⟩, rfl, hc, hg⟩; obtain ⟨j, rfl⟩ := Int.eq_ofNat_of_zero_le x0; obtain ⟨y, hy, hyc⟩ := pick8 HP.out j (by omega); have HC := hid hc; have HG := hid hg; have HY := hid hy; have hcell := (HB.out.grown hg (fun e => HN.out (Option.some.inj e))).cell j; rw [hyc] at hcell; clear hc hg hy hyc)
  go_ret
  exact ⟨y, HY.out, rfl, HC.out, HG.out⟩
/-- Events that are right, few and early. -/
structure EvDr (l : List EV.Ev) (y : Nat) (t : Int) : Prop where
  fw : EV.fw l l.length = some y
  time : ∀ e ∈ l, 0 ≤ e.time ∧ e.time ≤ t
def DrawnE (w : World) (g B : Nat) (A : Option Addr) (n cap : Nat) (bs : List Int) (e : Ending) (w' : World) : Prop :=
  ∃ (l : List EV.Ev) (y : Nat) (A' : Option Addr) (cap' : Nat), EvDr l y 120 ∧ y < 64 ∧ l.length ≤ 12 ∧ e = .returned (.slice A' l.length cap') ∧ OwnE w' w.heap.size A' l.length cap' l ∧ Cur w' g B A n cap bs ∧ w.grownBy w' (some g)
set_option maxRecDepth 100000 in
set_option maxHeartbeats 4000000 in
theorem l4Draw_any {w : World} {g B n cap : Nat} {A : Option Addr} {bs : List Int} (h : Cur w g B A n cap bs) (wi : Int) (h1 : 1 ≤ wi) (h9 : wi ≤ 9) :
    Calls Tryd.prog 59 #[.pointer (some ⟨g, 0, none⟩), .int .i64 6, .int .i64 12, .int .i64 wi] w (DrawnE w g B A n cap bs) := by
  obtain ⟨i0, hi, hz0, hz1, hz2⟩ := info_parts ev_info
  have HI0 := hid (And.intro hi (And.intro hz0 (And.intro hz1 hz2))); clear hi hz0 hz1 hz2
  have hgl := h.lt
  have HC := hid h
  have HB0 := hid (fun (W : World) (h : Cur W g B A n cap bs) => l1Below_any h 13 (by omega) (by omega))
  have HBk := hid (fun (W : World) (h : Cur W g B A n cap bs) => l1Below_any h 6 (by omega) (by omega))
  obtain ⟨a3, ha3⟩ : ∃ a3, wi.tdiv 3 = a3 := ⟨_, rfl⟩
  obtain ⟨a2, ha2⟩ : ∃ a2, wi.tdiv 2 = a2 := ⟨_, rfl⟩
  have hb3 : wi / 3 = a3 := by rw [← ha3, Int.tdiv_eq_ediv_of_nonneg (by omega)]
  have hb2 : wi / 2 = a2 := by rw [← ha2, Int.tdiv_eq_ediv_of_nonneg (by omega)]
  have r3 : 0 ≤ a3 ∧ a3 ≤ 9 := by omega
  have r2 : 0 ≤ a2 ∧ a2 ≤ 9 := by omega
  clear h
  go_enter Tryd.func59, Tryd.ntmps59
  go_wp2_with fail
  refine (HB0.out _ (HC.out.alloc _)).mono ?_
  rintro e w1 ⟨x, ⟨x0, x1⟩, rfl, hc1, hg1⟩
  obtain ⟨r0, rfl⟩ := Int.eq_ofNat_of_zero_le x0
  have hlit := own_litG w 47 3
  have hs1 : Se w w1 g B A n cap bs (.slice (some ⟨w.heap.size, 0, none⟩) 0 0) [] := ⟨hc1, only_trans (World.grownBy_alloc w _ _) hg1, hlit.kept hg1 (.inr (by simp [Value.ownBlock]; omega))⟩
  have HS1 := hid hs1
  clear hs1 hlit hc1 hg1
  go_wp2
  go_loopw [9, 10, 11, 12, 13] (fun v0 tv hv r _ wr => ∃ (l : List EV.Ev) (t : Int) (y q : Nat) (v : Value), v = v0 ∧ tv = .int .i64 t ∧ hv = .int .i64 y ∧ y < 64 ∧ r = .int .i64 q ∧ l.length + q ≤ 12 ∧ 0 ≤ t ∧ t ≤ 10 * l.length ∧ EvDr l y t ∧ Se w wr g B A n cap bs v l) (fun _ _ _ r _ _ => (intOf r).toNat)
  case atStart => exact ⟨[], 0, 0, r0, _, rfl, rfl, rfl, by omega, rfl, by simp; omega, by omega, by simp, ⟨rfl, fun e he => by cases he⟩, HS1.out⟩
  case round =>
    obtain ⟨l, t, y, q, v, rfl, rfl, rfl, hy, rfl, hlen, ht0, ht1, hdr, hsm⟩ := hrel
    have HSM := hid hsm
    have HDR := hid hdr
    clear hsm hdr
    by_cases hq : 0 < q
    · have hal := HSM.out.alloc (.cells #[.int .i64 0, .int .i64 0, .int .i64 1, .int .i64 a3, .int .i64 (wi - 1), .int .i64 wi, .int .i64 (wi + 1), .int .i64 a2] 3)
      have HPK := hid (l1PickInt_any (P := fun x => 0 ≤ x ∧ x ≤ 10) hal.cur (Blk.new wr 3 #[.int .i64 0, .int .i64 0, .int .i64 1, .int .i64 a3, .int .i64 (wi - 1), .int .i64 wi, .int .i64 (wi + 1), .int .i64 a2]) (by have := HSM.out.gr.size; omega) (by and_intros <;> omega))
      have HAL := hid hal
      clear hal
      have hl12 : (l.length : Int) ≤ 12 := by omega
      go_wp2_with (first | (go_at_call 81; (with_reducible refine HPK.out.mono ?_); rintro e w2 ⟨x, ⟨p0, p1⟩, rfl, hc2, hg2⟩; have HN2 := hid (HAL.out.next hgl hc2 hg2); clear hc2 hg2) | (go_at_call 60; ((with_reducible refine (HBk.out _ HN2.out.cur).mono ?_); rintro e w3 ⟨j, ⟨j0, j1⟩, rfl, hc3, hg3⟩; obtain ⟨j, rfl⟩ := Int.eq_ofNat_of_zero_le j0; have HN3 := hid (HN2.out.next hgl hc3 hg3); clear hc3 hg3; have hj6 : j < 6 := (by omega); have hsz := HN3.out.gr.size; have X1 := xor_shl y j (by omega) (by omega); obtain ⟨y2, hy2⟩ : ∃ y2, y ^^^ 2 ^ j = y2 := ⟨_, rfl⟩; rw [hy2] at X1; have hy64 : y2 < 64 := (by rw [← hy2]; exact Nat.xor_lt_two_pow (n := 6) hy (Nat.pow_lt_pow_right (by omega) hj6)); have X2 := and_one_shr (y2 : Int) j (by omega); rw [tbI_nat] at X2; have X3 : y2.testBit j = !y.testBit j := (by rw [← hy2, Nat.testBit_xor, Nat.testBit_two_pow_self]; cases y.testBit j <;> rfl); obtain ⟨db, hdb⟩ : ∃ db, y2.testBit j = db := ⟨_, rfl⟩; rw [hdb] at X2 X3; have X4 : ((if db then (1 : Int) else 0) == 1) = db := (by cases db <;> rfl); have HYY := hid hy2; have HX3 := hid X3; have h1 := ev_one ⟨t + x, j, db⟩; simp only at h1; clear hy2 hdb X3)) | (at_builtin; refine wpList_append_any _ rfl _ _ 29 rfl w.heap.size 47 i0 (.agg #[.int .i64 0, .int .i64 0, .bool false]) 3 24 Tryd.underlying29 HI0.out.1 HI0.out.2.1 HI0.out.2.2.1 HI0.out.2.2.2 rfl (by decide) _ _ _ rfl (HN3.out.own.alloc _) (w3.heap.size + 1) _ 1 1 [Value.int .i64 (t + x), Value.int .i64 (j : Int), Value.bool db] rfl (reads_new w3 #[Value.int .i64 (t + x), Value.int .i64 (j : Int), Value.bool db] 47 rfl) h1 (by unfold maxLen; omega) (by omega) (by simp; omega) ?_; intro v' w4 hown1 hg1 hat1; have HN4 := hid (Se.app (x := ⟨t + x, j, db⟩) HN3.out hgl hown1 hg1); clear hown1 hg1 hat1))
      go_roundw
      case rel =>
        have hfw := EV.fw_snoc (e := ⟨t + x, j, db⟩) HDR.out.fw ⟨by show 0 ≤ t + x; omega, by show t + x ≤ 1000000; omega, by show 0 ≤ (j : Int); omega, by show (j : Int) ≤ 31; omega⟩ (fun z hz => by have := HDR.out.time z hz; show z.time ≤ t + x; omega) (by show db ≠ y.testBit (j : Int).toNat; rw [Int.toNat_natCast, HX3.out]; cases y.testBit j <;> simp)
        rw [show ((⟨t + x, j, db⟩ : EV.Ev).key).toNat = j from Int.toNat_natCast j, HYY.out] at hfw
        refine ⟨l ++ [⟨t + x, j, db⟩], t + x, y2, q - 1, _, rfl, rfl, rfl, hy64, by congr 1; omega, by simp; omega, by omega, by simp; omega, ⟨hfw, fun z hz => ?_⟩, HN4.out⟩
        rw [List.mem_append, List.mem_singleton] at hz
        rcases hz with hz | rfl
        · have := HDR.out.time z hz; omega
        · show 0 ≤ t + x ∧ t + x ≤ t + x; omega
      case measure => simp [intOf]; omega
    · obtain rfl : q = 0 := by omega
      obtain ⟨A', c', rfl⟩ := ownsRow_form3 HSM.out.own
      go_wp2
      go_ret
      exact ⟨l, y, A', c', ⟨HDR.out.fw, fun e he => by have := HDR.out.time e he; omega⟩, hy, by omega, rfl, ⟨rfl, HSM.out.own⟩, HSM.out.cur, HSM.out.gr⟩
/-- Events for a law. -/
def MadeEv (w : World) (e : Ending) (w' : World) : Prop :=
  ∃ (l : List EV.Ev) (y : Nat) (A' : Option Addr) (cap' : Nat), EvDr l y 120 ∧ y < 64 ∧ l.length ≤ 12 ∧ e = .returned (.slice A' l.length cap') ∧ RdE w' A' l.length l ∧ Below w.heap.size w w'
theorem MakeEvents_any {w : World} {A : Option Addr} {n cap : Nat} {bs : List Int} (h : Code w w.heap.size A n bs) :
    Calls Tryd.prog 29 #[.slice A n cap, .int .i64 4, .int .i64 6, .int .i64 12] w (MadeEv w) := by
  have H := hid (l24New_any (cap := cap) h (Nat.le_refl _) 4)
  clear h
  go_enter Tryd.func29, Tryd.ntmps29
  go_wp2_with (first | (go_at_call 58; (with_reducible refine H.out.mono ?_); rintro e w1 ⟨g, rfl, hc1, hg1, hb1⟩; have HC1 := hid hc1; have HB1 := hid hb1; clear hc1 hb1) | (go_at_call 60; (with_reducible refine (l1Below_any HC1.out 9 (by omega) (by omega)).mono ?_); rintro e w2 ⟨x, ⟨x0, x1⟩, rfl, hc2, hg2⟩; have HC2 := hid hc2; have HB2 := hid (Below.trans HB1.out (below_only hg2 hg1 HB1.out.size)); clear hc2 hg2) | (go_at_call 59; (with_reducible refine (l4Draw_any HC2.out (1 + x) (by omega) (by omega)).mono ?_); rintro e w3 ⟨l, y, A', c', hd, hy, hl, rfl, ho, hc, hg⟩; have HD := hid (And.intro hd (And.intro hy hl)); have HO := hid ho.rd; have HB3 := hid (Below.trans HB2.out (below_only hg hg1 HB2.out.size)); clear hd ho hc hg hy hl))
  go_ret
  exact ⟨l, y, A', c', HD.out.1, HD.out.2.1, HD.out.2.2, rfl, HO.out, HB3.out⟩
theorem MakeNumber_any {w : World} {A : Option Addr} {n cap : Nat} {bs : List Int} (h : Code w w.heap.size A n bs) :
    Calls Tryd.prog 31 #[.slice A n cap, .int .i64 5, .int .i64 9] w fun e w' => ∃ x : Int, (0 ≤ x ∧ x < 9) ∧ e = .returned (.int .i64 x) ∧ Below w.heap.size w w' := by
  have H := hid (l24New_any (cap := cap) h (Nat.le_refl _) 5)
  clear h
  go_enter Tryd.func31, Tryd.ntmps31
  go_wp2_with (first | (go_at_call 58; (with_reducible refine H.out.mono ?_); rintro e w1 ⟨g, rfl, hc1, hg1, hb1⟩; have HC1 := hid hc1; have HB1 := hid hb1; clear hc1 hb1) | (go_at_call 60; (with_reducible refine (l1Below_any HC1.out 9 (by omega) (by omega)).mono ?_); rintro e w2 ⟨x, hx, rfl, hc2, hg2⟩; have HB2 := hid (Below.trans HB1.out (below_only hg2 hg1 HB1.out.size)); clear hc2 hg2))
  go_ret
  exact ⟨x, hx, rfl, HB2.out⟩
end Go.Proofs.YtpfocjdhjkifmaaDoor
