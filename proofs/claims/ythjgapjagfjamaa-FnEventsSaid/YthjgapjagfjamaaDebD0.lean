/- The drawn samples and the drawn debouncer, by contract in the reference. Conditions: none. -/
import Derived.Test.YthjgapjagfjamaaCur
import Derived.Test.YthjgapjagfjamaaDebN0
import Derived.Deep.DeepCutAuto
import Derived.Deep.RegionWith
namespace Go.Proofs.Ythjgapjagfjamaa
open Go.RowKit
set_option linter.unusedVariables false

theorem own_lit0 (W : World) : (W.alloc (.cells #[] 3)).ownsRow W.heap.size 3 1 (.slice (some ⟨W.heap.size, 0, none⟩) 0 0) 0 [] :=
  World.ownsRow_lit (base := W.heap.size) (e := 3) (size := 1) W #[] 0 (Nat.le_refl _) (by unfold maxLen; omega) (by simp)
/-- What the drawing of samples holds at a world W. -/
structure Sm (w W : World) (g B : Nat) (A : Option Addr) (n cap : Nat) (bs : List Int) (v : Value) (ms : List Nat) : Prop where
  cur : Cur W g B A n cap bs
  gr : w.grownBy W (some g)
  own : W.ownsRow w.heap.size 3 1 v ms.length (ints (nats ms))
theorem Sm.next {w W W' : World} {g B : Nat} {A : Option Addr} {n cap : Nat} {bs : List Int} {v : Value} {ms : List Nat} (h : Sm w W g B A n cap bs v ms) (hg : g < w.heap.size) (hc : Cur W' g B A n cap bs) (hgr : W.grownBy W' (some g)) : Sm w W' g B A n cap bs v ms :=
  ⟨hc, only_trans h.gr hgr, h.own.kept hgr (.inr (fun e => own_ne h.own hg e.symm))⟩
theorem Sm.app {w W W' : World} {g B : Nat} {A : Option Addr} {n cap : Nat} {bs : List Int} {v v' : Value} {ms : List Nat} {y : Nat} {cs : Array Value} {e : TypeId} (h : Sm w W g B A n cap bs v ms) (hg : g < w.heap.size)
    (ho : W'.ownsRow w.heap.size 3 1 v' (ms.length + 1) (ints (nats ms) ++ [.int .i64 y])) (hgr : (W.alloc (.cells cs e)).grownBy W' v.ownBlock) : Sm w W' g B A n cap bs v' (ms ++ [y]) := by
  have hb : Below w.heap.size W W' := (((Below.refl w.heap.size W).alloc h.gr.size _)).grown hgr (by have := h.gr.size; simp; omega) (fun k hk => (h.own.lt k hk).1)
  refine ⟨h.cur.below hb hg, ⟨hb.os.trans h.gr.os, hb.tape.trans h.gr.tape, hb.output.trans h.gr.output, Nat.le_trans h.gr.size hb.size, fun i hi hne => (hb.block i hi).trans (h.gr.block i hi hne)⟩, ?_⟩
  rw [List.length_append, nats_append]; unfold ints; rw [List.map_append]; exact ho
theorem xor_pow (x j : Nat) (hj : j < 4) (hx : x < 16) : bits .xor .i64 (x : Int) (2 ^ j) = ((x ^^^ 2 ^ j : Nat) : Int) := by
  have e : (2 : Int) ^ j = ((2 ^ j : Nat) : Int) := by simp
  have h := pow_small (Nat.le_refl j) (show j ≤ 61 by omega)
  rw [e]
  exact i64_xor_nat _ _ (by omega) (by omega)
def DrawnL (keys : Nat) (w : World) (g B : Nat) (A : Option Addr) (n cap : Nat) (bs : List Int) (e : Ending) (w' : World) : Prop :=
  ∃ (ms : List Nat) (A' : Option Addr) (cap' : Nat), (∀ x ∈ ms, x < 2 ^ keys) ∧ ms.length ≤ 40 ∧ e = .returned (.slice A' ms.length cap') ∧ Own w' w.heap.size A' ms.length cap' (nats ms) ∧ Cur w' g B A n cap bs ∧ w.grownBy w' (some g)
set_option maxRecDepth 100000 in
set_option maxHeartbeats 2000000 in
theorem l3Samples_any {w : World} {g B n cap : Nat} {A : Option Addr} {bs : List Int} (h : Cur w g B A n cap bs) (keys : Nat) (h1 : 1 ≤ keys) (h4 : keys ≤ 4) :
    Calls Try.prog 44 #[.pointer (some ⟨g, 0, none⟩), .int .i64 keys, .int .i64 40] w (DrawnL keys w g B A n cap bs) := by
  obtain ⟨i0, hi, hz0, hz1, hz2⟩ := info_parts int_info
  have HI0 := hid (And.intro hi (And.intro hz0 (And.intro hz1 hz2))); clear hi hz0 hz1 hz2
  have hgl := h.lt
  have HC := hid h
  have HB0 := hid (fun (W : World) (h : Cur W g B A n cap bs) => l1Below_any h 41 (by omega) (by omega))
  have HBk := hid (fun (W : World) (h : Cur W g B A n cap bs) => l1Below_any h keys (by omega) (by omega))
  have HO3 := hid (fun (W : World) (h : Cur W g B A n cap bs) => l1Once_any h 3 (by omega) (by omega))
  have HO9 := hid (fun (W : World) (h : Cur W g B A n cap bs) => l1Once_any h 9 (by omega) (by omega))
  clear h
  go_enter Try.func44, Try.ntmps44
  go_wp2_with fail
  refine (HB0.out _ (HC.out.alloc _)).mono ?_
  rintro e w1 ⟨x, ⟨x0, x1⟩, rfl, hc1, hg1⟩
  obtain ⟨r0, rfl⟩ := Int.eq_ofNat_of_zero_le x0
  have hlit := own_lit0 w
  have hs1 : Sm w w1 g B A n cap bs (.slice (some ⟨w.heap.size, 0, none⟩) 0 0) [] := ⟨hc1, only_trans (World.grownBy_alloc w _ _) hg1, hlit.kept hg1 (.inr (by simp [Value.ownBlock]; omega))⟩
  have HS1 := hid hs1
  clear hs1 hlit hc1 hg1
  go_wp2
  go_loopw [7, 8, 9] (fun v0 x r wr => ∃ (ms : List Nat) (y q : Nat) (v : Value), v = v0 ∧ x = .int .i64 y ∧ y < 2 ^ keys ∧ r = .int .i64 q ∧ ms.length + q ≤ 40 ∧ (∀ z ∈ ms, z < 2 ^ keys) ∧ Sm w wr g B A n cap bs v ms) (fun _ _ r _ => (intOf r).toNat)
  case atStart => exact ⟨[], 0, r0, _, rfl, rfl, Nat.two_pow_pos _, rfl, by simp; omega, (fun z hz => by cases hz), HS1.out⟩
  case round =>
    obtain ⟨ms, y, q, v, rfl, rfl, hy, rfl, hlen, hall, hsm⟩ := hrel
    have HSM := hid hsm
    have HALL := hid hall
    have HY := hid hy
    clear hsm hall hy
    by_cases hq : 0 < q
    · go_upto_if 20 with (go_at_call 51; (with_reducible refine (HO3.out _ HSM.out.cur).mono ?_); rintro e w2 ⟨b, rfl, hc2, hg2⟩; have HN := hid (HSM.out.next hgl hc2 hg2); clear hc2 hg2)
      go_cut [8] (fun s8 wx => ∃ y' : Nat, s8 = .int .i64 y' ∧ y' < 2 ^ keys ∧ Sm w wx g B A n cap bs v ms)
      case first =>
        cases b with
        | false =>
          go_wp2
          go_meet
          exact ⟨_, rfl, HY.out, HN.out⟩
        | true =>
          go_wp2_with (go_at_call 43; ((with_reducible refine (HBk.out _ HN.out.cur).mono ?_); rintro e w3 ⟨j, ⟨j0, j1⟩, rfl, hc3, hg3⟩; obtain ⟨j, rfl⟩ := Int.eq_ofNat_of_zero_le j0; have HN3 := hid (HN.out.next hgl hc3 hg3); clear hc3 hg3; have hj4 : j < 4 := (by omega); have X1 := hid (xor_shl y j (by have := HY.out; have h16 := pow_small (Nat.le_refl keys) (show keys ≤ 61 by omega); omega) (by omega))))
          go_meet
          exact ⟨y ^^^ 2 ^ j, by rw [X1.out], Nat.xor_lt_two_pow HY.out (Nat.pow_lt_pow_right (by omega) (by omega)), HN3.out⟩
      case rest =>
        obtain ⟨y2, rfl, hy2, hsm2⟩ := hcut
        have HSM2 := hid hsm2
        have HY2 := hid hy2
        clear hsm2 hy2
        go_upto_if 28 with (go_at_call 51; (with_reducible refine (HO9.out _ HSM2.out.cur).mono ?_); rintro e w2 ⟨b, rfl, hc2, hg2⟩; have HN := hid (HSM2.out.next hgl hc2 hg2); clear hc2 hg2)
        go_cut [8] (fun s8 wx => ∃ y' : Nat, s8 = .int .i64 y' ∧ y' < 2 ^ keys ∧ Sm w wx g B A n cap bs v ms)
        case first =>
          cases b with
          | false =>
            go_wp2
            go_meet
            exact ⟨_, rfl, HY2.out, HN.out⟩
          | true =>
            go_wp2_with (go_at_call 43; ((with_reducible refine (HBk.out _ HN.out.cur).mono ?_); rintro e w3 ⟨j, ⟨j0, j1⟩, rfl, hc3, hg3⟩; obtain ⟨j, rfl⟩ := Int.eq_ofNat_of_zero_le j0; have HN3 := hid (HN.out.next hgl hc3 hg3); clear hc3 hg3; have hj4 : j < 4 := (by omega); have X1 := hid (xor_shl y2 j (by have := HY2.out; have h16 := pow_small (Nat.le_refl keys) (show keys ≤ 61 by omega); omega) (by omega))))
            go_meet
            exact ⟨y2 ^^^ 2 ^ j, by rw [X1.out], Nat.xor_lt_two_pow HY2.out (Nat.pow_lt_pow_right (by omega) (by omega)), HN3.out⟩
        case rest =>
          obtain ⟨y3, rfl, hy3, hsm3⟩ := hcut
          have HSM3 := hid hsm3
          have HY3 := hid hy3
          clear hsm3 hy3
          have h1 : ∀ u ∈ [Value.int .i64 (y3 : Int)], u.oneCell' = true := by intro u hu; simp at hu; subst hu; rfl
          have hsz := HSM3.out.gr.size
          go_wp2_with (at_builtin; refine wpList_append_any _ rfl _ _ 37 rfl w.heap.size 3 i0 (.int .i64 0) 1 8 Try.underlying37 HI0.out.1 HI0.out.2.1 HI0.out.2.2.1 HI0.out.2.2.2 rfl (by decide) _ _ _ rfl (HSM3.out.own.alloc _) (wc.heap.size + 1) _ 1 1 [.int .i64 y3] rfl (reads_new wc #[.int .i64 y3] 3 rfl) h1 (by unfold maxLen; omega) (by omega) (by simp; omega) ?_; intro v' w4 hown1 hg1 hat1; have HN4 := hid (HSM3.out.app hgl hown1 hg1); clear hown1 hg1 hat1)
          go_roundw
          case rel => exact ⟨ms ++ [y3], y3, q - 1, _, rfl, rfl, HY3.out, by congr 1; omega, by simp; omega, fun z hz => by
            rw [List.mem_append, List.mem_singleton] at hz
            rcases hz with hz | rfl
            · exact HALL.out z hz
            · exact HY3.out, HN4.out⟩
          case measure => simp [intOf]; omega
    · obtain rfl : q = 0 := by omega
      obtain ⟨A', c', rfl⟩ := ownsRow_form HSM.out.own
      go_wp2
      go_ret
      exact ⟨ms, A', c', HALL.out, by omega, rfl, ⟨by rw [nats_length], HSM.out.own⟩, HSM.out.cur, HSM.out.gr⟩
theorem keepG {W0 W W' : World} {g b o : Nat} {v : Value} (hc : W0.cell? ⟨b, o, none⟩ = some v) (hg : W.grownBy W' (some g)) (hne : b ≠ g) (hh : W.heap = W0.heap := by rfl) : W'.cell? ⟨b, o, none⟩ = some v := by
  have hb : b < W.heap.size := by rw [hh]; exact World.block_lt_of_cell? W0 _ hc
  have h1 := hg.block b hb (by intro e; injection e with e; exact hne e)
  rw [hh] at h1
  exact (World.cell?_of_block (a := ⟨b, o, none⟩) h1).trans hc
theorem keepF {W0 W W' : World} {g b o : Nat} {v : Value} {f : Bool} (hc : W0.cell? ⟨b, o, none⟩ = some v) (hf : W0.frozen? ⟨b, o, none⟩ = f) (hg : W.grownBy W' (some g)) (hne : b ≠ g) (hh : W.heap = W0.heap := by rfl) : W'.frozen? ⟨b, o, none⟩ = f := by
  have hb : b < W.heap.size := by rw [hh]; exact World.block_lt_of_cell? W0 _ hc
  have h1 := hg.block b hb (by intro e; injection e with e; exact hne e)
  rw [hh] at h1
  exact (World.frozen?_of_block (a := ⟨b, o, none⟩) h1).trans hf
/-- What a drawn debouncer is: as it is made, with samples for it. -/
structure MadeDebR (w w' : World) (kd t m : Nat) (ms : List Nat) (A : Option Addr) (c : Nat) (A' : Option Addr) (c' : Nat) : Prop where
  kd : kd ≤ 2
  t0 : 1 ≤ t
  t1 : t ≤ 5
  m0 : 1 ≤ m
  m1 : m ≤ 4
  all : ∀ x ∈ ms, x < 2 ^ m
  len : ms.length ≤ 40
  o1 : Own w' w.heap.size A m c (n99 m)
  o2 : Own w' w.heap.size A' ms.length c' (nats ms)
  b : Below w.heap.size w w'
def MadeDeb (w : World) (e : Ending) (w' : World) : Prop :=
  ∃ (kd t m : Nat) (ms : List Nat) (A : Option Addr) (c : Nat) (A' : Option Addr) (c' : Nat), e = .returned (.tuple #[dbV kd t m 0 0 A m c, .slice A' ms.length c']) ∧ MadeDebR w w' kd t m ms A c A' c'
theorem dbOk_new {kd t m : Nat} (h0 : kd ≤ 2) (h1 : 1 ≤ t) (h2 : t ≤ 5) (h3 : 1 ≤ m) (h4 : m ≤ 4) : DbOk kd t m 0 0 (n99 m) := by
  have hp : (0 : Int) < 2 ^ ((m : Int)).toNat := Int.pow_pos (by decide)
  exact ⟨⟨by omega, by omega, by omega, by omega, by omega, by omega, by rw [n99_length]⟩, by omega, hp, by omega, hp, fun a ha => by unfold n99 at ha; rw [List.mem_replicate] at ha; omega⟩
set_option maxRecDepth 100000 in
set_option maxHeartbeats 2000000 in
theorem MakeDebouncer_any {w : World} {A : Option Addr} {n cap : Nat} {bs : List Int} (h : Code w w.heap.size A n bs) :
    Calls Try.prog 34 #[.slice A n cap] w (MadeDeb w) := by
  have HC := hid h
  clear h
  go_enter Try.func34, Try.ntmps34
  go_wp2_with fail
  refine (l24New_any (cap := cap) (HC.out.below ((Below.refl _ _).alloc (Nat.le_refl _) _)) (by simp) 2).mono ?_
  rintro e w1 ⟨g, rfl, hc1, hg, hb1⟩
  simp only [World.size_alloc] at hg
  have HR1 := hid ((Blk.new w 52 #[.int .i64 0, .int .i64 0, .int .i64 0, .int .i64 0, .int .i64 0, .slice none 0 0]).bel hb1)
  have hB1 := Below.trans ((Below.refl w.heap.size w).alloc (Nat.le_refl _) _) (hb1.mono (by simp))
  clear hb1
  go_wp2_with fail
  refine (l1Below_any hc1 3 (by omega) (by omega)).mono ?_
  rintro e w2 ⟨kd, ⟨k0, k1⟩, rfl, hc2, hg2⟩
  obtain ⟨kd, rfl⟩ := Int.eq_ofNat_of_zero_le k0
  have hne : some w.heap.size ≠ some g := by simp; omega
  have HR2 := hid (HR1.out.grown hg2 hne)
  have hB2 := hB1.trans (below_only hg2 (show w.heap.size ≤ g by omega) hB1.size)
  clear hc1 hg2 HR1
  go_wp2_with fail
  refine (l1Below_any hc2 5 (by omega) (by omega)).mono ?_
  rintro e w3 ⟨t, ⟨t0, t1⟩, rfl, hc3, hg3⟩
  obtain ⟨t, rfl⟩ := Int.eq_ofNat_of_zero_le t0
  have HR3 := hid (HR2.out.grown hg3 hne)
  have hB3 := hB2.trans (below_only hg3 (show w.heap.size ≤ g by omega) hB2.size)
  clear hc2 hg3 HR2
  go_wp2_with fail
  refine (l1Below_any hc3 4 (by omega) (by omega)).mono ?_
  rintro e w4 ⟨m, ⟨m0, m1⟩, rfl, hc4, hg4⟩
  obtain ⟨m, rfl⟩ := Int.eq_ofNat_of_zero_le m0
  have HR4 := hid (HR3.out.grown hg4 hne)
  have hB4 := hB3.trans (below_only hg4 (show w.heap.size ≤ g by omega) hB3.size)
  clear hc3 hg4 HR3
  have hok := dbOk_new (kd := kd) (t := 1 + t) (m := 1 + m) (by omega) (by omega) (by omega) (by omega) (by omega)
  have hnr : NewR kd (1 + t : Nat) (1 + m : Nat) (1 + m) true kd (1 + t : Nat) (1 + m : Nat) (n99 (1 + m)) := ⟨⟨fun _ => hok, fun _ => rfl⟩, fun _ => ⟨rfl, rfl, rfl, rfl⟩, fun e => (by cases e)⟩
  have hnw := fun W => sNewDebouncer_in kd (1 + t : Nat) (1 + m) (by omega) hnr W
  have em : ((1 + m : Nat) : Int) = 1 + (m : Int) := by omega
  have et : ((1 + t : Nat) : Int) = 1 + (t : Int) := by omega
  rw [em, et] at hnw
  have HNW := hid hnw
  clear hnw hnr hok em et
  go_wp2_with fail
  refine (HNW.out _).mono ?_
  rintro e w5 ⟨A5, c5, rfl, ho5, hb5⟩
  have HR5 := hid (HR4.out.bel hb5)
  have hB5 := Below.step hB4 hb5
  have hc5 := hc4.below hb5 hc4.lt
  have HO5 := hid ho5
  have hg5 : g < w5.heap.size := hc5.lt
  have hg4' : g < w4.heap.size := hc4.lt
  clear hc4 hb5 ho5 HR4
  have z0 := fun o => by have := (HR5.out.alloc o).six.1; exact this
  have hbx := (Blk.new w5 52 #[.int .i64 kd, .int .i64 (1 + (t : Int)), .int .i64 (1 + (m : Int)), .int .i64 0, .int .i64 0, .slice A5 (n99 (1 + m)).length c5])
  have HBX := hid hbx
  clear z0 hbx
  obtain ⟨r0, r1, r2, r3, r4, r5⟩ := (HR5.out.alloc (.cells #[.int .i64 kd, .int .i64 (1 + (t : Int)), .int .i64 (1 + (m : Int)), .int .i64 0, .int .i64 0, .slice A5 (n99 (1 + m)).length c5] 52)).six
  have f0 := (HR5.out.alloc (.cells #[.int .i64 kd, .int .i64 (1 + (t : Int)), .int .i64 (1 + (m : Int)), .int .i64 0, .int .i64 0, .slice A5 (n99 (1 + m)).length c5] 52)).frozen 0
  have f1 := (HR5.out.alloc (.cells #[.int .i64 kd, .int .i64 (1 + (t : Int)), .int .i64 (1 + (m : Int)), .int .i64 0, .int .i64 0, .slice A5 (n99 (1 + m)).length c5] 52)).frozen 1
  have f2 := (HR5.out.alloc (.cells #[.int .i64 kd, .int .i64 (1 + (t : Int)), .int .i64 (1 + (m : Int)), .int .i64 0, .int .i64 0, .slice A5 (n99 (1 + m)).length c5] 52)).frozen 2
  have f3 := (HR5.out.alloc (.cells #[.int .i64 kd, .int .i64 (1 + (t : Int)), .int .i64 (1 + (m : Int)), .int .i64 0, .int .i64 0, .slice A5 (n99 (1 + m)).length c5] 52)).frozen 3
  have f4 := (HR5.out.alloc (.cells #[.int .i64 kd, .int .i64 (1 + (t : Int)), .int .i64 (1 + (m : Int)), .int .i64 0, .int .i64 0, .slice A5 (n99 (1 + m)).length c5] 52)).frozen 4
  have f5 := (HR5.out.alloc (.cells #[.int .i64 kd, .int .i64 (1 + (t : Int)), .int .i64 (1 + (m : Int)), .int .i64 0, .int .i64 0, .slice A5 (n99 (1 + m)).length c5] 52)).frozen 5
  have hn1 : w.heap.size ≠ g := by omega
  have hn2 : g ≠ w.heap.size := by omega
  have hn5 : g ≠ w5.heap.size := by omega
  have hn6 : w5.heap.size ≠ g := by omega
  have em : ((1 + m : Nat) : Int) = 1 + (m : Int) := by omega
  have HL : Hid (∀ W : World, Cur W g w.heap.size A n cap bs → Calls Try.prog 44 #[.pointer (some ⟨g, 0, none⟩), .int .i64 (1 + (m : Int)), .int .i64 40] W (DrawnL (1 + m) W g w.heap.size A n cap bs)) := fun W hc => by
    have q := l3Samples_any hc (1 + m) (by omega) (by omega)
    rw [em] at q
    exact q
  clear em
  obtain ⟨x0, x1, x2, x3, x4, x5⟩ := HBX.out.six
  have hcx := hc5.alloc (.cells #[.int .i64 kd, .int .i64 (1 + (t : Int)), .int .i64 (1 + (m : Int)), .int .i64 0, .int .i64 0, .slice A5 (n99 (1 + m)).length c5] 52)
  have HRW := hid (HR5.out.alloc (.cells #[.int .i64 kd, .int .i64 (1 + (t : Int)), .int .i64 (1 + (m : Int)), .int .i64 0, .int .i64 0, .slice A5 (n99 (1 + m)).length c5] 52))
  have HOW := hid (HO5.out.alloc (.cells #[.int .i64 kd, .int .i64 (1 + (t : Int)), .int .i64 (1 + (m : Int)), .int .i64 0, .int .i64 0, .slice A5 (n99 (1 + m)).length c5] 52))
  have hz5 := hB5.size
  have HBW := hid (hB5.alloc hz5 (.cells #[.int .i64 kd, .int .i64 (1 + (t : Int)), .int .i64 (1 + (m : Int)), .int .i64 0, .int .i64 0, .slice A5 (n99 (1 + m)).length c5] 52))
  have hszw : w5.heap.size + 1 ≤ (w5.alloc (.cells #[.int .i64 kd, .int .i64 (1 + (t : Int)), .int .i64 (1 + (m : Int)), .int .i64 0, .int .i64 0, .slice A5 (n99 (1 + m)).length c5] 52)).heap.size := by simp
  clear hc5 HR5 HO5 HBX hB5 hB4 hB3 hB2 hB1
  go_upto_region 3 with (fail)
  generalize w5.alloc (.cells #[.int .i64 kd, .int .i64 (1 + (t : Int)), .int .i64 (1 + (m : Int)), .int .i64 0, .int .i64 0, .slice A5 (n99 (1 + m)).length c5] 52) = W0 at *
  go_cut [3] (fun s3 wx => ∃ (ms : List Nat) (A' : Option Addr) (c' : Nat), s3 = .slice A' ms.length c' ∧ (∀ x ∈ ms, x < 2 ^ (1 + m)) ∧ ms.length ≤ 40 ∧ Blk wx w.heap.size 52 #[.int .i64 kd, .int .i64 (1 + (t : Int)), .int .i64 (1 + (m : Int)), .int .i64 0, .int .i64 0, .slice A5 (n99 (1 + m)).length c5] ∧
      Own wx w.heap.size A5 (n99 (1 + m)).length c5 (n99 (1 + m)) ∧ Own wx w.heap.size A' ms.length c' (nats ms) ∧ Below w.heap.size w wx)
  case first =>
    go_region_with ((go_at_call 44; (with_reducible refine (HL.out _ (by first | exact hcx | exact Cur.drew hcx | exact Cur.drewN hcx _)).mono ?_); rintro e w6 ⟨ms, A6, c6, hall, hlen, rfl, ho6, hc6, hg6⟩; have HG6 := hid hg6; have HO6 := hid ho6; have HALL := hid hall; have y0 := keepG x0 hg6 hn6; have y1 := keepG x1 hg6 hn6; have y2 := keepG x2 hg6 hn6; have y3 := keepG x3 hg6 hn6; have y4 := keepG x4 hg6 hn6; have y5 := keepG x5 hg6 hn6; have u0 := keepG r0 hg6 hn1; have u1 := keepG r1 hg6 hn1; have u2 := keepG r2 hg6 hn1; have u3 := keepG r3 hg6 hn1; have u4 := keepG r4 hg6 hn1; have u5 := keepG r5 hg6 hn1; have p0 := keepF r0 f0 hg6 hn1; have p1 := keepF r1 f1 hg6 hn1; have p2 := keepF r2 f2 hg6 hn1; have p3 := keepF r3 f3 hg6 hn1; have p4 := keepF r4 f4 hg6 hn1; have p5 := keepF r5 f5 hg6 hn1; clear hg6 ho6 hc6 hall))
    all_goals
      go_wp2_with fail
      go_meet
      have hgw : W0.grownBy w6 (some g) := ⟨HG6.out.os, HG6.out.tape, HG6.out.output, HG6.out.size, HG6.out.block⟩
      have hbl := HRW.out.grown hgw hne
      have ho5 : Own w6 w4.heap.size A5 (n99 (1 + m)).length c5 (n99 (1 + m)) := ⟨HOW.out.1, HOW.out.2.kept hgw (.inr (fun e => own_ne HOW.out.2 hg4' e.symm))⟩
      have hbb : Below w.heap.size w w6 := HBW.out.trans (below_only hgw (show w.heap.size ≤ g by omega) (by omega))
      refine ⟨ms, A6, c6, rfl, HALL.out, hlen, ?_, ?_, ?_, ?_⟩
      · exact (((((hbl.set_ 0 _).set_ 1 _).set_ 2 _).set_ 3 _).set_ 4 _).set_ 5 _
      · exact ((((((ho5.far (by simp; omega) _).far (by simp; omega) _).far (by simp; omega) _).far (by simp; omega) _).far (by simp; omega) _).far (by simp; omega) _).base (by omega)
      · exact ((((((HO6.out.far (by simp; omega) _).far (by simp; omega) _).far (by simp; omega) _).far (by simp; omega) _).far (by simp; omega) _).far (by simp; omega) _).base (by simp; omega)
      · exact Below.setCell (Below.setCell (Below.setCell (Below.setCell (Below.setCell (Below.setCell hbb (Nat.le_refl _) _) (Nat.le_refl _) _) (Nat.le_refl _) _) (Nat.le_refl _) _) (Nat.le_refl _) _) (Nat.le_refl _) _
  case rest =>
    obtain ⟨ms, A6, c6, rfl, hall, hlen, hbk, ho5, ho6, hbb⟩ := hcut
    go_wp2
    refine retD2 Try.results34 rfl rfl hbk rfl ?_
    rw [n99_length] at ho5
    refine ⟨kd, 1 + t, 1 + m, ms, A5, c5, A6, c6, ?_, ⟨by omega, by omega, by omega, by omega, by omega, hall, hlen, ho5, ho6, hbb⟩⟩
    have em : ((1 + m : Nat) : Int) = 1 + (m : Int) := by omega
    have et : ((1 + t : Nat) : Int) = 1 + (t : Int) := by omega
    rw [em, et, n99_length]
    rfl
end Go.Proofs.Ythjgapjagfjamaa
