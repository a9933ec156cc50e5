/- A run of a debouncer, by contract in the program. Conditions: at most 2^20 ages and samples. -/
import Derived.Test.YtdaabndngcebgaaDebP
import Derived.Test.YtdaabndngcebgaaDebR
import Derived.Deep.DeepCutAuto
namespace Go.Proofs.Ytdaabndngcebgaa
open Go.RowKit
set_option linter.unusedVariables false

/-- What a run hands back. -/
structure RunO (w' : World) (B : Nat) (A : Option Addr) (cA : Nat) (ys : List Int) (A' : Option Addr) (cB : Nat) (os : List Int) : Prop where
  o1 : Own w' B A ys.length cA ys
  o2 : Own w' B A' os.length cB os
  ap : (Value.slice A ys.length cA).ownBlock = none ∨ (Value.slice A ys.length cA).ownBlock ≠ (Value.slice A' os.length cB).ownBlock
def RanR (w : World) (kd t ks sh la : Int) (ys os : List Int) (ok : Bool) (e : Ending) (w' : World) : Prop :=
  ∃ (A : Option Addr) (cA : Nat) (A' : Option Addr) (cB : Nat), e = .returned (.tuple #[dbV kd t ks sh la A ys.length cA, .slice A' os.length cB, .bool ok]) ∧ RunO w' w.heap.size A cA ys A' cB os ∧ Below w.heap.size w w'
/-- The samples as masks. -/
def nz (zs : List Int) (k : Nat) : List Nat := (zs.take k).map Int.toNat
def okS (ks : Nat) (z : Int) : Prop := 0 ≤ z ∧ z < 2 ^ ks
theorem nz_succ (zs : List Int) {k : Nat} (h : k < zs.length) : nz zs (k + 1) = nz zs k ++ [(zs.getD k 0).toNat] := by
  unfold nz
  rw [List.take_succ_eq_append_getElem h, List.map_append, List.getD_eq_getElem?_getD, List.getElem?_eq_getElem h]; rfl
theorem okS_nat {ks : Nat} {z : Int} (h : okS ks z) : ∃ r : Nat, z = r ∧ r < 2 ^ ks := by
  obtain ⟨h0, h1⟩ := h
  refine ⟨z.toNat, by omega, ?_⟩
  have e : (2 : Int) ^ ks = ((2 ^ ks : Nat) : Int) := by simp
  rw [e] at h1; omega
theorem nz_lt {ks : Nat} {zs : List Int} {k : Nat} (h : ∀ i, i < k → okS ks (zs.getD i 0)) (hk : k ≤ zs.length) : ∀ x ∈ nz zs k, x < 2 ^ ks := by
  intro x hx
  unfold nz at hx
  obtain ⟨z, hz, rfl⟩ := List.mem_map.1 hx
  obtain ⟨i, hi, rfl⟩ := List.mem_iff_getElem.1 hz
  rw [List.length_take] at hi
  have h1 := h i (by omega)
  rw [List.getD_eq_getElem?_getD, List.getElem?_eq_getElem (by omega)] at h1
  obtain ⟨r, e, hr⟩ := okS_nat h1
  rw [List.getElem_take]
  simp only [Option.getD_some] at e
  rw [e]; simpa using hr
theorem run_snoc (d : DB.St) (l : List Nat) (x : Nat) : DB.run d (l ++ [x]) = DB.step (DB.run d l) x := by rw [DB.run_append]; rfl
theorem shows_snoc (d : DB.St) (l : List Nat) (x : Nat) : DB.shows d (l ++ [x]) = DB.shows d l ++ [(DB.step (DB.run d l) x).shown] := by rw [DB.shows_append]; rfl
/-- What comes of a run. -/
structure RunOut (d : DB.St) (zs : List Int) (ok : Bool) (kd t ks sh la : Int) (ys os : List Int) : Prop where
  is : ok = true ↔ zs.length ≤ 200 ∧ ∀ i, i < zs.length → okS d.keys (zs.getD i 0)
  yes : ok = true → kd = d.kind ∧ t = d.time ∧ ks = d.keys ∧ sh = (DB.run d (nz zs zs.length)).shown ∧ la = (DB.run d (nz zs zs.length)).last ∧ ys = (DB.run d (nz zs zs.length)).ages ∧ os = nats (DB.shows d (nz zs zs.length))
  no : ok = false → kd = 0 ∧ t = 0 ∧ ks = 0 ∧ sh = 0 ∧ la = 0 ∧ ys = [] ∧ os = []
theorem copyInts_any {w : World} {A : Option Addr} {n cap : Nat} {xs : List Int} (h : RdI w A n xs) (hn : n ≤ 1048576) : Calls Try.prog 47 #[.slice A n cap] w (MadeI w xs) := by
  have hl := h.1
  obtain ⟨i0, hi, hz0, hz1, hz2⟩ := info_parts int_info
  have HI0 := hid (And.intro hi (And.intro hz0 (And.intro hz1 hz2))); clear hi hz0 hz1 hz2
  have HR := hid h.2; clear h
  have h1 : ∀ u ∈ ints xs, u.oneCell' = true := by intro u hu; unfold ints at hu; obtain ⟨z, _, rfl⟩ := List.mem_map.1 hu; rfl
  go_enter Try.func47, Try.ntmps47
  go_wp2_with (at_builtin; refine wpList_append_any _ rfl _ _ 22 rfl w.heap.size 3 i0 (.int .i64 0) 1 8 Try.underlying22 HI0.out.1 HI0.out.2.1 HI0.out.2.2.1 HI0.out.2.2.2 rfl (by decide) _ 0 [] rfl (World.ownsRow_nil _ _ _ _) w.heap.size _ n cap (ints xs) rfl HR.out h1 (by unfold maxLen; omega) (by omega) (by omega) ?_; intro v' w2 hown1 hg1 hat1; obtain ⟨A', c', rfl⟩ := ownsRow_form hown1; simp only [Nat.zero_add, List.nil_append] at hown1; have HO := hid hown1; have HG := hid hg1; clear hown1 hg1 hat1)
  go_ret
  subst hl
  exact ⟨A', c', by simp, ⟨rfl, HO.out⟩, (Below.refl _ _).grown HG.out (Nat.le_refl _) (fun k hk => by cases hk)⟩
theorem retD3r {fn : Func} {R : Ending → World → Prop} {a : Act} {w : World} {s u x g : Nat} {v0 v1 v2 v3 v4 v5 v v' : Value} (hr : fn.results = #[.cell s 33, .tmp u, .tmp x]) (hd : a.defers = []) (hp : a.tmps.getD s undef = .pointer (some ⟨g, 0, none⟩))
    (hv : a.tmps.getD u undef = v) (hv' : a.tmps.getD x undef = v') (hb : Blk w g 33 #[v0, v1, v2, v3, v4, v5]) (hR : R (.returned (.tuple #[.agg #[v0, v1, v2, v3, v4, v5], v, v'])) w) : bodyPost Try.prog fn R .ret a w :=
  retD3 hr hd hp hb hv hv' hR
theorem run_mk {d : DB.St} (hd : d.Ok) {l : List Nat} (h : ∀ x ∈ l, x < 2 ^ d.keys) : (DB.St.mk d.kind d.time d.keys (DB.run d l).shown (DB.run d l).last (DB.run d l).ages).Ok := by
  obtain ⟨o, e1, e2, e3⟩ := DB.run_ok hd l h
  exact ⟨hd.kind, hd.time0, hd.time1, hd.keys0, hd.keys1, by rw [← e3]; exact o.len, by rw [← e3]; exact o.shown, by rw [← e3]; exact o.last, o.ages⟩
theorem run_eta {d : DB.St} (hd : d.Ok) {l : List Nat} (h : ∀ x ∈ l, x < 2 ^ d.keys) : DB.run d l = ⟨d.kind, d.time, d.keys, (DB.run d l).shown, (DB.run d l).last, (DB.run d l).ages⟩ := by
  obtain ⟨o, e1, e2, e3⟩ := DB.run_ok hd l h
  rw [← e1, ← e2, ← e3]
theorem apart_symm {u v : Value} (h : u.ownBlock = none ∨ u.ownBlock ≠ v.ownBlock) : v.ownBlock = none ∨ v.ownBlock ≠ u.ownBlock := by
  rcases h with h | h
  · cases hv : v.ownBlock with
    | none => exact .inl rfl
    | some g => right; rw [h]; simp
  · exact .inr (fun e => h e.symm)
theorem Own.keptV {w w' : World} {base : Nat} {A : Option Addr} {n cap : Nat} {xs : List Int} {v : Value} (h : Own w base A n cap xs) (hg : w.grownBy w' v.ownBlock)
    (hne : (Value.slice A n cap).ownBlock = none ∨ (Value.slice A n cap).ownBlock ≠ v.ownBlock) : Own w' base A n cap xs := ⟨h.1, h.2.kept hg hne⟩
theorem own_new {w : World} {o : Obj} {base size n : Nat} {e : TypeId} {v : Value} {xs : List Value} (h : w.ownsRow base e size v n xs) : v.ownBlock = none ∨ v.ownBlock ≠ some (w.alloc o).heap.size := by
  cases hv : v.ownBlock with
  | none => exact .inl rfl
  | some g =>
    right
    intro hc
    have h1 := (h.lt g hv).2
    injection hc with hc
    simp at hc
    omega
/-- A step from a state whose parts are named. -/
def MadeS (w : World) (kd t ks sh la : Nat) (ages : List Int) (e : Ending) (w' : World) : Prop :=
  ∃ (A : Option Addr) (cap : Nat), e = .returned (.tuple #[dbV kd t ks sh la A ks cap, .bool true]) ∧ Own w' w.heap.size A ks cap ages ∧ Below w.heap.size w w'
theorem step_run {kd t ks sh la r : Nat} {ages : List Int} (hd : (DB.St.mk kd t ks sh la ages).Ok) (hr : r < 2 ^ ks) : ∀ (w : World) (A : Option Addr) (c : Nat), RdI w A ks ages →
    Calls Try.prog 34 #[dbV kd t ks sh la A ks c, .int .i64 r] w (MadeS w kd t ks (DB.step ⟨kd, t, ks, sh, la, ages⟩ r).shown (DB.step ⟨kd, t, ks, sh, la, ages⟩ r).last (DB.step ⟨kd, t, ks, sh, la, ages⟩ r).ages) := fun w A c h =>
  (iStep_yes kd t ks sh la r ages hd hr h).mono fun e w' ⟨A', c', he, ho, hb⟩ => by
    have hl := DB.agesTo_length kd t r sh la ages ks
    rw [hl] at he ho
    exact ⟨A', c', he, ho, hb⟩
set_option maxRecDepth 100000 in
set_option maxHeartbeats 2000000 in
theorem iRun_ok (d : DB.St) (hd : d.Ok) {w : World} {A : Option Addr} {cap : Nat} (h : RdI w A d.keys d.ages) {B : Option Addr} {n cb : Nat} {zs : List Int} (hz : RdI w B n zs) (hn : n ≤ 200)
    {ok : Bool} {kd t ks sh la : Int} {ys os : List Int} (hr : RunOut d zs ok kd t ks sh la ys os) :
    Calls Try.prog 21 #[dbV d.kind d.time d.keys d.shown d.last A d.keys cap, .slice B n cb] w (RanR w kd t ks sh la ys os ok) := by
  have hk24 : d.keys ≤ 24 := hd.keys1
  have hzl : zs.length = n := hz.1
  have HI := hid (fun (w : World) (A : Option Addr) (c : Nat) (h : RdI w A d.keys d.ages) => iIsDebouncer_any (cap := c) h (by omega) d.kind d.time d.keys d.shown d.last true ⟨fun _ => dbOk_of (kd := d.kind) (t := d.time) (ks := d.keys) (sh := d.shown) (la := d.last) (ages := d.ages) hd, fun _ => rfl⟩)
  have HC := hid (fun (w : World) (A : Option Addr) (c : Nat) (h : RdI w A d.keys d.ages) => copyInts_any (cap := c) h (by omega))
  obtain ⟨i0, hi, hz0, hz1, hz2⟩ := info_parts int_info
  have HI0 := hid (And.intro hi (And.intro hz0 (And.intro hz1 hz2))); clear hi hz0 hz1 hz2
  have HR := hid h
  have HZ := hid hz
  have HRO := hid hr
  have HD := hid hd
  have HL := hid hzl
  clear h hz hr hd hzl
  have HAL := hid HD.out.len
  go_enter Try.func21, Try.ntmps21
  go_wp2_with (first | (go_at_call 27; (with_reducible refine (HI.out _ _ _ ((HR.out.alloc _).alloc _)).mono ?_); rintro e w1 ⟨rfl, hb1⟩; have HB1 := hid hb1; obtain ⟨hc1, hf1, hz1, hd1⟩ := bcell hb1; (try simp at hz1); replace hb1 := Below.via (B := w.heap.size) (a := w) (by (first | (go_grown; done) | (refine below_drewN ?_ _; go_grown; done) | (refine Below.drew (below_drewN ?_ _); go_grown; done))) hb1 (by go_size); (try have hy1 : w.heap.size < w1.heap.size := by omega); (try have hyy1 : w.heap.size + 1 < w1.heap.size := by omega)) | (go_at_call 47; (with_reducible refine (HC.out _ _ _ (((HR.out.alloc _).alloc _).below HB1.out)).mono ?_); rintro e w2 ⟨A2, c2, rfl, ho2, hb2⟩; have HB2 := hid hb2; obtain ⟨hc2, hf2, hz2, hd2⟩ := bcell hb2; (try simp at hz2); replace hb2 := Below.via (B := w.heap.size) (a := w) (by (first | (go_grown; done) | (refine below_drewN ?_ _; go_grown; done) | (refine Below.drew (below_drewN ?_ _); go_grown; done))) hb2 (by go_size); (try have hy2 : w.heap.size < w2.heap.size := by omega); (try have hyy2 : w.heap.size + 1 < w2.heap.size := by omega); have HO2 := hid ho2; clear ho2))
  go_loopw [7, 27] (fun v0 i wr => ∃ (k : Nat) (Ak : Option Addr) (ck : Nat) (v : Value), k ≤ n ∧ i = .int .i64 k ∧ v = v0 ∧ (∀ i, i < k → okS d.keys (zs.getD i 0)) ∧
      Blk wr w.heap.size 33 #[.int .i64 d.kind, .int .i64 d.time, .int .i64 d.keys, .int .i64 (DB.run d (nz zs k)).shown, .int .i64 (DB.run d (nz zs k)).last, .slice Ak d.keys ck] ∧
      Blk wr (w.heap.size + 1) 33 #[.int .i64 0, .int .i64 0, .int .i64 0, .int .i64 0, .int .i64 0, .slice none 0 0] ∧
      Own wr (w.heap.size + 2) Ak d.keys ck (DB.run d (nz zs k)).ages ∧ wr.ownsRow (w.heap.size + 2) 3 1 v k (ints (nats (DB.shows d (nz zs k)))) ∧
      ((Value.slice Ak d.keys ck).ownBlock = none ∨ (Value.slice Ak d.keys ck).ownBlock ≠ v.ownBlock) ∧ Below w.heap.size w wr) (fun _ i _ => n - (intOf i).toNat)
  case atStart =>
    have q := (Blk.new (w.alloc (.cells #[.int .i64 d.kind, .int .i64 d.time, .int .i64 d.keys, .int .i64 d.shown, .int .i64 d.last, .slice A d.keys cap] 33)) 33 #[.int .i64 0, .int .i64 0, .int .i64 0, .int .i64 0, .int .i64 0, .slice none 0 0])
    rw [World.size_alloc] at q
    refine ⟨0, A2, c2, _, Nat.zero_le _, rfl, rfl, fun i hi => by omega, ?_, ((q.bel HB1.out).bel HB2.out).far (by simp) _, ?_, World.ownsRow_nil _ _ _ _, ?_, Below.setCell hb2 (by simp) _⟩
    · have q1 := (((((Blk.new w _ _).alloc _).bel HB1.out).bel HB2.out).set_ 5 (.slice A2 d.ages.length c2))
      rw [HAL.out] at q1 ⊢
      exact q1
    · have q1 := (HO2.out.far (p := ⟨w.heap.size, 5, none⟩) (by simp; omega) (.slice A2 d.ages.length c2)).base (base' := w.heap.size + 2) (by omega)
      rw [HAL.out] at q1 ⊢
      exact q1
    · cases hv : (Value.slice A2 d.keys c2).ownBlock with
      | none => exact .inl rfl
      | some g => right; simp [Value.ownBlock]
  case round =>
    obtain ⟨k, Ak, ck, v, hk, rfl, rfl, hoks, hBd, hBr, hage, hown, hap, hbel⟩ := hrel
    have hmk := run_mk HD.out (nz_lt hoks (by rw [HL.out]; exact hk))
    have HMK := hid hmk
    have HOK := hid hoks
    clear hmk hoks hc1 hf1 hd1 hc2 hf2 hd2
    have HBd := hid hBd
    have HBr := hid hBr
    have HAge := hid hage
    have HOwn := hid hown
    have HAP := hid hap
    obtain ⟨q0, q1, q2, q3, q4, q5⟩ := hBd.six
    have hltr := hBr.lt
    clear hBd hBr hage hown hap
    by_cases hlt : k < n
    · obtain ⟨ad, rfl, hcell⟩ := (HZ.out.below hbel).at_ hlt
      by_cases hok : okS d.keys (zs.getD k 0)
      · obtain ⟨r, hr, hr2⟩ := okS_nat hok
        have HS0 := step_run HMK.out hr2
        have hnz := nz_succ zs (k := k) (by rw [HL.out]; exact hlt)
        rw [hr] at hcell hnz
        rw [Int.toNat_natCast] at hnz
        have he := run_eta HD.out (nz_lt HOK.out (by rw [HL.out]; exact hk))
        have hst : DB.run d (nz zs (k + 1)) = DB.step ⟨d.kind, d.time, d.keys, (DB.run d (nz zs k)).shown, (DB.run d (nz zs k)).last, (DB.run d (nz zs k)).ages⟩ r := by rw [hnz, run_snoc, ← he]
        have hsh : nats (DB.shows d (nz zs (k + 1))) = nats (DB.shows d (nz zs k)) ++ [((DB.run d (nz zs (k + 1))).shown : Int)] := by
          rw [hst, hnz, shows_snoc, nats_append, ← he]; rfl
        rw [← hst] at HS0
        have hok1 : ∀ i, i < k + 1 → okS d.keys (zs.getD i 0) := fun i hi => by
          by_cases e : i = k
          · rw [e]; exact hok
          · exact HOK.out i (by omega)
        have HOK1 := hid hok1
        have HSH := hid hsh
        clear hr hnz hok hok1 hsh hst he
        generalize hE1 : (DB.run d (nz zs (k + 1))).shown = sk1 at *
        generalize hE2 : (DB.run d (nz zs (k + 1))).last = lk1 at *
        generalize hE3 : (DB.run d (nz zs (k + 1))).ages = ag1 at *
        have HE := hid (And.intro hE1 (And.intro hE2 hE3))
        clear hE1 hE2 hE3
        have HS1 := hid HS0
        clear HS0
        go_upto_region 11 with (go_at_call 34; (with_reducible refine (HS1.out _ _ _ HAge.out.rd).mono ?_); rintro e w3 ⟨A3, c3, rfl, ho3, hb3⟩; have HB3 := hid hb3; have HBd3 := hid (HBd.out.bel hb3); have HBr3 := hid (HBr.out.bel hb3); have HO3 := hid ho3; have HOw3 := hid (ownsRow_below HOwn.out hb3); have hap3 := apart_symm (ownsRow_apart HOwn.out ho3.2 (Nat.le_refl _)); have HAP3 := hid hap3; have hz3 := hb3.size; have hbel3 := Below.step hbel hb3; have z0 := fun o => (HBd3.out.alloc o).six.1; have z1 := fun o => (HBd3.out.alloc o).six.2.1; have z2 := fun o => (HBd3.out.alloc o).six.2.2.1; have z3 := fun o => (HBd3.out.alloc o).six.2.2.2.1; have z4 := fun o => (HBd3.out.alloc o).six.2.2.2.2.1; have z5 := fun o => (HBd3.out.alloc o).six.2.2.2.2.2; have g0 := fun o => (HBd3.out.alloc o).frozen 0; have g1 := fun o => (HBd3.out.alloc o).frozen 1; have g2 := fun o => (HBd3.out.alloc o).frozen 2; have g3 := fun o => (HBd3.out.alloc o).frozen 3; have g4 := fun o => (HBd3.out.alloc o).frozen 4; have g5 := fun o => (HBd3.out.alloc o).frozen 5; clear ho3 hb3 hap3 q0 q1 q2 q3 q4 q5 HBd HBr HOwn HAge HAP hbel)
        go_cut [40] (fun s40 wx => Blk wx w.heap.size 33 #[.int .i64 d.kind, .int .i64 d.time, .int .i64 d.keys, .int .i64 sk1, .int .i64 lk1, .slice A3 d.keys c3] ∧
            Blk wx (w.heap.size + 1) 33 #[.int .i64 0, .int .i64 0, .int .i64 0, .int .i64 0, .int .i64 0, .slice none 0 0] ∧
            Own wx (w.heap.size + 2) A3 d.keys c3 ag1 ∧ wx.ownsRow (w.heap.size + 2) 3 1 v k (ints (nats (DB.shows d (nz zs k)))) ∧ Below w.heap.size w wx)
        case first =>
          go_wp2
          go_meet
          refine ⟨?_, ?_, ?_, ?_, ?_⟩
          · exact ((((((HBd3.out.alloc _).set_ 0 _).set_ 1 _).set_ 2 _).set_ 3 _).set_ 4 _).set_ 5 _
          · exact ((((((HBr3.out.alloc _).far (by simp) _).far (by simp) _).far (by simp) _).far (by simp) _).far (by simp) _).far (by simp) _
          · exact (((((((HO3.out.alloc _).far (by simp; omega) _).far (by simp; omega) _).far (by simp; omega) _).far (by simp; omega) _).far (by simp; omega) _).far (by simp; omega) _).base (by omega)
          · exact ownsRow_far (ownsRow_far (ownsRow_far (ownsRow_far (ownsRow_far (ownsRow_far (HOw3.out.alloc _) (by simp) _) (by simp) _) (by simp) _) (by simp) _) (by simp) _) (by simp) _
          · exact Below.setCell (Below.setCell (Below.setCell (Below.setCell (Below.setCell (Below.setCell (Below.alloc hbel3 (by omega) _) (by simp) _) (by simp) _) (by simp) _) (by simp) _) (by simp) _) (by simp) _
        case rest =>
          obtain ⟨hBd, hBr, hO, hOw, hbel⟩ := hcut
          clear z0 z1 z2 z3 z4 z5 g0 g1 g2 g3 g4 g5 hbel3
          obtain ⟨q0, q1, q2, q3, q4, q5⟩ := hBd.six
          have hlt2 := hBr.lt
          have HBd := hid hBd
          have HBr := hid hBr
          have HO := hid hO
          have HOw := hid hOw
          clear hBd hBr hO hOw
          have h1 : ∀ u ∈ [Value.int .i64 (sk1 : Int)], u.oneCell' = true := by intro u hu; simp at hu; subst hu; rfl
          go_wp2_with (at_builtin; refine wpList_append_any _ rfl _ _ 22 rfl (w.heap.size + 2) 3 i0 (.int .i64 0) 1 8 Try.underlying22 HI0.out.1 HI0.out.2.1 HI0.out.2.2.1 HI0.out.2.2.2 rfl (by decide) _ _ _ rfl (HOw.out.alloc _) (wc.heap.size + 1) _ 1 1 [.int .i64 sk1] rfl (reads_new wc #[.int .i64 sk1] 3 rfl) h1 (by unfold maxLen; omega) (by omega) (by simp; omega) ?_; intro v' w4 hown1 hg1 hat1; have hb2 := below_app hbel HOw.out (by omega) hg1; have HBd2 := hid (HBd.out.app HOw.out (by omega) hg1); have HBr2 := hid (HBr.out.app HOw.out (by omega) hg1); have HO2 := hid (Own.keptV (HO.out.alloc _) hg1 HAP3.out); have HOw2 := hid hown1; have HAT := hid hat1; clear hown1 hg1 hat1)
          go_roundw
          case rel =>
            refine ⟨k + 1, A3, c3, _, by omega, by go_num, rfl, HOK1.out, ?_, HBr2.out, ?_, ?_, ?_, hb2⟩
            · rw [HE.out.1, HE.out.2.1]; exact HBd2.out
            · rw [HE.out.2.2]; exact HO2.out
            · rw [HSH.out]; unfold ints; rw [List.map_append]; exact HOw2.out
            · rcases HAT.out with e | e
              · rw [e]; exact HAP3.out
              · rw [e]; exact own_new HO.out.2
          case measure => simp [intOf]; omega
      · have hok2 : ok = false := by
          cases ok with
          | false => rfl
          | true => exact absurd ((HRO.out.is.1 rfl).2 k (by rw [HL.out]; exact hlt)) hok
        subst hok2
        obtain ⟨rfl, rfl, rfl, rfl, rfl, rfl, rfl⟩ := HRO.out.no rfl
        have hno := fun (W : World) (A : Option Addr) (c : Nat) (h : RdI W A d.keys (DB.run d (nz zs k)).ages) => iStep_no d.kind d.time d.keys (DB.run d (nz zs k)).shown (DB.run d (nz zs k)).last (zs.getD k 0) _ (cap := c) h (by omega) (fun hs => hok ⟨hs.2.1, by have := hs.2.2; rwa [Int.toNat_natCast] at this⟩)
        have HNO := hid hno
        have hfr := fun j => HBr.out.frozen j
        clear hno hok HRO
        generalize zs.getD k 0 = z at *
        go_wp2_with (go_at_call 34; (with_reducible refine (HNO.out _ _ _ HAge.out.rd).mono ?_); rintro e w3 ⟨rfl, hb3⟩; have HBr3 := hid (HBr.out.bel hb3); have hz3 := hb3.size; have hbel3 := Below.step hbel hb3; have z0 := fun o => (HBr3.out.alloc o).six.1; have z1 := fun o => (HBr3.out.alloc o).six.2.1; have z2 := fun o => (HBr3.out.alloc o).six.2.2.1; have z3 := fun o => (HBr3.out.alloc o).six.2.2.2.1; have z4 := fun o => (HBr3.out.alloc o).six.2.2.2.2.1; have z5 := fun o => (HBr3.out.alloc o).six.2.2.2.2.2; have g0 := fun o => (HBr3.out.alloc o).frozen 0; have g1 := fun o => (HBr3.out.alloc o).frozen 1; have g2 := fun o => (HBr3.out.alloc o).frozen 2; have g3 := fun o => (HBr3.out.alloc o).frozen 3; have g4 := fun o => (HBr3.out.alloc o).frozen 4; have g5 := fun o => (HBr3.out.alloc o).frozen 5; clear hb3 hfr)
        refine retD3r Try.results21 rfl rfl rfl rfl (g := w.heap.size + 1) (v0 := .int .i64 0) (v1 := .int .i64 0) (v2 := .int .i64 0) (v3 := .int .i64 0) (v4 := .int .i64 0) (v5 := .slice none 0 0) ?_ ?_
        · exact ((((((HBr3.out.alloc _).set_ 0 _).set_ 1 _).set_ 2 _).set_ 3 _).set_ 4 _).set_ 5 _
        · refine ⟨none, 0, none, 0, rfl, ⟨⟨rfl, World.ownsRow_nil _ _ _ _⟩, ⟨rfl, World.ownsRow_nil _ _ _ _⟩, .inl rfl⟩, ?_⟩
          exact Below.setCell (Below.setCell (Below.setCell (Below.setCell (Below.setCell (Below.setCell (Below.alloc hbel3 (by omega) _) (by simp) _) (by simp) _) (by simp) _) (by simp) _) (by simp) _) (by simp) _
    · obtain rfl : k = n := by omega
      have hok2 : ok = true := HRO.out.is.2 ⟨by rw [HL.out]; exact hn, by rw [HL.out]; exact HOK.out⟩
      subst hok2
      have hy := HRO.out.yes rfl
      rw [HL.out] at hy
      obtain ⟨rfl, rfl, rfl, rfl, rfl, rfl, rfl⟩ := hy
      have hl1 : (DB.run d (nz zs k)).ages.length = d.keys := HAge.out.1
      have hl2 : (nats (DB.shows d (nz zs k))).length = k := by
        unfold nats nz; rw [List.length_map, DB.shows_length, List.length_map, List.length_take, HL.out]; omega
      have HLL := hid (And.intro hl1 hl2)
      obtain ⟨A', c', rfl⟩ := ownsRow_form HOwn.out
      obtain ⟨z0, z1, z2, z3, z4, z5⟩ := HBr.out.six
      have g0 := HBr.out.frozen 0
      have g1 := HBr.out.frozen 1
      have g2 := HBr.out.frozen 2
      have g3 := HBr.out.frozen 3
      have g4 := HBr.out.frozen 4
      have g5 := HBr.out.frozen 5
      clear hl1 hl2 HRO
      go_wp2
      refine retD3r Try.results21 rfl rfl rfl rfl (g := w.heap.size + 1) (v0 := .int .i64 d.kind) (v1 := .int .i64 d.time) (v2 := .int .i64 d.keys) (v3 := .int .i64 (DB.run d (nz zs k)).shown) (v4 := .int .i64 (DB.run d (nz zs k)).last) (v5 := .slice Ak d.keys ck) ?_ ?_
      · exact (((((HBr.out.set_ 0 _).set_ 1 _).set_ 2 _).set_ 3 _).set_ 4 _).set_ 5 _
      · refine ⟨Ak, ck, A', c', by rw [HLL.out.1, HLL.out.2]; rfl, ⟨?_, ?_, ?_⟩, ?_⟩
        · rw [HLL.out.1]
          exact ((((((HAge.out.far (by simp) _).far (by simp) _).far (by simp) _).far (by simp) _).far (by simp) _).far (by simp) _).base (by omega)
        · rw [HLL.out.2]
          exact ⟨HLL.out.2, ownsRow_base (ownsRow_far (ownsRow_far (ownsRow_far (ownsRow_far (ownsRow_far (ownsRow_far HOwn.out (by simp) _) (by simp) _) (by simp) _) (by simp) _) (by simp) _) (by simp) _) (by omega)⟩
        · rw [HLL.out.1, HLL.out.2]; exact HAP.out
        · exact Below.setCell (Below.setCell (Below.setCell (Below.setCell (Below.setCell (Below.setCell hbel (by simp) _) (by simp) _) (by simp) _) (by simp) _) (by simp) _) (by simp) _
end Go.Proofs.Ytdaabndngcebgaa
