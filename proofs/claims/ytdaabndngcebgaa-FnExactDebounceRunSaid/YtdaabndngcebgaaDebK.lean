/- A run of a debouncer, by contract in the reference. Conditions: at most 2^20 ages and samples. -/
import Derived.Test.YtdaabndngcebgaaDebM
import Derived.Test.YtdaabndngcebgaaDebQ
import Derived.Deep.DeepCutAuto
import Derived.Deep.RegionWith
namespace Go.Proofs.Ytdaabndngcebgaa
open Go.RowKit
set_option linter.unusedVariables false

theorem keep_cell {wr W : World} {a : Addr} {v : Value} (hc : wr.cell? a = some v) (hb : Below wr.heap.size wr W) : W.cell? a = some v := (hb.cell (World.block_lt_of_cell? _ _ hc)).trans hc
/-- The step's result in a new box: made behind the call, or ahead of it. -/
theorem newA {wr W w3 : World} {A : Option Addr} {n c : Nat} {ag : List Int} {T : TypeId} {v0 v1 v2 v3 v4 : Value} (hW : Below wr.heap.size wr W) (hb3 : Below W.heap.size W w3) (ho : Own w3 W.heap.size A n c ag) :
    ∃ (g : Nat) (A' : Option Addr) (c' : Nat), Value.pointer (some ⟨w3.heap.size, 0, none⟩) = .pointer (some ⟨g, 0, none⟩) ∧ Value.bool true = .bool true ∧ wr.heap.size ≤ g ∧
      Blk (w3.alloc (.cells #[v0, v1, v2, v3, v4, .slice A n c] T)) g T #[v0, v1, v2, v3, v4, .slice A' n c'] ∧ Own (w3.alloc (.cells #[v0, v1, v2, v3, v4, .slice A n c] T)) wr.heap.size A' n c' ag ∧ Below wr.heap.size wr (w3.alloc (.cells #[v0, v1, v2, v3, v4, .slice A n c] T)) := by
  have h := Below.step hW hb3
  exact ⟨_, A, c, rfl, rfl, h.size, Blk.new _ _ _, (ho.alloc _).base hW.size, Below.alloc h h.size _⟩
theorem newB {wr W w3 : World} {A : Option Addr} {n c : Nat} {ag : List Int} {T : TypeId} {v0 v1 v2 v3 v4 z0 z1 z2 z3 z4 z5 : Value} (hW : Below wr.heap.size wr W) (hk : Blk W wr.heap.size T #[z0, z1, z2, z3, z4, z5]) (hb3 : Below W.heap.size W w3) (ho : Own w3 W.heap.size A n c ag) :
    ∃ (g : Nat) (A' : Option Addr) (c' : Nat), Value.pointer (some ⟨wr.heap.size, 0, none⟩) = .pointer (some ⟨g, 0, none⟩) ∧ Value.bool true = .bool true ∧ wr.heap.size ≤ g ∧
      Blk ((((((w3.setCell ⟨wr.heap.size, 0, none⟩ v0).setCell ⟨wr.heap.size, 1, none⟩ v1).setCell ⟨wr.heap.size, 2, none⟩ v2).setCell ⟨wr.heap.size, 3, none⟩ v3).setCell ⟨wr.heap.size, 4, none⟩ v4).setCell ⟨wr.heap.size, 5, none⟩ (.slice A n c)) g T #[v0, v1, v2, v3, v4, .slice A' n c'] ∧
      Own ((((((w3.setCell ⟨wr.heap.size, 0, none⟩ v0).setCell ⟨wr.heap.size, 1, none⟩ v1).setCell ⟨wr.heap.size, 2, none⟩ v2).setCell ⟨wr.heap.size, 3, none⟩ v3).setCell ⟨wr.heap.size, 4, none⟩ v4).setCell ⟨wr.heap.size, 5, none⟩ (.slice A n c)) wr.heap.size A' n c' ag ∧
      Below wr.heap.size wr ((((((w3.setCell ⟨wr.heap.size, 0, none⟩ v0).setCell ⟨wr.heap.size, 1, none⟩ v1).setCell ⟨wr.heap.size, 2, none⟩ v2).setCell ⟨wr.heap.size, 3, none⟩ v3).setCell ⟨wr.heap.size, 4, none⟩ v4).setCell ⟨wr.heap.size, 5, none⟩ (.slice A n c)) := by
  have h := Below.step hW hb3
  have hl := hk.lt
  refine ⟨_, A, c, rfl, rfl, Nat.le_refl _, ((((((hk.bel hb3).set_ 0 _).set_ 1 _).set_ 2 _).set_ 3 _).set_ 4 _).set_ 5 _, ((((((ho.far hl _).far hl _).far hl _).far hl _).far hl _).far hl _).base hW.size, ?_⟩
  exact Below.setCell (Below.setCell (Below.setCell (Below.setCell (Below.setCell (Below.setCell h (Nat.le_refl _) _) (Nat.le_refl _) _) (Nat.le_refl _) _) (Nat.le_refl _) _) (Nat.le_refl _) _) (Nat.le_refl _) _
theorem sstep_run {kd t ks sh la r : Nat} {ages : List Int} (hd : (DB.St.mk kd t ks sh la ages).Ok) (hr : r < 2 ^ ks) : ∀ (w : World) (A : Option Addr) (c : Nat), RdS w A ks ages →
    Calls Try.prog 35 #[dbV kd t ks sh la A ks c, .int .i64 r] w (MadeS w kd t ks (DB.step ⟨kd, t, ks, sh, la, ages⟩ r).shown (DB.step ⟨kd, t, ks, sh, la, ages⟩ r).last (DB.step ⟨kd, t, ks, sh, la, ages⟩ r).ages) := fun w A c h =>
  (sStep_yes kd t ks sh la r ages hd hr h.out).mono fun e w' ⟨A', c', he, ho, hb⟩ => by
    have hl := DB.agesTo_length kd t r sh la ages ks
    rw [hl] at he ho
    exact ⟨A', c', he, ho, hb⟩
theorem own_new' {w : World} {base size n m c : Nat} {e : TypeId} {v : Value} {xs : List Value} (h : w.ownsRow base e size v n xs) : v.ownBlock = none ∨ v.ownBlock ≠ (Value.slice (some ⟨w.heap.size, 0, none⟩) m c).ownBlock := by
  cases hv : v.ownBlock with
  | none => exact .inl rfl
  | some g =>
    right
    intro hc
    have h1 := (h.lt g hv).2
    simp [Value.ownBlock] at hc
    omega
theorem Blk.new1 (w : World) (o : Obj) (t : TypeId) (cs : Array Value) : Blk ((w.alloc o).alloc (.cells cs t)) (w.heap.size + 1) t cs := by
  have q := Blk.new (w.alloc o) t cs
  rw [World.size_alloc] at q
  exact q
theorem own_lit1 (W : World) (o : Obj) : ((W.alloc o).alloc (.cells #[] 3)).ownsRow (W.heap.size + 1) 3 1 (.slice (some ⟨W.heap.size + 1, 0, none⟩) 0 0) 0 [] := by
  have q := World.ownsRow_lit (base := W.heap.size + 1) (e := 3) (size := 1) (W.alloc o) #[] 0 (by simp) (by unfold maxLen; omega) (by simp)
  rw [World.size_alloc] at q
  exact q
set_option maxRecDepth 100000 in
set_option maxHeartbeats 8000000 in
theorem sRun_ok (d : DB.St) (hd : d.Ok) {w : World} {A : Option Addr} {cap : Nat} (h : RdI w A d.keys d.ages) {B : Option Addr} {n cb : Nat} {zs : List Int} (hz : RdI w B n zs) (hn : n ≤ 200)
    {ok : Bool} {kd t ks sh la : Int} {ys os : List Int} (hr : RunOut d zs ok kd t ks sh la ys os) :
    Calls Try.prog 36 #[dbV d.kind d.time d.keys d.shown d.last A d.keys cap, .slice B n cb] w (RanR w kd t ks sh la ys os ok) := by
  have hk24 : d.keys ≤ 24 := hd.keys1
  have hzl : zs.length = n := hz.1
  have HI := hid (fun (w : World) (A : Option Addr) (c : Nat) (h : RdI w A d.keys d.ages) => sIsDebouncer_any (cap := c) h (by omega) d.kind d.time d.keys d.shown d.last true ⟨fun _ => dbOk_of (kd := d.kind) (t := d.time) (ks := d.keys) (sh := d.shown) (la := d.last) (ages := d.ages) hd, fun _ => rfl⟩)
  obtain ⟨i0, hi, hz0, hz1, hz2⟩ := info_parts int_info
  have HI0 := hid (And.intro hi (And.intro hz0 (And.intro hz1 hz2))); clear hi hz0 hz1 hz2
  have HR := hid h
  have HZ := hid hz
  have HRO := hid hr
  have HD := hid hd
  have HL := hid hzl
  clear h hz hr hd hzl
  have HAL := hid HD.out.len
  go_enter Try.func36, Try.ntmps36
  have hag1 : ∀ u ∈ ints d.ages, u.oneCell' = true := by intro u hu; unfold ints at hu; obtain ⟨z, _, rfl⟩ := List.mem_map.1 hu; rfl
  go_wp2_with (first | (go_at_call 25; (with_reducible refine (HI.out _ _ _ ((HR.out.alloc _).alloc _)).mono ?_); rintro e w1 ⟨rfl, hb1⟩; have HB1 := hid hb1; obtain ⟨hc1, hf1, hz1, hd1⟩ := bcell hb1; (try simp at hz1); replace hb1 := Below.via (B := w.heap.size) (a := w) (by (first | (go_grown; done) | (refine below_drewN ?_ _; go_grown; done) | (refine Below.drew (below_drewN ?_ _); go_grown; done))) hb1 (by go_size); (try have hy1 : w.heap.size < w1.heap.size := by omega); (try have hyy1 : w.heap.size + 1 < w1.heap.size := by omega)) | (at_builtin; have hlit := own_lit1 w1; have hrd := fun o o' => (((((HR.out.alloc _).alloc _).below HB1.out).alloc o).alloc o').2; go_loud (refine wpList_append_any _ rfl _ _ 22 rfl (w1.heap.size + 1) 3 i0 (.int .i64 0) 1 8 Try.underlying22 HI0.out.1 HI0.out.2.1 HI0.out.2.2.1 HI0.out.2.2.2 rfl (by decide) _ 0 [] rfl (hlit _) _ _ d.keys cap (ints d.ages) rfl (hrd _ _) hag1 (by unfold maxLen; omega) (by omega) (by simp) ?_; intro v' w2 hown1 hg1 hat1; simp only [Nat.zero_add, List.nil_append] at hown1; obtain ⟨A2, c2, rfl⟩ := ownsRow_form hown1; have HBx2 := hid (((Blk.new w1 33 #[.int .i64 d.kind, .int .i64 d.time, .int .i64 d.keys, .int .i64 d.shown, .int .i64 d.last, .slice A d.keys cap]).alloc (.cells #[] 3)).grown hg1 (own_ne (hlit (.cells #[] 3)) (by omega))); have HBr2 := hid (((((Blk.new1 w (.cells #[.int .i64 d.kind, .int .i64 d.time, .int .i64 d.keys, .int .i64 d.shown, .int .i64 d.last, .slice A d.keys cap] 33) 33 #[.int .i64 0, .int .i64 0, .int .i64 0, .int .i64 0, .int .i64 0, .slice none 0 0]).bel HB1.out).alloc (.cells #[.int .i64 d.kind, .int .i64 d.time, .int .i64 d.keys, .int .i64 d.shown, .int .i64 d.last, .slice A d.keys cap] 33)).alloc (.cells #[] 3)).grown hg1 (own_ne (hlit (.cells #[] 3)) (by omega))); have hb2 : Below w.heap.size w w2 := below_of_grown (Below.alloc (Below.alloc hb1 (by omega) _) (by simp; omega) _) (hlit _) (by omega) hg1; have HO2 := hid hown1; have hz2 := hg1.size; simp only [World.size_alloc] at hz2; have x5 := HBx2.out.six.2.2.2.2.2; have xf := HBx2.out.frozen 5; clear hlit hrd hown1 hg1 hat1)))
  go_loopw [8, 9] (fun v0 i wr => ∃ (k : Nat) (Ak : Option Addr) (ck : Nat) (v : Value), k ≤ n ∧ i = .int .i64 k ∧ v = v0 ∧ (∀ i, i < k → okS d.keys (zs.getD i 0)) ∧
      Blk wr w1.heap.size 33 #[.int .i64 d.kind, .int .i64 d.time, .int .i64 d.keys, .int .i64 (DB.run d (nz zs k)).shown, .int .i64 (DB.run d (nz zs k)).last, .slice Ak d.keys ck] ∧
      Blk wr (w.heap.size + 1) 33 #[.int .i64 0, .int .i64 0, .int .i64 0, .int .i64 0, .int .i64 0, .slice none 0 0] ∧
      Own wr (w1.heap.size + 1) Ak d.keys ck (DB.run d (nz zs k)).ages ∧ wr.ownsRow (w1.heap.size + 1) 3 1 v k (ints (nats (DB.shows d (nz zs k)))) ∧
      ((Value.slice Ak d.keys ck).ownBlock = none ∨ (Value.slice Ak d.keys ck).ownBlock ≠ v.ownBlock) ∧ Below w.heap.size w wr) (fun _ i _ => n - (intOf i).toNat)
  case atStart =>
    refine ⟨0, A2, c2, _, Nat.zero_le _, rfl, rfl, fun i hi => by omega, ?_, (HBr2.out.far (by simp; omega) _).alloc _, ?_, ?_, ?_, by (first | (go_grown; done) | (refine below_drewN ?_ _; go_grown; done) | (refine Below.drew (below_drewN ?_ _); go_grown; done))⟩
    · exact (HBx2.out.set_ 5 _).alloc _
    · exact (Own.far ⟨HAL.out, HO2.out⟩ (by simp) _).alloc _
    · have q := World.ownsRow_lit (base := w1.heap.size + 1) (e := 3) (size := 1) (w2.setCell ⟨w1.heap.size, 5, none⟩ (.slice A2 d.keys c2)) #[] 0 (by simp; omega) (by unfold maxLen; omega) (by simp)
      have e0 : ints (nats (DB.shows d (nz zs 0))) = [] := by simp [nz, DB.shows, nats, ints]
      rw [e0]; simpa using q
    · exact own_new' HO2.out
  case round =>
    obtain ⟨k, Ak, ck, v, hk, rfl, rfl, hoks, hBd, hBr, hage, hown, hap, hbel⟩ := hrel
    have hmk := run_mk HD.out (nz_lt hoks (by rw [HL.out]; exact hk))
    have HMK := hid hmk
    have HOK := hid hoks
    clear hmk hoks hc1 hf1 hd1 x5 xf
    have HBd := hid hBd
    have HBr := hid hBr
    have HAge := hid hage
    have HOwn := hid hown
    have HAP := hid hap
    obtain ⟨q0, q1, q2, q3, q4, q5⟩ := hBd.six
    have hltr := hBr.lt
    have hltd := hBd.lt
    clear hBd hBr hage hown hap
    by_cases hlt : k < n
    · obtain ⟨ad, rfl, hcell⟩ := (HZ.out.below hbel).at_ hlt
      by_cases hok : okS d.keys (zs.getD k 0)
      · obtain ⟨r, hr, hr2⟩ := okS_nat hok
        have HS0 := sstep_run HMK.out hr2
        have hnz := nz_succ zs (k := k) (by rw [HL.out]; exact hlt)
        rw [hr] at hcell hnz
        rw [Int.toNat_natCast] at hnz
        have he := run_eta HD.out (nz_lt HOK.out (by rw [HL.out]; exact hk))
        have hst : DB.run d (nz zs (k + 1)) = DB.step ⟨d.kind, d.time, d.keys, (DB.run d (nz zs k)).shown, (DB.run d (nz zs k)).last, (DB.run d (nz zs k)).ages⟩ r := by rw [hnz, run_snoc, ← he]
        have hsh : nats (DB.shows d (nz zs (k + 1))) = nats (DB.shows d (nz zs k)) ++ [((DB.run d (nz zs (k + 1))).shown : Int)] := by
          rw [hst, hnz, shows_snoc, nats_append, ← he]; rfl
        rw [← hst] at HS0
        have hok1 : ∀ i, i < k + 1 → okS d.keys (zs.getD i 0) := fun i hi => by
          by_cases e : i = k
          · rw [e]; exact hok
          · exact HOK.out i (by omega)
        have HOK1 := hid hok1
        have HSH := hid hsh
        clear hr hnz hok hok1 hsh hst he
        generalize hE1 : (DB.run d (nz zs (k + 1))).shown = sk1 at *
        generalize hE2 : (DB.run d (nz zs (k + 1))).last = lk1 at *
        generalize hE3 : (DB.run d (nz zs (k + 1))).ages = ag1 at *
        have HE := hid (And.intro hE1 (And.intro hE2 hE3))
        clear hE1 hE2 hE3
        have HS1 := hid HS0
        clear HS0
        have hrk := HAge.out.rs
        have i0' : (0 : Int) ≤ (k : Int) := by omega
        have i1' : (k : Int) < (n : Int) := by omega
        have hk' := fun o : Obj => keep_cell (W := wr.alloc o) hcell ((Below.refl _ _).alloc (Nat.le_refl _) o)
        have z0 := fun o => (HBd.out.alloc o).six.1
        have z1 := fun o => (HBd.out.alloc o).six.2.1
        have z2 := fun o => (HBd.out.alloc o).six.2.2.1
        have z3 := fun o => (HBd.out.alloc o).six.2.2.2.1
        have z4 := fun o => (HBd.out.alloc o).six.2.2.2.2.1
        have z5 := fun o => (HBd.out.alloc o).six.2.2.2.2.2
        go_upto_region 9 with (fail)
        go_cut [10, 11] (fun s10 s11 wx => ∃ (g : Nat) (A3 : Option Addr) (c3 : Nat), s10 = .pointer (some ⟨g, 0, none⟩) ∧ s11 = .bool true ∧ wr.heap.size ≤ g ∧
            Blk wx g 33 #[.int .i64 d.kind, .int .i64 d.time, .int .i64 d.keys, .int .i64 sk1, .int .i64 lk1, .slice A3 d.keys c3] ∧ Own wx wr.heap.size A3 d.keys c3 ag1 ∧ Below wr.heap.size wr wx)
        case first =>
          go_region_with ((go_at_call 35; (with_reducible refine (HS1.out _ _ _ (hrk.below (by first | (go_grown; done) | (refine below_drewN ?_ _; go_grown; done)))).mono ?_); rintro e w3 ⟨A3, c3, rfl, ho3, hb3⟩; have HO3 := hid ho3; have HB3 := hid hb3; obtain ⟨hc3, hf3, hz3, hd3⟩ := bcell hb3; clear hb3 ho3))
          all_goals
            go_wp2_with fail
            go_meet
            first
              | ((with_reducible refine newA ?_ HB3.out HO3.out) <;> (first | (go_grown; done) | (refine below_drewN ?_ _; go_grown; done) | (refine Below.drew (below_drewN ?_ _); go_grown; done)))
              | ((with_reducible refine newB (z0 := .int .i64 0) (z1 := .int .i64 0) (z2 := .int .i64 0) (z3 := .int .i64 0) (z4 := .int .i64 0) (z5 := .slice none 0 0) ?_ ?_ HB3.out HO3.out) <;> first | exact Blk.new wr _ _ | (first | (go_grown; done) | (refine below_drewN ?_ _; go_grown; done) | (refine Below.drew (below_drewN ?_ _); go_grown; done)))
        case rest =>
          obtain ⟨g, A3, c3, rfl, rfl, hg, hBn, hO3, hb3⟩ := hcut
          have HB3 := hid hb3
          have HBn := hid hBn
          have HBd3 := hid (HBd.out.bel hb3)
          have HBr3 := hid (HBr.out.bel hb3)
          have HO3 := hid hO3
          have HOw3 := hid (ownsRow_below HOwn.out hb3)
          have hap3 := apart_symm (ownsRow_apart HOwn.out hO3.2 (Nat.le_refl _))
          have HAP3 := hid hap3
          have hz3 := hb3.size
          have hbel3 := Below.step hbel hb3
          obtain ⟨n0, n1, n2, n3, n4, n5⟩ := hBn.six
          obtain ⟨z0, z1, z2, z3, z4, z5⟩ := HBd3.out.six
          have g0 := HBd3.out.frozen 0
          have g1 := HBd3.out.frozen 1
          have g2 := HBd3.out.frozen 2
          have g3 := HBd3.out.frozen 3
          have g4 := HBd3.out.frozen 4
          have g5 := HBd3.out.frozen 5
          clear hO3 hb3 hap3 q0 q1 q2 q3 q4 q5 HBd HBr HOwn HAge HAP hbel hcell hBn hk' hrk
          go_upto_region 12 with (fail)
          go_cut [48] (fun s48 wx => Blk wx w1.heap.size 33 #[.int .i64 d.kind, .int .i64 d.time, .int .i64 d.keys, .int .i64 sk1, .int .i64 lk1, .slice A3 d.keys c3] ∧
              Blk wx g 33 #[.int .i64 d.kind, .int .i64 d.time, .int .i64 d.keys, .int .i64 sk1, .int .i64 lk1, .slice A3 d.keys c3] ∧
              Blk wx (w.heap.size + 1) 33 #[.int .i64 0, .int .i64 0, .int .i64 0, .int .i64 0, .int .i64 0, .slice none 0 0] ∧
              Own wx (w1.heap.size + 1) A3 d.keys c3 ag1 ∧ wx.ownsRow (w1.heap.size + 1) 3 1 v k (ints (nats (DB.shows d (nz zs k)))) ∧ Below w.heap.size w wx)
          case first =>
            go_wp2
            go_meet
            refine ⟨?_, ?_, ?_, ?_, ?_, ?_⟩
            · exact (((((HBd3.out.set_ 0 _).set_ 1 _).set_ 2 _).set_ 3 _).set_ 4 _).set_ 5 _
            · exact (((((HBn.out.far (by simp; omega) _).far (by simp; omega) _).far (by simp; omega) _).far (by simp; omega) _).far (by simp; omega) _).far (by simp; omega) _
            · exact (((((HBr3.out.far (by simp; omega) _).far (by simp; omega) _).far (by simp; omega) _).far (by simp; omega) _).far (by simp; omega) _).far (by simp; omega) _
            · exact ((((((HO3.out.far (by simp; omega) _).far (by simp; omega) _).far (by simp; omega) _).far (by simp; omega) _).far (by simp; omega) _).far (by simp; omega) _).base (by omega)
            · exact ownsRow_far (ownsRow_far (ownsRow_far (ownsRow_far (ownsRow_far (ownsRow_far HOw3.out (by simp) _) (by simp) _) (by simp) _) (by simp) _) (by simp) _) (by simp) _
            · exact Below.setCell (Below.setCell (Below.setCell (Below.setCell (Below.setCell (Below.setCell hbel3 (by simp; omega) _) (by simp; omega) _) (by simp; omega) _) (by simp; omega) _) (by simp; omega) _) (by simp; omega) _
          case rest =>
            obtain ⟨hBd, hBn, hBr, hO, hOw, hbel⟩ := hcut
            clear z0 z1 z2 z3 z4 z5 g0 g1 g2 g3 g4 g5 hbel3 n0 n1 n2 n3 n4 n5
            obtain ⟨q0, q1, q2, q3, q4, q5⟩ := hBn.six
            have hlt2 := hBd.lt
            have HBd := hid hBd
            have HBr := hid hBr
            have HO := hid hO
            have HOw := hid hOw
            clear hBd hBr hO hOw hBn
            have h1 : ∀ u ∈ [Value.int .i64 (sk1 : Int)], u.oneCell' = true := by intro u hu; simp at hu; subst hu; rfl
            go_wp2_with (at_builtin; refine wpList_append_any _ rfl _ _ 22 rfl (w1.heap.size + 1) 3 i0 (.int .i64 0) 1 8 Try.underlying22 HI0.out.1 HI0.out.2.1 HI0.out.2.2.1 HI0.out.2.2.2 rfl (by decide) _ _ _ rfl (HOw.out.alloc _) (wc.heap.size + 1) _ 1 1 [.int .i64 sk1] rfl (reads_new wc #[.int .i64 sk1] 3 rfl) h1 (by unfold maxLen; omega) (by omega) (by simp; omega) ?_; intro v' w4 hown1 hg1 hat1; have hb2 := below_app hbel HOw.out (by omega) hg1; have HBd2 := hid (HBd.out.app HOw.out (by omega) hg1); have HBr2 := hid (HBr.out.app HOw.out (by omega) hg1); have HO2 := hid (Own.keptV (HO.out.alloc _) hg1 HAP3.out); have HOw2 := hid hown1; have HAT := hid hat1; clear hown1 hg1 hat1)
            go_roundw
            case rel =>
              refine ⟨k + 1, A3, c3, _, by omega, by go_num, rfl, HOK1.out, ?_, HBr2.out, ?_, ?_, ?_, hb2⟩
              · rw [HE.out.1, HE.out.2.1]; exact HBd2.out
              · rw [HE.out.2.2]; exact HO2.out
              · rw [HSH.out]; unfold ints; rw [List.map_append]; exact HOw2.out
              · rcases HAT.out with e | e
                · rw [e]; exact HAP3.out
                · rw [e]; exact own_new HO.out.2
            case measure => simp [intOf]; omega
      · have hok2 : ok = false := by
          cases ok with
          | false => rfl
          | true => exact absurd ((HRO.out.is.1 rfl).2 k (by rw [HL.out]; exact hlt)) hok
        subst hok2
        obtain ⟨rfl, rfl, rfl, rfl, rfl, rfl, rfl⟩ := HRO.out.no rfl
        have hno := fun (W : World) (A : Option Addr) (c : Nat) (h : RdI W A d.keys (DB.run d (nz zs k)).ages) => sStep_no d.kind d.time d.keys (DB.run d (nz zs k)).shown (DB.run d (nz zs k)).last (zs.getD k 0) _ (cap := c) h (by omega) (fun hs => hok ⟨hs.2.1, by have := hs.2.2; rwa [Int.toNat_natCast] at this⟩)
        have HNO := hid hno
        have hfr := fun j => HBr.out.frozen j
        clear hno hok HRO
        generalize zs.getD k 0 = z at *
        have hrk := HAge.out.rd
        have i0' : (0 : Int) ≤ (k : Int) := by omega
        have i1' : (k : Int) < (n : Int) := by omega
        have hk' := fun o : Obj => keep_cell (W := wr.alloc o) hcell ((Below.refl _ _).alloc (Nat.le_refl _) o)
        have z0 := fun o => (HBd.out.alloc o).six.1
        have z1 := fun o => (HBd.out.alloc o).six.2.1
        have z2 := fun o => (HBd.out.alloc o).six.2.2.1
        have z3 := fun o => (HBd.out.alloc o).six.2.2.2.1
        have z4 := fun o => (HBd.out.alloc o).six.2.2.2.2.1
        have z5 := fun o => (HBd.out.alloc o).six.2.2.2.2.2
        clear hfr
        go_upto_region 9 with (fail)
        go_cut [10, 11] (fun s10 s11 wx => s11 = .bool false ∧ Below wr.heap.size wr wx)
        case first =>
          go_region_with ((go_at_call 35; (with_reducible refine (HNO.out _ _ _ (hrk.below (by first | (go_grown; done) | (refine below_drewN ?_ _; go_grown; done)))).mono ?_); rintro e w3 ⟨rfl, hb3⟩; have hq3 : Below wr.heap.size wr w3 := Below.step (a := wr) (by (first | (go_grown; done) | (refine below_drewN ?_ _; go_grown; done) | (refine Below.drew (below_drewN ?_ _); go_grown; done))) hb3; have hs3 := hq3.size; obtain ⟨hc3, hf3, hz3, hd3⟩ := bcell hb3; clear hb3))
          all_goals
            go_wp2_with fail
            go_meet
            exact ⟨rfl, by (first | (go_grown; done) | (refine below_drewN ?_ _; go_grown; done) | (refine Below.drew (below_drewN ?_ _); go_grown; done))⟩
        case rest =>
          obtain ⟨rfl, hb3⟩ := hcut
          have HBr3 := hid (HBr.out.bel hb3)
          have hz3 := hb3.size
          have hbel3 := Below.step hbel hb3
          have y0 := fun o => (HBr3.out.alloc o).six.1
          have y1 := fun o => (HBr3.out.alloc o).six.2.1
          have y2 := fun o => (HBr3.out.alloc o).six.2.2.1
          have y3 := fun o => (HBr3.out.alloc o).six.2.2.2.1
          have y4 := fun o => (HBr3.out.alloc o).six.2.2.2.2.1
          have y5 := fun o => (HBr3.out.alloc o).six.2.2.2.2.2
          have g0 := fun o => (HBr3.out.alloc o).frozen 0
          have g1 := fun o => (HBr3.out.alloc o).frozen 1
          have g2 := fun o => (HBr3.out.alloc o).frozen 2
          have g3 := fun o => (HBr3.out.alloc o).frozen 3
          have g4 := fun o => (HBr3.out.alloc o).frozen 4
          have g5 := fun o => (HBr3.out.alloc o).frozen 5
          clear hb3 z0 z1 z2 z3 z4 z5 hk' hcell q0 q1 q2 q3 q4 q5
          go_wp2
          refine retD3r Try.results36 rfl rfl rfl rfl (g := w.heap.size + 1) (v0 := .int .i64 0) (v1 := .int .i64 0) (v2 := .int .i64 0) (v3 := .int .i64 0) (v4 := .int .i64 0) (v5 := .slice none 0 0) ?_ ?_
          · exact ((((((HBr3.out.alloc _).set_ 0 _).set_ 1 _).set_ 2 _).set_ 3 _).set_ 4 _).set_ 5 _
          · refine ⟨none, 0, some ⟨wc.heap.size, 0, none⟩, 0, rfl, ⟨⟨rfl, World.ownsRow_nil _ _ _ _⟩, ⟨rfl, ?_⟩, .inl rfl⟩, ?_⟩
            · have q := World.ownsRow_lit (base := wc.heap.size) (e := 3) (size := 1) wc #[] 0 (Nat.le_refl _) (by unfold maxLen; omega) (by simp)
              exact ownsRow_base (ownsRow_far (ownsRow_far (ownsRow_far (ownsRow_far (ownsRow_far (ownsRow_far q (by simp; omega) _) (by simp; omega) _) (by simp; omega) _) (by simp; omega) _) (by simp; omega) _) (by simp; omega) _) (by omega)
            · exact Below.setCell (Below.setCell (Below.setCell (Below.setCell (Below.setCell (Below.setCell (Below.alloc hbel3 (by omega) _) (by simp) _) (by simp) _) (by simp) _) (by simp) _) (by simp) _) (by simp) _
    · obtain rfl : k = n := by omega
      have hok2 : ok = true := HRO.out.is.2 ⟨by rw [HL.out]; exact hn, by rw [HL.out]; exact HOK.out⟩
      subst hok2
      have hy := HRO.out.yes rfl
      rw [HL.out] at hy
      obtain ⟨rfl, rfl, rfl, rfl, rfl, rfl, rfl⟩ := hy
      have hl1 : (DB.run d (nz zs k)).ages.length = d.keys := HAge.out.1
      have hl2 : (nats (DB.shows d (nz zs k))).length = k := by
        unfold nats nz; rw [List.length_map, DB.shows_length, List.length_map, List.length_take, HL.out]; omega
      have HLL := hid (And.intro hl1 hl2)
      obtain ⟨A', c', rfl⟩ := ownsRow_form HOwn.out
      obtain ⟨z0, z1, z2, z3, z4, z5⟩ := HBr.out.six
      have g0 := HBr.out.frozen 0
      have g1 := HBr.out.frozen 1
      have g2 := HBr.out.frozen 2
      have g3 := HBr.out.frozen 3
      have g4 := HBr.out.frozen 4
      have g5 := HBr.out.frozen 5
      clear hl1 hl2 HRO
      go_wp2
      refine retD3r Try.results36 rfl rfl rfl rfl (g := w.heap.size + 1) (v0 := .int .i64 d.kind) (v1 := .int .i64 d.time) (v2 := .int .i64 d.keys) (v3 := .int .i64 (DB.run d (nz zs k)).shown) (v4 := .int .i64 (DB.run d (nz zs k)).last) (v5 := .slice Ak d.keys ck) ?_ ?_
      · exact (((((HBr.out.set_ 0 _).set_ 1 _).set_ 2 _).set_ 3 _).set_ 4 _).set_ 5 _
      · refine ⟨Ak, ck, A', c', by rw [HLL.out.1, HLL.out.2]; rfl, ⟨?_, ?_, ?_⟩, ?_⟩
        · rw [HLL.out.1]
          exact ((((((HAge.out.far (by first | (simp; done) | (simp; omega)) _).far (by first | (simp; done) | (simp; omega)) _).far (by first | (simp; done) | (simp; omega)) _).far (by first | (simp; done) | (simp; omega)) _).far (by first | (simp; done) | (simp; omega)) _).far (by first | (simp; done) | (simp; omega)) _).base (by omega)
        · rw [HLL.out.2]
          exact ⟨HLL.out.2, ownsRow_base (ownsRow_far (ownsRow_far (ownsRow_far (ownsRow_far (ownsRow_far (ownsRow_far HOwn.out (by first | (simp; done) | (simp; omega)) _) (by first | (simp; done) | (simp; omega)) _) (by first | (simp; done) | (simp; omega)) _) (by first | (simp; done) | (simp; omega)) _) (by first | (simp; done) | (simp; omega)) _) (by first | (simp; done) | (simp; omega)) _) (by omega)⟩
        · rw [HLL.out.1, HLL.out.2]; exact HAP.out
        · exact Below.setCell (Below.setCell (Below.setCell (Below.setCell (Below.setCell (Below.setCell hbel (by first | (simp; done) | (simp; omega)) _) (by first | (simp; done) | (simp; omega)) _) (by first | (simp; done) | (simp; omega)) _) (by first | (simp; done) | (simp; omega)) _) (by first | (simp; done) | (simp; omega)) _) (by first | (simp; done) | (simp; omega)) _
end Go.Proofs.Ytdaabndngcebgaa
