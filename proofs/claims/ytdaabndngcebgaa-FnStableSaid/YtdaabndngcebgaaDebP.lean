/- A step of a debouncer, by contract in the program. Conditions: none of its own. -/
import Derived.Test.YtdaabndngcebgaaDebI
import Derived.Deep.DeepCutAuto
import Derived.Deep.LoopGhost
import Derived.Test.YtdaabndngcebgaaDebB
namespace Go.Proofs.Ytdaabndngcebgaa
open Go.RowKit
set_option linter.unusedVariables false

/-- What a step hands back. -/
def MadeStep (w : World) (kd t ks sh la : Nat) (xs : List Int) (e : Ending) (w' : World) : Prop :=
  ∃ (A : Option Addr) (cap : Nat), e = .returned (.tuple #[dbV kd t ks sh la A xs.length cap, .bool true]) ∧ Own w' w.heap.size A xs.length cap xs ∧ Below w.heap.size w w'
theorem dbOk_of {kd t ks sh la : Nat} {ages : List Int} (hd : (DB.St.mk kd t ks sh la ages).Ok) : DbOk kd t ks sh la ages := by
  have h1 := hd.kind
  have h2 := hd.time0
  have h3 := hd.time1
  have h4 := hd.keys0
  have h5 := hd.keys1
  have h6 := hd.len
  have h7 := hd.shown
  have h8 := hd.last
  simp only at h1 h2 h3 h4 h5 h6 h7 h8
  have e2 : (2 : Int) ^ (ks : Int).toNat = ((2 ^ ks : Nat) : Int) := by simp
  refine ⟨⟨by omega, by omega, by omega, by omega, by omega, by omega, by omega⟩, by omega, ?_, by omega, ?_, hd.ages⟩
  · rw [e2]; omega
  · rw [e2]; omega
set_option maxHeartbeats 1000000 in
theorem iStep_yes (kd t ks sh la raw : Nat) (ages : List Int) (hd : (DB.St.mk kd t ks sh la ages).Ok) (hr : raw < 2 ^ ks) {w : World} {A : Option Addr} {cap : Nat} (h : RdI w A ks ages) :
    Calls Try.prog 34 #[dbV kd t ks sh la A ks cap, .int .i64 raw] w (MadeStep w kd t ks (DB.shownTo kd t raw sh la ages ks) raw (DB.agesTo kd t raw sh la ages ks)) := by
  have HI := hid (fun (w : World) (A : Option Addr) (c : Nat) (h : RdI w A ks ages) (h1 : DbOk kd t ks sh la ages) => iIsDebouncer_any (cap := c) h (by have := hd.keys1; simp at this; omega) kd t ks sh la true ⟨fun _ => h1, fun _ => rfl⟩)
  have HO : Hid (DbOk kd t ks sh la ages) := dbOk_of hd
  obtain ⟨i0, hi, hz0, hz1, hz2⟩ := info_parts int_info
  have HI0 := hid (And.intro hi (And.intro hz0 (And.intro hz1 hz2))); clear hi hz0 hz1 hz2
  have HR := hid h; clear h
  have hks : ks ≤ 24 := hd.keys1
  have s1 := shl_one ks (by omega)
  have hk0 : kd ≤ 2 := hd.kind
  have hp24 : (2 : Nat) ^ ks ≤ 2 ^ 24 := Nat.pow_le_pow_right (by omega) hks
  have h24 : (2 : Nat) ^ 24 = 16777216 := by decide
  rw [h24] at hp24
  clear h24
  have e2 : ((2 ^ ks : Nat) : Int) = (2 : Int) ^ ks := by simp
  have hr' : (raw : Int) < (2 : Int) ^ ks := by omega
  rw [e2] at s1
  have he2 := hid e2
  clear e2
  clear hr
  go_enter Try.func34, Try.ntmps34
  go_wp2_with (go_at_call 27; (with_reducible refine (HI.out _ _ _ (((HR.out.alloc _).alloc _)) HO.out).mono ?_); rintro e w1 ⟨rfl, hb1⟩; have HBB := hid hb1; obtain ⟨hc1, hf1, hz1, hd1⟩ := bcell hb1; (try simp at hz1); replace hb1 := Below.via (B := w.heap.size) (a := w) (by (first | (go_grown; done) | (refine below_drewN ?_ _; go_grown; done) | (refine Below.drew (below_drewN ?_ _); go_grown; done))) hb1 (by go_size); (try have hy1 : w.heap.size < w1.heap.size := by omega); (try have hyy1 : w.heap.size + 1 < w1.heap.size := by omega))
  have HC0 := hid ((Blk.new w 33 #[.int .i64 kd, .int .i64 t, .int .i64 ks, .int .i64 sh, .int .i64 la, .slice A ks cap]).alloc (.cells #[.int .i64 0, .int .i64 0, .int .i64 0, .int .i64 0, .int .i64 0, .slice none 0 0] 33))
  have HC1 := hid (Blk.new (w.alloc (.cells #[.int .i64 kd, .int .i64 t, .int .i64 ks, .int .i64 sh, .int .i64 la, .slice A ks cap] 33)) 33 #[.int .i64 0, .int .i64 0, .int .i64 0, .int .i64 0, .int .i64 0, .slice none 0 0])
  have HB0 := hid hb1
  go_loopw [29] (fun i wr => ∃ (k : Nat) (v : Value), k ≤ ks ∧ i = .int .i64 k ∧ Blk wr w.heap.size 33 #[.int .i64 kd, .int .i64 t, .int .i64 ks, .int .i64 sh, .int .i64 la, .slice A ks cap] ∧
      Blk wr (w.heap.size + 1) 33 #[.int .i64 0, .int .i64 0, .int .i64 0, .int .i64 0, .int .i64 0, .slice none 0 0] ∧
      Blk wr w1.heap.size 33 #[.int .i64 kd, .int .i64 t, .int .i64 ks, .int .i64 (DB.shownTo kd t raw sh la ages k : Nat), .int .i64 la, v] ∧
      wr.ownsRow (w1.heap.size + 1) 3 1 v k (ints (DB.agesTo kd t raw sh la ages k)) ∧ Below w.heap.size w wr) (fun i _ => ks - (intOf i).toNat)
  case atStart =>
    refine ⟨0, .slice none 0 0, Nat.zero_le _, rfl, ?_, ?_, Blk.new w1 _ _, World.ownsRow_nil _ _ _ _, Below.alloc hb1 (Below.size hb1) _⟩
    · exact (HC0.out.bel HBB.out).alloc _
    · have q := (HC1.out.bel HBB.out).alloc (.cells #[.int .i64 kd, .int .i64 t, .int .i64 ks, .int .i64 sh, .int .i64 la, .slice none 0 0] 33)
      rw [World.size_alloc] at q
      exact q
  case round =>
    obtain ⟨k, v, hk, rfl, hBd, hBr, hBo, hown, hbel⟩ := hrel
    by_cases hlk : k < ks
    · obtain ⟨ad, rfl, hcell⟩ := (HR.out.below hbel).at_ hlk
      obtain ⟨q0, q1, q2, q3, q4, q5⟩ := hBd.six
      obtain ⟨y0, y1, y2, y3, y4, y5⟩ := hBo.six
      have HBd := hid hBd
      have HBr := hid hBr
      have HBo := hid hBo
      have HOwn := hid hown
      clear hBd hBr hBo hown hc1 hf1 hd1
      have hag : 0 ≤ ages.getD k 0 ∧ ages.getD k 0 ≤ 99 := DB.getD_rng ages hd.ages k
      have hsl := DB.shownTo_lt kd t raw sh la ages (K := ks) hd.shown k (by omega)
      have ht : 1 ≤ t ∧ t ≤ 20 := ⟨hd.time0, hd.time1⟩
      have hc1 : ∃ c1 : Bool, c1 = decide ((kd = 0 ∧ raw.testBit k ≠ la.testBit k) ∨ (kd = 1 ∧ raw ≠ la)) := ⟨_, rfl⟩
      obtain ⟨c1, hc1⟩ := hc1
      have ha1 : ∃ a1, a1 = DB.age1 kd raw la k (ages.getD k 0) := ⟨_, rfl⟩
      obtain ⟨a1, ha1⟩ := ha1
      have hfl : ∃ fl, fl = DB.flip kd t raw sh la k (ages.getD k 0) := ⟨_, rfl⟩
      obtain ⟨fl, hfl⟩ := hfl
      have ha2 : ∃ a2, a2 = DB.age2 kd t raw sh la k (ages.getD k 0) := ⟨_, rfl⟩
      obtain ⟨a2, ha2⟩ := ha2
      have hsk : ∃ sk1, sk1 = DB.shownTo kd t raw sh la ages (k + 1) := ⟨_, rfl⟩
      obtain ⟨sk1, hsk⟩ := hsk
      have hsk2 : sk1 = if fl then DB.shownTo kd t raw sh la ages k ^^^ 2 ^ k else DB.shownTo kd t raw sh la ages k := by rw [hsk, hfl]; rfl
      have hag2 : DB.agesTo kd t raw sh la ages (k + 1) = DB.agesTo kd t raw sh la ages k ++ [a2] := by rw [ha2]; rfl
      have ha1e : a1 = if c1 = true then 1 else min (ages.getD k 0 + 1) 99 := by rw [ha1, hc1]; unfold DB.age1; simp only [decide_eq_true_eq]
      have hfle : fl = (decide ((t : Int) ≤ a1) && (raw.testBit k != sh.testBit k)) := by rw [hfl, ha1]; rfl
      have ha2e : a2 = if fl = true ∧ kd = 2 then 0 else a1 := by rw [ha2, hfl, ha1]; rfl
      have hr1 : 0 ≤ a1 ∧ a1 ≤ 99 := by rw [ha1]; exact DB.age1_rng _ _ _ hag
      have e2 := he2.out
      have Hr := bit_any (raw : Int) k (by rw [← e2] at hr'; unfold rng; omega) (by omega)
      have Hl := bit_any (la : Int) k (by have := hd.last; simp at this; unfold rng; omega) (by omega)
      have Hs := bit_any (sh : Int) k (by have := hd.shown; simp at this; unfold rng; omega) (by omega)
      rw [tbI_nat] at Hr Hl Hs
      generalize raw.testBit k = rb at *
      generalize la.testBit k = lb at *
      generalize sh.testBit k = sb at *
      generalize hxr : b2i rb = xr at Hr
      generalize hxl : b2i lb = xl at Hl
      generalize hxs : b2i sb = xs at Hs
      have Hxr := hid hxr
      have Hxl := hid hxl
      have Hxs := hid hxs
      clear hxr hxl hxs
      clear e2
      have Hr := hid Hr
      have Hl := hid Hl
      have Hs := hid Hs
      generalize DB.shownTo kd t raw sh la ages k = shk at *
      generalize ages.getD k 0 = age at *
      have E1 := hid (And.intro hc1 (And.intro ha1e (And.intro hfle (And.intro ha2e (And.intro hsk2 (And.intro hag2 hsk))))))
      clear hc1 ha1e hfle ha2e hsk2 hag2 hsk ha1 hfl ha2
      go_upto_region 8 with (fail)
      go_cut [8] (fun s8 wx => s8 = .int .i64 (min (age + 1) 99) ∧ wr = wx)
      case first =>
        go_wp2
        all_goals
          go_meet
          exact ⟨by congr 1; omega, rfl⟩
      case rest =>
        obtain ⟨rfl, rfl⟩ := hcut
        go_upto_region 9 with (fail)
        go_cut [60] (fun s60 wx => s60 = .bool c1 ∧ ∃ z, wx = wr.drewN z)
        case first =>
          rcases (show kd = 0 ∨ kd = 1 ∨ kd = 2 by omega) with rfl | rfl | rfl
          · have hcc : c1 = (rb != lb) := by rw [E1.out.1]; cases rb <;> cases lb <;> simp
            clear E1
            subst hcc
            have hxr := Hxr.out
            have hxl := Hxl.out
            clear Hxr Hxl
            cases rb <;> cases lb
            all_goals
              first | (change (1 : Int) = xr at hxr) | (change (0 : Int) = xr at hxr)
              first | (change (1 : Int) = xl at hxl) | (change (0 : Int) = xl at hxl)
              subst hxr hxl
              go_quiet (first | ((with_reducible refine (Hr.out _).mono ?_); rintro e w' ⟨rfl, rfl⟩; exact ⟨rfl, _, rfl⟩) | ((with_reducible refine (Hl.out _).mono ?_); rintro e w' ⟨rfl, rfl⟩; exact ⟨rfl, _, rfl⟩))
              go_wp2_with fail
              go_meet
              exact ⟨rfl, _, rfl⟩
          · by_cases hne : raw = la
            · subst hne
              have hcc : c1 = false := by rw [E1.out.1]; simp
              have hq : ((raw : Int) != (raw : Int)) = false := by simp
              clear E1
              subst hcc
              go_quiet (fail)
              go_wp2_with fail
              go_meet
              exact ⟨rfl, _, rfl⟩
            · have hcc : c1 = true := by rw [E1.out.1]; simp [hne]
              have hq : ((raw : Int) != (la : Int)) = true := by simp; omega
              clear E1
              subst hcc
              go_quiet (fail)
              go_wp2_with fail
              go_meet
              exact ⟨rfl, _, rfl⟩
          · have hcc : c1 = false := by rw [E1.out.1]; simp
            clear E1
            subst hcc
            go_quiet (fail)
            go_wp2_with fail
            go_meet
            exact ⟨rfl, _, rfl⟩
        case rest =>
          obtain ⟨rfl, z, rfl⟩ := hcut
          go_upto_if 60 with (fail)
          go_cut [8] (fun s8 wx => s8 = .int .i64 a1 ∧ wr.drewN z = wx)
          case first =>
            have hcc := E1.out.2.1
            clear E1
            cases c1
            · simp only [Bool.false_eq_true, if_false] at hcc
              subst hcc
              go_wp2
              go_meet
              exact ⟨rfl, rfl⟩
            · simp only [if_true] at hcc
              subst hcc
              go_wp2
              go_meet
              exact ⟨rfl, rfl⟩
          case rest =>
            obtain ⟨rfl, rfl⟩ := hcut
            go_upto_region 11 with (fail)
            go_cut [74] (fun s74 wx => s74 = .bool fl ∧ ∃ z, wx = wr.drewN z)
            case first =>
              have hcc := E1.out.2.2.1
              clear E1
              by_cases hta : (t : Int) ≤ a1
              · have hd1 : decide ((t : Int) ≤ a1) = true := decide_eq_true hta
                rw [hd1, Bool.true_and] at hcc
                subst hcc
                have hxr := Hxr.out
                have hxs := Hxs.out
                clear Hxr Hxs
                cases rb <;> cases sb
                all_goals
                  first | (change (1 : Int) = xr at hxr) | (change (0 : Int) = xr at hxr)
                  first | (change (1 : Int) = xs at hxs) | (change (0 : Int) = xs at hxs)
                  subst hxr hxs
                  go_quiet (first | ((with_reducible refine (Hr.out _).mono ?_); rintro e w' ⟨rfl, rfl⟩; exact ⟨rfl, _, rfl⟩) | ((with_reducible refine (Hs.out _).mono ?_); rintro e w' ⟨rfl, rfl⟩; exact ⟨rfl, _, rfl⟩))
                  go_wp2_with fail
                  go_meet
                  first | exact ⟨rfl, _, World.drewN_drewN _ _ _⟩ | exact ⟨rfl, _, rfl⟩
              · have hd1 : decide ((t : Int) ≤ a1) = false := decide_eq_false hta
                rw [hd1, Bool.false_and] at hcc
                subst hcc
                go_quiet (fail)
                go_wp2_with fail
                go_meet
                first | exact ⟨rfl, _, World.drewN_drewN _ _ _⟩ | exact ⟨rfl, _, rfl⟩
            case rest =>
              obtain ⟨rfl, z, rfl⟩ := hcut
              go_upto_if 74 with (fail)
              go_cut [8] (fun s8 wx => s8 = .int .i64 a2 ∧ Blk wx w.heap.size 33 #[.int .i64 kd, .int .i64 t, .int .i64 ks, .int .i64 sh, .int .i64 la, .slice (some ad) ks cap] ∧
                  Blk wx (w.heap.size + 1) 33 #[.int .i64 0, .int .i64 0, .int .i64 0, .int .i64 0, .int .i64 0, .slice none 0 0] ∧
                  Blk wx w1.heap.size 33 #[.int .i64 kd, .int .i64 t, .int .i64 ks, .int .i64 (sk1 : Nat), .int .i64 la, v] ∧
                  wx.ownsRow (w1.heap.size + 1) 3 1 v k (ints (DB.agesTo kd t raw sh la ages k)) ∧ Below w.heap.size w wx)
              case first =>
                have h1 := E1.out.2.2.2.1
                have h2 := E1.out.2.2.2.2.1
                clear E1
                cases fl
                · simp only [Bool.false_eq_true, if_false, false_and] at h1 h2
                  subst h1 h2
                  go_wp2
                  go_meet
                  exact ⟨rfl, HBd.out.drewN _, HBr.out.drewN _, HBo.out.drewN _, ownsRow_drewN HOwn.out _, below_drewN hbel _⟩
                · simp only [if_true, true_and] at h1 h2
                  have hx := xor_shl shk k (by omega) (by omega)
                  have HX := hid hx
                  clear hx
                  have hfz := HBo.out.frozen 3
                  have H2 := hid h2
                  clear h2
                  by_cases hk2 : kd = 2
                  · rw [if_pos hk2] at h1
                    subst hk2
                    subst h1
                    go_wp2
                    go_region
                    go_wp2
                    go_meet
                    refine ⟨rfl, ?_, ?_, ?_, ?_, ?_⟩
                    · exact (HBd.out.drewN _).far (by simp; omega) _
                    · exact (HBr.out.drewN _).far (by simp; omega) _
                    · rw [H2.out, ← HX.out]; exact (HBo.out.drewN _).set_ 3 _
                    · exact ownsRow_far (ownsRow_drewN HOwn.out _) (by simp) _
                    · exact Below.setCell (below_drewN hbel _) (by simp; omega) _
                  · rw [if_neg hk2] at h1
                    subst h1
                    have hk3 : ((kd : Int) == 2) = false := by simp; omega
                    go_wp2
                    go_region
                    go_wp2
                    go_meet
                    refine ⟨rfl, ?_, ?_, ?_, ?_, ?_⟩
                    · exact (HBd.out.drewN _).far (by simp; omega) _
                    · exact (HBr.out.drewN _).far (by simp; omega) _
                    · rw [H2.out, ← HX.out]; exact (HBo.out.drewN _).set_ 3 _
                    · exact ownsRow_far (ownsRow_drewN HOwn.out _) (by simp) _
                    · exact Below.setCell (below_drewN hbel _) (by simp; omega) _
              case rest =>
                obtain ⟨rfl, hBd, hBr, hBo, hown, hbel2⟩ := hcut
                clear HBd HBr HBo HOwn hbel
                obtain ⟨y0, y1, y2, y3, y4, y5⟩ := hBo.six
                have hf5 := hBo.frozen 5
                have hlt2 := hBo.lt
                have HBd := hid hBd
                have HBr := hid hBr
                have HBo := hid hBo
                have HOwn := hid hown
                clear hBd hBr hBo hown
                have h1 : ∀ u ∈ [Value.int .i64 a2], u.oneCell' = true := by intro u hu; simp at hu; subst hu; rfl
                go_wp2_with (at_builtin; (refine wpList_append_any _ rfl _ _ 22 rfl (w1.heap.size + 1) 3 i0 (.int .i64 0) 1 8 Try.underlying22 HI0.out.1 HI0.out.2.1 HI0.out.2.2.1 HI0.out.2.2.2 rfl (by decide) _ _ _ rfl (HOwn.out.alloc _) (wc.heap.size + 1) _ 1 1 [.int .i64 a2] rfl (reads_new wc #[.int .i64 a2] 3 rfl) h1 (by unfold maxLen; omega) (by omega) (by have := Below.size hbel2; simp; omega) ?_; intro v' w2 hown1 hg1 hat1; obtain ⟨A', c', rfl⟩ := ownsRow_form hown1; have hb2 := below_app hbel2 HOwn.out (by omega) hg1; have HBd2 := hid (HBd.out.app HOwn.out (by omega) hg1); have HBr2 := hid (HBr.out.app HOwn.out (by omega) hg1); have HBo2 := hid (HBo.out.app HOwn.out (by omega) hg1); have HOw2 := hid hown1; obtain ⟨_, _, _, _, _, z5⟩ := HBo2.out.six; have zf := HBo2.out.frozen 5; clear hown1 hg1 hat1))
                go_roundw
                case rel => 
                  refine ⟨k + 1, .slice A' (k + 1) c', by omega, by go_num, HBd2.out.far (by simp; omega) _, HBr2.out.far (by simp; omega) _, ?_, ?_, Below.setCell hb2 (by simp; omega) _⟩
                  · rw [← E1.out.2.2.2.2.2.2]; exact HBo2.out.set_ 5 _
                  · rw [E1.out.2.2.2.2.2.1]; unfold ints; rw [List.map_append]; exact ownsRow_far HOw2.out (by simp) _
                case measure => simp [intOf]; omega
    · obtain rfl : k = ks := by omega
      obtain ⟨A', c', rfl⟩ := ownsRow_form hown
      obtain ⟨y0, y1, y2, y3, y4, y5⟩ := hBo.six
      obtain ⟨x0, x1, x2, x3, x4, x5⟩ := hBr.six
      have f4 := hBo.frozen 4
      have g0 := hBr.frozen 0
      have g1 := hBr.frozen 1
      have g2 := hBr.frozen 2
      have g3 := hBr.frozen 3
      have g4 := hBr.frozen 4
      have g5 := hBr.frozen 5
      have hlen : (DB.agesTo kd t raw sh la ages k).length = k := DB.agesTo_length _ _ _ _ _ _ _
      have HL := hid hlen
      have HBr := hid hBr
      have HOwn := hid hown
      clear hlen hBo hBr hBd hown hc1 hf1 hd1
      go_wp2
      refine retD2 Try.results34 rfl rfl (g := w.heap.size + 1) (v0 := .int .i64 kd) (v1 := .int .i64 t) (v2 := .int .i64 k) (v3 := .int .i64 (DB.shownTo kd t raw sh la ages k : Nat)) (v4 := .int .i64 raw) (v5 := .slice A' k c') ?_ rfl ?_
      · exact ((((((HBr.out.far (p := ⟨w1.heap.size, 4, none⟩) (by simp; omega) _).set_ 0 _).set_ 1 _).set_ 2 _).set_ 3 _).set_ 4 _).set_ 5 _
      · refine ⟨A', c', by rw [HL.out]; rfl, ?_, ?_⟩
        · have q : Own _ _ A' k c' (DB.agesTo kd t raw sh la ages k) := ⟨HL.out, HOwn.out⟩
          rw [HL.out]
          exact (((((((q.far (by simp) _).far (by simp; omega) _).far (by simp; omega) _).far (by simp; omega) _).far (by simp; omega) _).far (by simp; omega) _).far (by simp; omega) _).base (by omega)
        · exact Below.setCell (Below.setCell (Below.setCell (Below.setCell (Below.setCell (Below.setCell (Below.setCell hbel (by simp; omega) _) (by simp) _) (by simp) _) (by simp) _) (by simp) _) (by simp) _) (by simp) _
end Go.Proofs.Ytdaabndngcebgaa
