/- The law that DebounceRun answers as the reference. Conditions: none of its own. -/
import Derived.Test.YtdaabndngcebgaaDebK
import Derived.Test.YtdaabndngcebgaaDebW
import Derived.Deep.DeepCutAuto
namespace Go.Proofs.Ytdaabndngcebgaa
open Go.RowKit
set_option linter.unusedVariables false

set_option maxHeartbeats 1000000 in
theorem iRun_bad (kd t ks sh la : Int) (xs : List Int) {w : World} {A : Option Addr} {m cap : Nat} (h : RdI w A m xs) (hm : m ≤ 1048576) {B : Option Addr} {n cb : Nat} (hn : n ≤ 1048576) (hno : ¬ (DbOk kd t ks sh la xs ∧ n ≤ 200)) :
    Calls Try.prog 21 #[dbV kd t ks sh la A m cap, .slice B n cb] w (RanR w 0 0 0 0 0 [] [] false) := by
  have HR := hid h; clear h
  by_cases hok : DbOk kd t ks sh la xs
  · have h200 : 200 < n := by
      by_cases h : n ≤ 200
      · exact absurd ⟨hok, h⟩ hno
      · omega
    have HI := hid (fun (w : World) (A : Option Addr) (c : Nat) (h : RdI w A m xs) => iIsDebouncer_any (cap := c) h hm kd t ks sh la true ⟨fun _ => hok, fun _ => rfl⟩)
    clear hno hok
    go_enter Try.func21, Try.ntmps21
    go_wp2_with (go_at_call 27; (with_reducible refine (HI.out _ _ _ (((HR.out.alloc _).alloc _))).mono ?_); rintro e w1 ⟨rfl, hb1⟩; have HBB := hid hb1; obtain ⟨hc1, hf1, hz1, hd1⟩ := bcell hb1; (try simp at hz1); replace hb1 := Below.via (B := w.heap.size) (a := w) (by (first | (go_grown; done) | (refine below_drewN ?_ _; go_grown; done) | (refine Below.drew (below_drewN ?_ _); go_grown; done))) hb1 (by go_size); (try have hy1 : w.heap.size < w1.heap.size := by omega); (try have hyy1 : w.heap.size + 1 < w1.heap.size := by omega))
    have q0 := (Blk.new (w.alloc (.cells #[.int .i64 kd, .int .i64 t, .int .i64 ks, .int .i64 sh, .int .i64 la, .slice A m cap] 33)) 33 #[.int .i64 0, .int .i64 0, .int .i64 0, .int .i64 0, .int .i64 0, .slice none 0 0]).bel HBB.out
    rw [World.size_alloc] at q0
    refine retD3r Try.results21 rfl rfl rfl rfl (g := w.heap.size + 1) (v0 := .int .i64 0) (v1 := .int .i64 0) (v2 := .int .i64 0) (v3 := .int .i64 0) (v4 := .int .i64 0) (v5 := .slice none 0 0) ?_ ?_
    · exact (((((q0.set_ 0 _).set_ 1 _).set_ 2 _).set_ 3 _).set_ 4 _).set_ 5 _
    · exact ⟨none, 0, none, 0, rfl, ⟨⟨rfl, World.ownsRow_nil _ _ _ _⟩, ⟨rfl, World.ownsRow_nil _ _ _ _⟩, .inl rfl⟩, by (first | (go_grown; done) | (refine below_drewN ?_ _; go_grown; done) | (refine Below.drew (below_drewN ?_ _); go_grown; done))⟩
  · have HI := hid (fun (w : World) (A : Option Addr) (c : Nat) (h : RdI w A m xs) => iIsDebouncer_any (cap := c) h hm kd t ks sh la false ⟨(fun e => by cases e), fun e => absurd e hok⟩)
    clear hno hok
    go_enter Try.func21, Try.ntmps21
    go_wp2_with (go_at_call 27; (with_reducible refine (HI.out _ _ _ (((HR.out.alloc _).alloc _))).mono ?_); rintro e w1 ⟨rfl, hb1⟩; have HBB := hid hb1; obtain ⟨hc1, hf1, hz1, hd1⟩ := bcell hb1; (try simp at hz1); replace hb1 := Below.via (B := w.heap.size) (a := w) (by (first | (go_grown; done) | (refine below_drewN ?_ _; go_grown; done) | (refine Below.drew (below_drewN ?_ _); go_grown; done))) hb1 (by go_size); (try have hy1 : w.heap.size < w1.heap.size := by omega); (try have hyy1 : w.heap.size + 1 < w1.heap.size := by omega))
    have q0 := (Blk.new (w.alloc (.cells #[.int .i64 kd, .int .i64 t, .int .i64 ks, .int .i64 sh, .int .i64 la, .slice A m cap] 33)) 33 #[.int .i64 0, .int .i64 0, .int .i64 0, .int .i64 0, .int .i64 0, .slice none 0 0]).bel HBB.out
    rw [World.size_alloc] at q0
    refine retD3r Try.results21 rfl rfl rfl rfl (g := w.heap.size + 1) (v0 := .int .i64 0) (v1 := .int .i64 0) (v2 := .int .i64 0) (v3 := .int .i64 0) (v4 := .int .i64 0) (v5 := .slice none 0 0) ?_ ?_
    · exact (((((q0.set_ 0 _).set_ 1 _).set_ 2 _).set_ 3 _).set_ 4 _).set_ 5 _
    · exact ⟨none, 0, none, 0, rfl, ⟨⟨rfl, World.ownsRow_nil _ _ _ _⟩, ⟨rfl, World.ownsRow_nil _ _ _ _⟩, .inl rfl⟩, by (first | (go_grown; done) | (refine below_drewN ?_ _; go_grown; done) | (refine Below.drew (below_drewN ?_ _); go_grown; done))⟩
set_option maxHeartbeats 1000000 in
theorem sRun_bad (kd t ks sh la : Int) (xs : List Int) {w : World} {A : Option Addr} {m cap : Nat} (h : RdI w A m xs) (hm : m ≤ 1048576) {B : Option Addr} {n cb : Nat} (hn : n ≤ 1048576) (hno : ¬ (DbOk kd t ks sh la xs ∧ n ≤ 200)) :
    Calls Try.prog 36 #[dbV kd t ks sh la A m cap, .slice B n cb] w (RanR w 0 0 0 0 0 [] [] false) := by
  have HR := hid h; clear h
  by_cases hok : DbOk kd t ks sh la xs
  · have h200 : 200 < n := by
      by_cases h : n ≤ 200
      · exact absurd ⟨hok, h⟩ hno
      · omega
    have HI := hid (fun (w : World) (A : Option Addr) (c : Nat) (h : RdI w A m xs) => sIsDebouncer_any (cap := c) h hm kd t ks sh la true ⟨fun _ => hok, fun _ => rfl⟩)
    clear hno hok
    go_enter Try.func36, Try.ntmps36
    go_wp2_with (go_at_call 25; (with_reducible refine (HI.out _ _ _ (((HR.out.alloc _).alloc _))).mono ?_); rintro e w1 ⟨rfl, hb1⟩; have HBB := hid hb1; obtain ⟨hc1, hf1, hz1, hd1⟩ := bcell hb1; (try simp at hz1); replace hb1 := Below.via (B := w.heap.size) (a := w) (by (first | (go_grown; done) | (refine below_drewN ?_ _; go_grown; done) | (refine Below.drew (below_drewN ?_ _); go_grown; done))) hb1 (by go_size); (try have hy1 : w.heap.size < w1.heap.size := by omega); (try have hyy1 : w.heap.size + 1 < w1.heap.size := by omega); have q1 := Blk.bel (Blk.new1 w (.cells #[.int .i64 kd, .int .i64 t, .int .i64 ks, .int .i64 sh, .int .i64 la, .slice A m cap] 33) 33 #[.int .i64 0, .int .i64 0, .int .i64 0, .int .i64 0, .int .i64 0, .slice none 0 0]) HBB.out; have HQ := hid q1; have y0 := fun o => (q1.alloc o).six.1; have y1 := fun o => (q1.alloc o).six.2.1; have y2 := fun o => (q1.alloc o).six.2.2.1; have y3 := fun o => (q1.alloc o).six.2.2.2.1; have y4 := fun o => (q1.alloc o).six.2.2.2.2.1; have y5 := fun o => (q1.alloc o).six.2.2.2.2.2; have g0 := fun o => (q1.alloc o).frozen 0; have g1 := fun o => (q1.alloc o).frozen 1; have g2 := fun o => (q1.alloc o).frozen 2; have g3 := fun o => (q1.alloc o).frozen 3; have g4 := fun o => (q1.alloc o).frozen 4; have g5 := fun o => (q1.alloc o).frozen 5; have HZ := hid hz1; have HBW := hid hb1; clear q1 hc1 hf1 hd1 hy1 hyy1 hz1 hb1)
    have hz1 := HZ.out
    have hb1 := HBW.out
    have q0 := HQ.out.alloc (.cells #[] 3)
    refine retD3r Try.results36 rfl rfl rfl rfl (g := w.heap.size + 1) (v0 := .int .i64 0) (v1 := .int .i64 0) (v2 := .int .i64 0) (v3 := .int .i64 0) (v4 := .int .i64 0) (v5 := .slice none 0 0) ?_ ?_
    · exact (((((q0.set_ 0 _).set_ 1 _).set_ 2 _).set_ 3 _).set_ 4 _).set_ 5 _
    · refine ⟨none, 0, some ⟨w1.heap.size, 0, none⟩, 0, rfl, ⟨⟨rfl, World.ownsRow_nil _ _ _ _⟩, ⟨rfl, ?_⟩, .inl rfl⟩, by (first | (go_grown; done) | (refine below_drewN ?_ _; go_grown; done) | (refine Below.drew (below_drewN ?_ _); go_grown; done))⟩
      have q := World.ownsRow_lit (base := w1.heap.size) (e := 3) (size := 1) w1 #[] 0 (Nat.le_refl _) (by unfold maxLen; omega) (by simp)
      exact ownsRow_base (ownsRow_far (ownsRow_far (ownsRow_far (ownsRow_far (ownsRow_far (ownsRow_far q (by simp; omega) _) (by simp; omega) _) (by simp; omega) _) (by simp; omega) _) (by simp; omega) _) (by simp; omega) _) (by omega)
  · have HI := hid (fun (w : World) (A : Option Addr) (c : Nat) (h : RdI w A m xs) => sIsDebouncer_any (cap := c) h hm kd t ks sh la false ⟨(fun e => by cases e), fun e => absurd e hok⟩)
    clear hno hok
    go_enter Try.func36, Try.ntmps36
    go_wp2_with (go_at_call 25; (with_reducible refine (HI.out _ _ _ (((HR.out.alloc _).alloc _))).mono ?_); rintro e w1 ⟨rfl, hb1⟩; have HBB := hid hb1; obtain ⟨hc1, hf1, hz1, hd1⟩ := bcell hb1; (try simp at hz1); replace hb1 := Below.via (B := w.heap.size) (a := w) (by (first | (go_grown; done) | (refine below_drewN ?_ _; go_grown; done) | (refine Below.drew (below_drewN ?_ _); go_grown; done))) hb1 (by go_size); (try have hy1 : w.heap.size < w1.heap.size := by omega); (try have hyy1 : w.heap.size + 1 < w1.heap.size := by omega); have q1 := Blk.bel (Blk.new1 w (.cells #[.int .i64 kd, .int .i64 t, .int .i64 ks, .int .i64 sh, .int .i64 la, .slice A m cap] 33) 33 #[.int .i64 0, .int .i64 0, .int .i64 0, .int .i64 0, .int .i64 0, .slice none 0 0]) HBB.out; have HQ := hid q1; have y0 := fun o => (q1.alloc o).six.1; have y1 := fun o => (q1.alloc o).six.2.1; have y2 := fun o => (q1.alloc o).six.2.2.1; have y3 := fun o => (q1.alloc o).six.2.2.2.1; have y4 := fun o => (q1.alloc o).six.2.2.2.2.1; have y5 := fun o => (q1.alloc o).six.2.2.2.2.2; have g0 := fun o => (q1.alloc o).frozen 0; have g1 := fun o => (q1.alloc o).frozen 1; have g2 := fun o => (q1.alloc o).frozen 2; have g3 := fun o => (q1.alloc o).frozen 3; have g4 := fun o => (q1.alloc o).frozen 4; have g5 := fun o => (q1.alloc o).frozen 5; have HZ := hid hz1; have HBW := hid hb1; clear q1 hc1 hf1 hd1 hy1 hyy1 hz1 hb1)
    have hz1 := HZ.out
    have hb1 := HBW.out
    have q0 := HQ.out.alloc (.cells #[] 3)
    refine retD3r Try.results36 rfl rfl rfl rfl (g := w.heap.size + 1) (v0 := .int .i64 0) (v1 := .int .i64 0) (v2 := .int .i64 0) (v3 := .int .i64 0) (v4 := .int .i64 0) (v5 := .slice none 0 0) ?_ ?_
    · exact (((((q0.set_ 0 _).set_ 1 _).set_ 2 _).set_ 3 _).set_ 4 _).set_ 5 _
    · refine ⟨none, 0, some ⟨w1.heap.size, 0, none⟩, 0, rfl, ⟨⟨rfl, World.ownsRow_nil _ _ _ _⟩, ⟨rfl, ?_⟩, .inl rfl⟩, by (first | (go_grown; done) | (refine below_drewN ?_ _; go_grown; done) | (refine Below.drew (below_drewN ?_ _); go_grown; done))⟩
      have q := World.ownsRow_lit (base := w1.heap.size) (e := 3) (size := 1) w1 #[] 0 (Nat.le_refl _) (by unfold maxLen; omega) (by simp)
      exact ownsRow_base (ownsRow_far (ownsRow_far (ownsRow_far (ownsRow_far (ownsRow_far (ownsRow_far q (by simp; omega) _) (by simp; omega) _) (by simp; omega) _) (by simp; omega) _) (by simp; omega) _) (by simp; omega) _) (by omega)
theorem run_all (kd t ks sh la : Int) (xs zs : List Int) (hx : xs.length ≤ 1048576) (hz : zs.length ≤ 1048576) : ∃ (kd' t' ks' sh' la' : Int) (ys os : List Int) (ok : Bool), ys.length ≤ 24 ∧ os.length ≤ 200 ∧
    (∀ (w : World) (A : Option Addr) (cap : Nat) (B : Option Addr) (cb : Nat), RdI w A xs.length xs → RdI w B zs.length zs → Calls Try.prog 21 #[dbV kd t ks sh la A xs.length cap, .slice B zs.length cb] w (RanR w kd' t' ks' sh' la' ys os ok)) ∧
    (∀ (w : World) (A : Option Addr) (cap : Nat) (B : Option Addr) (cb : Nat), RdI w A xs.length xs → RdI w B zs.length zs → Calls Try.prog 36 #[dbV kd t ks sh la A xs.length cap, .slice B zs.length cb] w (RanR w kd' t' ks' sh' la' ys os ok)) := by
  by_cases hok : DbOk kd t ks sh la xs ∧ zs.length ≤ 200
  · obtain ⟨hd, hn⟩ := hok
    have hh := hd.head
    obtain ⟨kd, rfl⟩ := Int.eq_ofNat_of_zero_le (show 0 ≤ kd from hh.kd0)
    obtain ⟨t, rfl⟩ := Int.eq_ofNat_of_zero_le (show 0 ≤ t by have := hh.t0; omega)
    obtain ⟨ks, rfl⟩ := Int.eq_ofNat_of_zero_le (show 0 ≤ ks by have := hh.ks0; omega)
    obtain ⟨sh, rfl⟩ := Int.eq_ofNat_of_zero_le hd.sh0
    obtain ⟨la, rfl⟩ := Int.eq_ofNat_of_zero_le hd.la0
    have hl : xs.length = ks := by have := hh.len; omega
    have e2 : (2 : Int) ^ (ks : Int).toNat = ((2 ^ ks : Nat) : Int) := by simp
    have a1 := hd.sh1
    have a2 := hd.la1
    rw [e2] at a1 a2
    have hO : (DB.St.mk kd t ks sh la xs).Ok := by
      have b1 := hh.kd1
      have b2 := hh.t0
      have b3 := hh.t1
      have b4 := hh.ks0
      have b5 := hh.ks1
      exact ⟨by simp only; omega, by simp only; omega, by simp only; omega, by simp only; omega, by simp only; omega, hl, by simp only; omega, by simp only; omega, hd.ages⟩
    have hk24 : ks ≤ 24 := hO.keys1
    by_cases hall : ∀ i, i < zs.length → okS ks (zs.getD i 0)
    · have hlt := nz_lt hall (Nat.le_refl _)
      have hr : RunOut (DB.St.mk kd t ks sh la xs) zs true kd t ks (DB.run (DB.St.mk kd t ks sh la xs) (nz zs zs.length)).shown (DB.run (DB.St.mk kd t ks sh la xs) (nz zs zs.length)).last (DB.run (DB.St.mk kd t ks sh la xs) (nz zs zs.length)).ages (nats (DB.shows (DB.St.mk kd t ks sh la xs) (nz zs zs.length))) :=
        ⟨⟨fun _ => ⟨hn, hall⟩, fun _ => rfl⟩, fun _ => ⟨rfl, rfl, rfl, rfl, rfl, rfl, rfl⟩, fun e => (by cases e)⟩
      have hag : (DB.run (DB.St.mk kd t ks sh la xs) (nz zs zs.length)).ages.length = ks := (run_mk hO hlt).len
      have hos : (nats (DB.shows (DB.St.mk kd t ks sh la xs) (nz zs zs.length))).length = zs.length := by
        unfold nats nz; rw [List.length_map, DB.shows_length, List.length_map, List.length_take]; omega
      refine ⟨kd, t, ks, (DB.run (DB.St.mk kd t ks sh la xs) (nz zs zs.length)).shown, (DB.run (DB.St.mk kd t ks sh la xs) (nz zs zs.length)).last, (DB.run (DB.St.mk kd t ks sh la xs) (nz zs zs.length)).ages, nats (DB.shows (DB.St.mk kd t ks sh la xs) (nz zs zs.length)), true, by rw [hag]; exact hk24, by rw [hos]; exact hn, fun w A cap B cb h1 h2 => ?_, fun w A cap B cb h1 h2 => ?_⟩
      · rw [hl] at h1 ⊢
        exact iRun_ok (DB.St.mk kd t ks sh la xs) hO h1 h2 hn hr
      · rw [hl] at h1 ⊢
        exact sRun_ok (DB.St.mk kd t ks sh la xs) hO h1 h2 hn hr
    · have hr : RunOut (DB.St.mk kd t ks sh la xs) zs false 0 0 0 0 0 [] [] :=
        ⟨⟨(fun e => by cases e), fun h => absurd h.2 hall⟩, (fun e => by cases e), fun _ => ⟨rfl, rfl, rfl, rfl, rfl, rfl, rfl⟩⟩
      refine ⟨0, 0, 0, 0, 0, [], [], false, by simp, by simp, fun w A cap B cb h1 h2 => ?_, fun w A cap B cb h1 h2 => ?_⟩
      · rw [hl] at h1 ⊢
        exact iRun_ok (DB.St.mk kd t ks sh la xs) hO h1 h2 hn hr
      · rw [hl] at h1 ⊢
        exact sRun_ok (DB.St.mk kd t ks sh la xs) hO h1 h2 hn hr
  · exact ⟨0, 0, 0, 0, 0, [], [], false, by simp, by simp, fun w A cap B cb h1 h2 => iRun_bad kd t ks sh la xs h1 hx hz hok, fun w A cap B cb h1 h2 => sRun_bad kd t ks sh la xs h1 hx hz hok⟩
end Go.Proofs.Ytdaabndngcebgaa
