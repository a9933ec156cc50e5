/- The reading of the program under proof, by its contract. Conditions: a valid matrix, a valid mask. -/
import Derived.Test.YtmhpepicmnjmgaaMatC
namespace Go.Proofs.Ytmhpepicmnjmgaa
open Go.RowKit
set_option linter.unusedVariables false

theorem iread_D {R C k : Nat} (h : Mx R C k) (x : Nat) (hx : x < 2 ^ k) (w : World) :
    Calls Try.prog 41 #[.agg #[.int .i64 R, .int .i64 C, .bool true], .int .i64 x] w fun e w' => e = .returned (.int .i64 (MM.rd true R C x : Nat)) ∧ Below w.heap.size w w' := by
  have h1 : MM.rd true R C x = x := rfl
  rw [h1]; clear h1
  clear hx
  go_enter Try.func41, Try.ntmps41
  go_wp2
  go_ret
  exact ⟨rfl, by (first | (go_grown; done) | (refine below_drewN ?_ _; go_grown; done) | (refine Below.drew (below_drewN ?_ _); go_grown; done))⟩
/-- The array of the rows. -/
def arr (f : Nat → Nat) : Array Value := #[.int .i64 (f 0), .int .i64 (f 1), .int .i64 (f 2), .int .i64 (f 3)]
theorem arr_get (f : Nat → Nat) {i : Nat} (h : i < 4) : (arr f)[i]? = some (.int .i64 (f i)) := by
  match i, h with
  | 0, _ => rfl
  | 1, _ => rfl
  | 2, _ => rfl
  | 3, _ => rfl
theorem arr_set (f : Nat → Nat) {i : Nat} (h : i < 4) (v : Nat) : (arr f).setIfInBounds i (.int .i64 v) = arr (fun r => if r = i then v else f r) := by
  match i, h with
  | 0, _ => rfl
  | 1, _ => rfl
  | 2, _ => rfl
  | 3, _ => rfl
/-- The first k rows are laid. -/
def firstRows (f : Nat → Nat) (k : Nat) : Nat → Nat := fun r => if r < k then f r else 0
theorem firstRows_succ (f : Nat → Nat) (k : Nat) : (fun r => if r = k then f k else firstRows f k r) = firstRows f (k + 1) := by
  funext r
  unfold firstRows
  by_cases e : r = k
  · subst e; simp
  · rw [if_neg e]
    by_cases h : r < k
    · rw [if_pos h, if_pos (by omega)]
    · rw [if_neg h, if_neg (by omega)]
theorem firstRows_all {R C x : Nat} (hx : x < 2 ^ (R * C)) : firstRows (MM.row C x) R = MM.row C x := by
  funext r
  unfold firstRows
  by_cases h : r < R
  · rw [if_pos h]
  · rw [if_neg h]
    unfold MM.row
    have h1 : 2 ^ (R * C) ≤ 2 ^ (r * C) := Nat.pow_le_pow_right (by omega) (Nat.mul_le_mul_right _ (by omega))
    rw [Nat.div_eq_of_lt (by omega), Nat.zero_mod]
theorem l2_or2 {va vb C : Nat} (ha : va < 2 ^ C) (hb : vb < 2 ^ C) (hC : C ≤ 6) : bits .or .i64 (va : Int) (vb : Int) = ((va ||| vb : Nat) : Int) := by
  have h1 : (2 : Nat) ^ C ≤ 2 ^ 6 := Nat.pow_le_pow_right (by omega) hC
  exact i64_or_nat _ _ (by omega) (by omega)
theorem BoxM.far {w : World} {b R C : Nat} {d : Bool} (h : BoxM w b R C d) {p : Addr} (hp : b ≠ p.block) (u : Value) : BoxM (w.setCell p u) b R C d :=
  ⟨(World.cell?_setCell_other w p ⟨b, 0, none⟩ u (fun e => hp (by rw [e]))).trans h.1, (World.cell?_setCell_other w p ⟨b, 1, none⟩ u (fun e => hp (by rw [e]))).trans h.2.1, (World.cell?_setCell_other w p ⟨b, 2, none⟩ u (fun e => hp (by rw [e]))).trans h.2.2⟩
theorem enc_lt24 {R C k b : Nat} {g : Nat → Nat} (h : Mx R C k) (hg : ∀ r, g r < 2 ^ C) (hb : b ≤ R) : MM.enc C g b < 16777216 := by
  have h1 := MM.enc_lt C g hg b
  have h2 : b * C ≤ R * C := Nat.mul_le_mul_right _ hb
  have h6 := h.k24
  rw [h.k] at h6
  have h3 : 2 ^ (b * C) ≤ 2 ^ 24 := Nat.pow_le_pow_right (by omega) (by omega)
  have h4 : (2 : Nat) ^ 24 = 16777216 := by decide
  omega
theorem join_set (f : Nat → Nat) (a b : Nat) (h : ¬ f a &&& f b = 0) : (fun r => if r = a then f a ||| f b else f r) = MM.join f a b := by
  unfold MM.join; rw [if_neg h]
theorem row_facts {R C k a x : Nat} (h : Mx R C k) (ha : a < R) (hx : x < 16777216) :
    IntKind.i64.wrap ((a : Int) * C) = (a : Int) * C ∧ 0 ≤ (a : Int) * C ∧ (a : Int) * C ≤ 64 ∧ ((a : Int) * C).toNat = a * C ∧
    IntKind.i64.wrap ((2 : Int) ^ C - 1) = (2 : Int) ^ C - 1 ∧ bits .and .i64 ((x : Int) / 2 ^ (a * C)) ((2 : Int) ^ C - 1) = ((MM.row C x a : Nat) : Int) := by
  obtain ⟨r0, r1⟩ := l2_rc h ha
  obtain ⟨p1, p2⟩ := pow_rng (k := C) (by have := h.c6; omega)
  refine ⟨IntWalk.i64_in _ ⟨by omega, by omega⟩, r0, by omega, ?_, IntWalk.i64_in _ ⟨by omega, by omega⟩, bits_row x C a hx (by have := h.c6; omega)⟩
  rw [show ((a : Int) * C) = ((a * C : Nat) : Int) from by simp]; exact Int.toNat_natCast _

set_option maxHeartbeats 1000000 in
theorem iread_N {R C k : Nat} (h : Mx R C k) (x : Nat) (hx : x < 2 ^ k) (w : World) :
    Calls Try.prog 41 #[.agg #[.int .i64 R, .int .i64 C, .bool false], .int .i64 x] w fun e w' => e = .returned (.int .i64 (MM.rd false R C x : Nat)) ∧ Below w.heap.size w w' := by
  have hR1 := h.r1
  have hR4 := h.r4
  have hC1 := h.c1
  have hC6 := h.c6
  have hs := shl_one C (by omega)
  have hx24 : x < 16777216 := by
    have h3 : 2 ^ k ≤ 2 ^ 24 := Nat.pow_le_pow_right (by omega) h.k24.1
    have h4 : (2 : Nat) ^ 24 = 16777216 := by decide
    omega
  have Hx := hid hx; clear hx
  have HM := hid h; clear h
  have hfl : ∀ r, MM.row C x r < 2 ^ C := MM.row_lt C x
  have HP := hid hfl; clear hfl
  go_enter Try.func41, Try.ntmps41
  go_wp2
  go_loopw [16] (fun i wr => ∃ j : Nat, j ≤ R ∧ i = .int .i64 j ∧ Blk wr (w.heap.size + 1) 51 (arr (firstRows (MM.row C x) j)) ∧ BoxM wr w.heap.size R C false ∧ Below w.heap.size w wr) (fun i _ => R - (intOf i).toNat)
  case atStart => exact ⟨0, Nat.zero_le _, rfl, by have := Blk.new (w.alloc (.cells #[.int .i64 R, .int .i64 C, .bool false] 25)) 51 #[.int .i64 0, .int .i64 0, .int .i64 0, .int .i64 0]; rw [World.size_alloc] at this; exact this, by
      refine (BoxM.new w R C false 25).below (Below.alloc (Below.refl _ _) (Nat.le_refl _) _), by (first | (go_grown; done) | (refine below_drewN ?_ _; go_grown; done) | (refine Below.drew (below_drewN ?_ _); go_grown; done))⟩
  case round =>
    obtain ⟨j, hj, rfl, hblk, hbox, hbel⟩ := hrel
    by_cases hjR : j < R
    · obtain ⟨t1, t2, t3, t4, t5, t6⟩ := row_facts HM.out hjR hx24
      have hcj := (hblk.cell j).trans (arr_get _ (by omega))
      have hfj := hblk.frozen j
      have hset := hblk.set_ j (.int .i64 (MM.row C x j : Nat))
      rw [arr_set _ (by omega), firstRows_succ] at hset
      have HB := hid hblk; clear hblk
      have HS := hid hset; clear hset
      have HX := hid hbox
      obtain ⟨m0, m1, m2⟩ := hbox
      generalize MM.row C x j = v at t6 HS
      have hj0 : (0 : Int) ≤ (j : Int) := by omega
      have hj4 : (j : Int) < 4 := by omega
      go_wp2
      go_region_held3 (fun w' => w'.cell? ⟨w.heap.size, 0, none⟩ = some (.int .i64 R) ∧ w'.cell? ⟨w.heap.size, 1, none⟩ = some (.int .i64 C) ∧ (w'.cell? ⟨w.heap.size + 1, j, none⟩).isSome = true ∧ w'.frozen? ⟨w.heap.size + 1, j, none⟩ = false) ((and_intros <;> first | assumption | (exact Below.drew (by assumption)) | (simp (maxDischargeDepth := 20) [*]; done) | (simp [*, go_sem]; done))) (fail)
      go_wp2
      go_roundw
      case rel => exact ⟨j + 1, by omega, by go_num, HS.out.drew, ((HX.out.far (p := ⟨w.heap.size + 1, j, none⟩) (by simp) _).drewN 1), Below.drew (Below.setCell hbel (by simp) _)⟩
      case measure => simp [intOf]; omega
    · obtain rfl : j = R := by omega
      have hx' := Hx.out
      rw [HM.out.k] at hx'
      rw [firstRows_all hx'] at hblk
      clear hx' hs
      have hfin : MM.rd false j C x = MM.enc C (MM.inN j (MM.row C x) j) j := rfl
      have HP := HP
      generalize MM.row C x = f at hblk hfin HP
      have HF := hid hfin; clear hfin
      obtain ⟨w0, rfl⟩ : ∃ w0 : World, w0 = wr := ⟨_, rfl⟩
      have HB := hid hblk; clear hblk
      have HX := hid hbox
      obtain ⟨m0, m1, m2⟩ := hbox
      go_wp2
      go_loopw [35] (fun i wr => ∃ n : Nat, n ≤ j ∧ i = .int .i64 n ∧ Blk wr (w.heap.size + 1) 51 (arr (MM.inN j f n)) ∧ BoxM wr w.heap.size j C false ∧ Below w.heap.size w wr) (fun i _ => j - (intOf i).toNat)
      case atStart => exact ⟨0, Nat.zero_le _, rfl, HB.out, HX.out, hbel⟩
      case round =>
        clear m0 m1 m2
        obtain ⟨n, hn, rfl, hblk, hbox, hbel⟩ := hrel
        obtain ⟨m0, m1, m2⟩ := hbox
        by_cases hnR : n < j
        · go_wp2
          obtain ⟨w1, rfl⟩ : ∃ w1 : World, w1 = wr := ⟨_, rfl⟩
          go_loopw [39] (fun i wr => ∃ a : Nat, a ≤ j ∧ i = .int .i64 a ∧ Blk wr (w.heap.size + 1) 51 (arr (MM.inA j (MM.inN j f n) a)) ∧ BoxM wr w.heap.size j C false ∧ Below w.heap.size w wr) (fun i _ => j - (intOf i).toNat)
          case atStart => exact ⟨0, Nat.zero_le _, rfl, hblk, ⟨m0, m1, m2⟩, hbel⟩
          case round =>
            clear m0 m1 m2
            obtain ⟨a, ha, rfl, hblk, hbox, hbel⟩ := hrel
            obtain ⟨m0, m1, m2⟩ := hbox
            by_cases haR : a < j
            · go_wp2
              obtain ⟨w2, rfl⟩ : ∃ w2 : World, w2 = wr := ⟨_, rfl⟩
              go_loopw [44] (fun i wr => ∃ b : Nat, b ≤ j ∧ i = .int .i64 b ∧ Blk wr (w.heap.size + 1) 51 (arr (MM.inB (MM.inA j (MM.inN j f n) a) a b)) ∧ BoxM wr w.heap.size j C false ∧ Below w.heap.size w wr) (fun i _ => j - (intOf i).toNat)
              case atStart => exact ⟨0, Nat.zero_le _, rfl, hblk, ⟨m0, m1, m2⟩, hbel⟩
              case round =>
                clear m0 m1 m2
                obtain ⟨b, hb, rfl, hblk, hbox, hbel⟩ := hrel
                by_cases hbR : b < j
                · have hgl : ∀ r, MM.inB (MM.inA j (MM.inN j f n) a) a b r < 2 ^ C := MM.inB_lt (f := MM.inA j (MM.inN j f n) a) (MM.inA_lt (f := MM.inN j f n) (R := j) (MM.inN_lt (f := f) (R := j) HP.out n) a) a b
                  have hnext : MM.inB (MM.inA j (MM.inN j f n) a) a (b + 1) = MM.join (MM.inB (MM.inA j (MM.inN j f n) a) a b) a b := rfl
                  generalize MM.inB (MM.inA j (MM.inN j f n) a) a b = g at hgl hnext hblk
                  have HN := hid hnext; clear hnext
                  have hA := hgl a
                  have hV := hgl b
                  have hca := (hblk.cell a).trans (arr_get g (by omega))
                  have hcb := (hblk.cell b).trans (arr_get g (by omega))
                  have hfa := hblk.frozen a
                  have ha0 : (0 : Int) ≤ (a : Int) := by omega
                  have ha4 : (a : Int) < 4 := by omega
                  have hb0 : (0 : Int) ≤ (b : Int) := by omega
                  have hb4 : (b : Int) < 4 := by omega
                  have HX := hid hbox
                  obtain ⟨m0, m1, m2⟩ := hbox
                  by_cases hz : g a &&& g b = 0
                  · have e0 := l2_and0 hA hV (by omega) hz
                    have hj : MM.join g a b = g := by unfold MM.join; rw [if_pos hz]
                    have HJ := hid hj; clear hj
                    have HB := hid hblk; clear hblk
                    clear hz hA hV hgl
                    generalize g a = va at hca e0
                    generalize g b = vb at hcb e0
                    go_wp2
                    go_quiet (fail)
                    go_wp2
                    go_roundw
                    case rel => exact ⟨b + 1, by omega, by go_num, by rw [HN.out, HJ.out]; exact HB.out.drewN _, HX.out.drewN _, below_drewN hbel _⟩
                    case measure => simp [intOf]; omega
                  · have e0 := l2_and1 hA hV (by omega) hz
                    have e1 : (bits .and .i64 (g a : Int) (g b : Int) != 0) = true := by simpa using e0
                    have hset := hblk.set_ a (.int .i64 (g a ||| g b : Nat))
                    rw [arr_set _ (by omega), join_set g a b hz] at hset
                    have e2 := l2_or2 hA hV (by omega)
                    have HS := hid hset; clear hset
                    have HB := hid hblk; clear hblk
                    have HE := hid e0; clear e0
                    clear hz hA hV hgl
                    generalize g a ||| g b = vc at HS e2
                    generalize g a = va at hca e1 e2
                    generalize g b = vb at hcb e1 e2
                    go_wp2
                    go_quiet (fail)
                    go_wp2
                    go_region
                    go_wp2
                    go_roundw
                    case rel => exact ⟨b + 1, by omega, by go_num, by rw [HN.out]; exact HS.out, (HX.out.drewN _).far (by simp) _, Below.setCell (below_drewN hbel _) (by simp) _⟩
                    case measure => simp [intOf]; omega
                · obtain ⟨m0, m1, m2⟩ := hbox
                  obtain rfl : b = j := by omega
                  go_wp2
                  go_roundw
                  case rel => exact ⟨a + 1, by omega, by go_num, hblk, ⟨m0, m1, m2⟩, hbel⟩
                  case measure => simp [intOf]; omega
            · obtain rfl : a = j := by omega
              go_wp2
              go_roundw
              case rel => exact ⟨n + 1, by omega, by go_num, hblk, ⟨m0, m1, m2⟩, hbel⟩
              case measure => simp [intOf]; omega
        · obtain rfl : n = j := by omega
          have hgl : ∀ r, MM.inN n f n r < 2 ^ C := MM.inN_lt (f := f) (R := n) HP.out n
          generalize MM.inN n f n = g at hgl hblk HF
          have HG := hid hgl; clear hgl
          obtain ⟨w1, rfl⟩ : ∃ w1 : World, w1 = wr := ⟨_, rfl⟩
          go_wp2
          go_loopw [9, 68] (fun o i wr => ∃ b : Nat, b ≤ n ∧ i = .int .i64 b ∧ o = .int .i64 (MM.enc C g b : Nat) ∧ Blk wr (w.heap.size + 1) 51 (arr g) ∧ BoxM wr w.heap.size n C false ∧ Below w.heap.size w wr) (fun _ i _ => n - (intOf i).toNat)
          case atStart => exact ⟨0, Nat.zero_le _, rfl, rfl, hblk, ⟨m0, m1, m2⟩, hbel⟩
          case round =>
            clear m0 m1 m2
            obtain ⟨b, hb, rfl, rfl, hblk, hbox, hbel⟩ := hrel
            by_cases hbR : b < n
            · have hol := enc_lt24 HM.out HG.out (show b ≤ n from hb)
              have hV := HG.out b
              have hnext : MM.enc C g (b + 1) = MM.enc C g b ||| g b <<< (b * C) := rfl
              obtain ⟨q0, q1, q2⟩ := l2_or hol hV HM.out hbR
              generalize MM.enc C g b = o at hol hnext q2
              have HN := hid hnext; clear hnext
              have HB := hid hblk
              have HX := hid hbox
              have hcb := (hblk.cell b).trans (arr_get g (by omega))
              clear hblk
              have hb0 : (0 : Int) ≤ (b : Int) := by omega
              have hb4 : (b : Int) < 4 := by omega
              obtain ⟨m0, m1, m2⟩ := hbox
              have HV := hid hV; clear hV
              generalize g b = vb at hcb q0 q1 q2 HN HV
              obtain ⟨t1, r0, r2, t2, _, _⟩ := row_facts (x := 0) HM.out hbR (by omega)
              have t3 : IntKind.i64.wrap ((vb : Int) * 2 ^ (b * C)) = (vb : Int) * 2 ^ (b * C) := IntWalk.i64_in _ ⟨by omega, by omega⟩
              go_wp2
              go_quiet (fail)
              go_wp2
              go_roundw
              case rel => exact ⟨b + 1, by omega, by go_num, by rw [HN.out], HB.out.drewN _, HX.out.drewN _, below_drewN hbel _⟩
              case measure => simp [intOf]; omega
            · obtain rfl : b = n := by omega
              go_wp2
              go_ret
              exact ⟨ret_int (by rw [HF.out]), hbel⟩
theorem iread_any {R C k : Nat} (h : Mx R C k) (d : Bool) (x : Nat) (hx : x < 2 ^ k) (w : World) :
    Calls Try.prog 41 #[.agg #[.int .i64 R, .int .i64 C, .bool d], .int .i64 x] w fun e w' => e = .returned (.int .i64 (MM.rd d R C x : Nat)) ∧ Below w.heap.size w w' := by
  cases d with
  | true => exact iread_D h x hx w
  | false => exact iread_N h x hx w
theorem sread_any {R C k : Nat} (h : Mx R C k) (d : Bool) (x : Nat) (hx : x < 2 ^ k) (w : World) :
    Calls Try.prog 42 #[.agg #[.int .i64 R, .int .i64 C, .bool d], .int .i64 x] w fun e w' => e = .returned (.int .i64 (MM.rd d R C x : Nat)) ∧ Below w.heap.size w w' := by
  cases d with
  | true => exact sl2Read_D h x hx w
  | false => exact sl2Read_N h x hx w
end Go.Proofs.Ytmhpepicmnjmgaa
