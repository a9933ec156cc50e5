/- Actions as texts: by contract in both programs. Conditions: the library's table and MaxLen as the cards give them. -/
import Derived.Test.YtpfocjdhjkifmaaDoorActA
import Derived.Test.YtpfocjdhjkifmaaDoorActT
import Derived.Test.YtpfocjdhjkifmaaDoorNamA
import Derived.Test.YtpfocjdhjkifmaaDoorFmtI
import Derived.Lib.QuietBelow
namespace Go.Proofs.YtpfocjdhjkifmaaDoor
open Go.RowKit Go.BigFrame
open Go.Sort (grow)
set_option linter.unusedVariables false

/-- The text of an action of kind k. -/
def fT (k c m n : Int) : List UInt8 :=
  if k = 0 then [110, 111, 110, 101] else if k = 1 then [112, 97, 115, 115] else if k = 10 then [99, 97, 112, 115]
  else if k = 2 then (if m = 0 then cnm c else TX.fmT m ++ 45 :: cnm c)
  else if k = 3 then [109, 111, 58] ++ Lib.itoa n else if k = 4 then [116, 103, 58] ++ Lib.itoa n else if k = 5 then [116, 111, 58] ++ Lib.itoa n
  else if k = 6 then TX.fmT m ++ 47 :: cnm c else if k = 7 then Lib.itoa n ++ 47 :: cnm c
  else if k = 8 then [111, 110, 99, 101, 58] ++ TX.fmT m else [109, 97, 99, 114, 111, 58] ++ Lib.itoa n
def faL (k c m n : Int) : List UInt8 := if isAct k c m n then fT k c m n else []
theorem fmL_len (m : Int) : ∀ j, (TX.fmL m j).length ≤ j
  | 0 => Nat.le_refl _
  | j + 1 => by rw [fmL_bit]; have := fmL_len m j; split <;> simp <;> omega
theorem fmT_len (m : Int) : (TX.fmT m).length ≤ 4 := by
  unfold TX.fmT; split
  · exact fmL_len m 4
  · simp
theorem nm_len : nmL.all (fun x => decide (x.length ≤ 5)) = true := by kernel_rfl
theorem cnm_len (c : Int) : (cnm c).length ≤ 5 := by
  unfold cnm; split
  · rw [List.getD_eq_getElem?_getD]
    cases h : nmL[(c - 1).toNat]? with
    | none => simp
    | some x => have := List.all_eq_true.1 nm_len x (List.mem_of_getElem? h); simpa using this
  · simp
theorem st3 (a : List UInt8) (x : UInt8) (b : List UInt8) : st a ++ ByteArray.mk #[x] ++ st b = st (a ++ x :: b) := by
  have : ByteArray.mk #[x] = st [x] := rfl
  rw [this, st_append, st_append]; simp
theorem sz2 (a b : List UInt8) (h : a.length + b.length ≤ 100) : ¬ ((st a).size + (st b).size > 9223372036854775807) := by rw [st_size, st_size]; omega
-- KINDS
theorem iWordOf_3 (w : World) : Calls Tryd.prog 57 #[.int .i64 3] w fun e w' => e = .returned (.string (st [109, 111, 58])) ∧ w = w' := by
  go_enter Tryd.func57, Tryd.ntmps57
  go_wp2
  go_ret
  exact ⟨rfl, rfl⟩
theorem iWordOf_4 (w : World) : Calls Tryd.prog 57 #[.int .i64 4] w fun e w' => e = .returned (.string (st [116, 103, 58])) ∧ w = w' := by
  go_enter Tryd.func57, Tryd.ntmps57
  go_wp2
  go_ret
  exact ⟨rfl, rfl⟩
theorem iWordOf_5 (w : World) : Calls Tryd.prog 57 #[.int .i64 5] w fun e w' => e = .returned (.string (st [116, 111, 58])) ∧ w = w' := by
  go_enter Tryd.func57, Tryd.ntmps57
  go_wp2
  go_ret
  exact ⟨rfl, rfl⟩
theorem iWordOf_9 (w : World) : Calls Tryd.prog 57 #[.int .i64 9] w fun e w' => e = .returned (.string (st [109, 97, 99, 114, 111, 58])) ∧ w = w' := by
  go_enter Tryd.func57, Tryd.ntmps57
  go_wp2
  go_ret
  exact ⟨rfl, rfl⟩
set_option maxRecDepth 100000 in
theorem iFA_0 (c m n : Int) (hr : rng m) (hn : rng n) (h : isAct 0 c m n = true) {w : World} (hp : Pow10 w) (hm : MaxL w) : Calls Tryd.prog 27 #[actW 0 c m n] w fun e w' => e = .returned (.string (st ([110, 111, 110, 101]))) ∧ Below w.heap.size w w' := by
  have HA := hid (h ▸ iIsAction_0 c m n)
  have HM := hid hm
  have HP := hid hp
  clear h hm hp hr hn
  go_enter Tryd.func27, Tryd.ntmps27
  go_wp2_with fail
  refine (HA.out _).mono ?_
  rintro e w1 ⟨rfl, hb1⟩
  have hbx := (Blk.new w 38 #[.int .i64 0, .int .i64 c, .int .i64 m, .int .i64 n]).bel hb1
  have r0 := hbx.cell 0
  have r1 := hbx.cell 1
  have r2 := hbx.cell 2
  have r3 := hbx.cell 3
  have HM1 := hid (HM.out.below (Below.step ((Below.refl w.heap.size w).alloc (Nat.le_refl _) _) hb1))
  have HP1 := hid (TabIs_below HP.out (Below.step ((Below.refl w.heap.size w).alloc (Nat.le_refl _) _) hb1))
  have hB1 := hid (Below.step ((Below.refl w.heap.size w).alloc (Nat.le_refl _) _) hb1)
  simp only [List.getElem?_toArray, List.getElem?_cons_zero, List.getElem?_cons_succ] at r0 r1 r2 r3
  clear hbx hb1
  go_wp2
  go_ret
  exact ⟨rfl, hB1.out⟩
set_option maxRecDepth 100000 in
theorem iFA_1 (c m n : Int) (hr : rng m) (hn : rng n) (h : isAct 1 c m n = true) {w : World} (hp : Pow10 w) (hm : MaxL w) : Calls Tryd.prog 27 #[actW 1 c m n] w fun e w' => e = .returned (.string (st ([112, 97, 115, 115]))) ∧ Below w.heap.size w w' := by
  have HA := hid (h ▸ iIsAction_1 c m n)
  have HM := hid hm
  have HP := hid hp
  clear h hm hp hr hn
  go_enter Tryd.func27, Tryd.ntmps27
  go_wp2_with fail
  refine (HA.out _).mono ?_
  rintro e w1 ⟨rfl, hb1⟩
  have hbx := (Blk.new w 38 #[.int .i64 1, .int .i64 c, .int .i64 m, .int .i64 n]).bel hb1
  have r0 := hbx.cell 0
  have r1 := hbx.cell 1
  have r2 := hbx.cell 2
  have r3 := hbx.cell 3
  have HM1 := hid (HM.out.below (Below.step ((Below.refl w.heap.size w).alloc (Nat.le_refl _) _) hb1))
  have HP1 := hid (TabIs_below HP.out (Below.step ((Below.refl w.heap.size w).alloc (Nat.le_refl _) _) hb1))
  have hB1 := hid (Below.step ((Below.refl w.heap.size w).alloc (Nat.le_refl _) _) hb1)
  simp only [List.getElem?_toArray, List.getElem?_cons_zero, List.getElem?_cons_succ] at r0 r1 r2 r3
  clear hbx hb1
  go_wp2
  go_ret
  exact ⟨rfl, hB1.out⟩
set_option maxRecDepth 100000 in
theorem iFA_10 (c m n : Int) (hr : rng m) (hn : rng n) (h : isAct 10 c m n = true) {w : World} (hp : Pow10 w) (hm : MaxL w) : Calls Tryd.prog 27 #[actW 10 c m n] w fun e w' => e = .returned (.string (st ([99, 97, 112, 115]))) ∧ Below w.heap.size w w' := by
  have HA := hid (h ▸ iIsAction_10 c m n)
  have HM := hid hm
  have HP := hid hp
  clear h hm hp hr hn
  go_enter Tryd.func27, Tryd.ntmps27
  go_wp2_with fail
  refine (HA.out _).mono ?_
  rintro e w1 ⟨rfl, hb1⟩
  have hbx := (Blk.new w 38 #[.int .i64 10, .int .i64 c, .int .i64 m, .int .i64 n]).bel hb1
  have r0 := hbx.cell 0
  have r1 := hbx.cell 1
  have r2 := hbx.cell 2
  have r3 := hbx.cell 3
  have HM1 := hid (HM.out.below (Below.step ((Below.refl w.heap.size w).alloc (Nat.le_refl _) _) hb1))
  have HP1 := hid (TabIs_below HP.out (Below.step ((Below.refl w.heap.size w).alloc (Nat.le_refl _) _) hb1))
  have hB1 := hid (Below.step ((Below.refl w.heap.size w).alloc (Nat.le_refl _) _) hb1)
  simp only [List.getElem?_toArray, List.getElem?_cons_zero, List.getElem?_cons_succ] at r0 r1 r2 r3
  clear hbx hb1
  go_wp2
  go_ret
  exact ⟨rfl, hB1.out⟩
set_option maxRecDepth 100000 in
theorem iFA_2a (c m n : Int) (hm0 : ¬ m = 0) (hr : rng m) (hn : rng n) (h : isAct 2 c m n = true) {w : World} (hp : Pow10 w) (hm : MaxL w) : Calls Tryd.prog 27 #[actW 2 c m n] w fun e w' => e = .returned (.string (st (TX.fmT m ++ 45 :: cnm c))) ∧ Below w.heap.size w w' := by
  have HA := hid (h ▸ iIsAction_2 c m n)
  have HF := hid (fun (W : World) => iFormatMods_any m hr W)
  have hl1 := fmT_len m
  generalize hF : TX.fmT m = F at *
  clear hF
  have HC := hid (fun (W : World) (hm : MaxL W) => iCodeName_any hm c)
  have hl2 := cnm_len c
  generalize hC : cnm c = C at *
  clear hC
  have HM := hid hm
  have HP := hid hp
  clear h hm hp hr hn
  have z1 : ¬ ((st F).size + (ByteArray.mk #[45]).size > 9223372036854775807) := sz2 F [45] (by simp; omega)
  have z2 : ¬ ((st F ++ ByteArray.mk #[45]).size + (st C).size > 9223372036854775807) := by
    have : ByteArray.mk #[45] = st [45] := rfl
    rw [this, st_append]; exact sz2 _ _ (by simp; omega)
  have hmz : (m == 0) = false := by simp; exact hm0
  go_enter Tryd.func27, Tryd.ntmps27
  go_wp2_with fail
  refine (HA.out _).mono ?_
  rintro e w1 ⟨rfl, hb1⟩
  have hbx := (Blk.new w 38 #[.int .i64 2, .int .i64 c, .int .i64 m, .int .i64 n]).bel hb1
  have r0 := hbx.cell 0
  have r1 := hbx.cell 1
  have r2 := hbx.cell 2
  have r3 := hbx.cell 3
  have HM1 := hid (HM.out.below (Below.step ((Below.refl w.heap.size w).alloc (Nat.le_refl _) _) hb1))
  have HP1 := hid (TabIs_below HP.out (Below.step ((Below.refl w.heap.size w).alloc (Nat.le_refl _) _) hb1))
  have hB1 := hid (Below.step ((Below.refl w.heap.size w).alloc (Nat.le_refl _) _) hb1)
  simp only [List.getElem?_toArray, List.getElem?_cons_zero, List.getElem?_cons_succ] at r0 r1 r2 r3
  clear hbx hb1
  go_wp2_with fail
  have y0 := fun d os => cell_regrown r0 d os
  have y1 := fun d os => cell_regrown r1 d os
  have y2 := fun d os => cell_regrown r2 d os
  have y3 := fun d os => cell_regrown r3 d os
  have cM := fun d os => Calls.regrown_of (w := w1) (d := d) (os := os) (HF.out _)
  have cC := fun d os => Calls.regrown_of (w := w1) (d := d) (os := os) (HC.out _ (HM1.out.below (below_regrown w1 d os)))
  (refine wp_region_quiet_below (by kernel_rfl) (by kernel_rfl) ?_); (repeat (go_big_quiet_step (first | exact cM _ _ | exact cC _ _))); (refine wpQuiet_nil ?_); intro _ hw'; obtain ⟨⟨dq, osq⟩, hw''⟩ := hw'; subst hw''
  have hb7 := below_regrown w1 dq osq
  generalize grow (redrawn w1 dq) osq = wq at *
  clear y0 y1 y2 y3
  go_wp2
  go_ret
  exact ⟨congrArg (fun x => Ending.returned (Value.string x)) (st3 F 45 C), Below.step hB1.out hb7⟩
set_option maxRecDepth 100000 in
theorem iFA_2b (c m n : Int) (hm0 : m = 0) (hr : rng m) (hn : rng n) (h : isAct 2 c m n = true) {w : World} (hp : Pow10 w) (hm : MaxL w) : Calls Tryd.prog 27 #[actW 2 c m n] w fun e w' => e = .returned (.string (st (cnm c))) ∧ Below w.heap.size w w' := by
  have HA := hid (h ▸ iIsAction_2 c m n)
  have HC := hid (fun (W : World) (hm : MaxL W) => iCodeName_any hm c)
  have hl2 := cnm_len c
  generalize hC : cnm c = C at *
  clear hC
  have HM := hid hm
  have HP := hid hp
  clear h hm hp hr hn
  subst hm0
  go_enter Tryd.func27, Tryd.ntmps27
  go_wp2_with fail
  refine (HA.out _).mono ?_
  rintro e w1 ⟨rfl, hb1⟩
  have hbx := (Blk.new w 38 #[.int .i64 2, .int .i64 c, .int .i64 0, .int .i64 n]).bel hb1
  have r0 := hbx.cell 0
  have r1 := hbx.cell 1
  have r2 := hbx.cell 2
  have r3 := hbx.cell 3
  have HM1 := hid (HM.out.below (Below.step ((Below.refl w.heap.size w).alloc (Nat.le_refl _) _) hb1))
  have HP1 := hid (TabIs_below HP.out (Below.step ((Below.refl w.heap.size w).alloc (Nat.le_refl _) _) hb1))
  have hB1 := hid (Below.step ((Below.refl w.heap.size w).alloc (Nat.le_refl _) _) hb1)
  simp only [List.getElem?_toArray, List.getElem?_cons_zero, List.getElem?_cons_succ] at r0 r1 r2 r3
  clear hbx hb1
  go_wp2_with fail
  refine (HC.out _ HM1.out).mono ?_
  rintro e w2 ⟨rfl, hb2⟩
  go_wp2
  go_ret
  exact ⟨rfl, Below.step hB1.out hb2⟩
set_option maxRecDepth 100000 in
theorem iFA_3 (c m n : Int) (hr : rng m) (hn : rng n) (h : isAct 3 c m n = true) {w : World} (hp : Pow10 w) (hm : MaxL w) : Calls Tryd.prog 27 #[actW 3 c m n] w fun e w' => e = .returned (.string (st ([109, 111, 58] ++ Lib.itoa n))) ∧ Below w.heap.size w w' := by
  have HA := hid (h ▸ iIsAction_3 c m n)
  have HI := hid (fun (W : World) (hp : Pow10 W) => iFormatInt_any n hn.1 hn.2 hp)
  have hl3 := Lib.itoa_length_le n hn.1 hn.2
  generalize hI : Lib.itoa n = I at *
  clear hI
  have HW := hid (fun (W : World) => (iWordOf_3 W).mono (fun e w' h => (show _ ∧ Below W.heap.size W w' from ⟨h.1, h.2 ▸ Below.refl _ _⟩)))
  have HM := hid hm
  have HP := hid hp
  clear h hm hp hr hn
  have z1 : ¬ ((st [109, 111, 58]).size + (st I).size > 9223372036854775807) := sz2 [109, 111, 58] I (by simp; omega)
  have z2 : ¬ ((ByteArray.mk #[109, 111, 58]).size + (st I).size > 9223372036854775807) := z1
  go_enter Tryd.func27, Tryd.ntmps27
  go_wp2_with fail
  refine (HA.out _).mono ?_
  rintro e w1 ⟨rfl, hb1⟩
  have hbx := (Blk.new w 38 #[.int .i64 3, .int .i64 c, .int .i64 m, .int .i64 n]).bel hb1
  have r0 := hbx.cell 0
  have r1 := hbx.cell 1
  have r2 := hbx.cell 2
  have r3 := hbx.cell 3
  have HM1 := hid (HM.out.below (Below.step ((Below.refl w.heap.size w).alloc (Nat.le_refl _) _) hb1))
  have HP1 := hid (TabIs_below HP.out (Below.step ((Below.refl w.heap.size w).alloc (Nat.le_refl _) _) hb1))
  have hB1 := hid (Below.step ((Below.refl w.heap.size w).alloc (Nat.le_refl _) _) hb1)
  simp only [List.getElem?_toArray, List.getElem?_cons_zero, List.getElem?_cons_succ] at r0 r1 r2 r3
  clear hbx hb1
  go_wp2_with fail
  have y0 := fun d os => cell_regrown r0 d os
  have y1 := fun d os => cell_regrown r1 d os
  have y2 := fun d os => cell_regrown r2 d os
  have y3 := fun d os => cell_regrown r3 d os
  have cW := fun d os => Calls.regrown_of (w := w1) (d := d) (os := os) (HW.out _)
  have cI := fun d os => Calls.regrown_of (w := w1) (d := d) (os := os) (HI.out _ (TabIs_below HP1.out (below_regrown w1 d os)))
  (refine wp_region_quiet_below (by kernel_rfl) (by kernel_rfl) ?_); (repeat (go_big_quiet_step (first | exact cW _ _ | exact cI _ _))); (refine wpQuiet_nil ?_); intro _ hw'; obtain ⟨⟨dq, osq⟩, hw''⟩ := hw'; subst hw''
  have hb7 := below_regrown w1 dq osq
  generalize grow (redrawn w1 dq) osq = wq at *
  clear y0 y1 y2 y3
  go_wp2
  go_ret
  exact ⟨congrArg (fun x => Ending.returned (Value.string x)) (st_append [109, 111, 58] I), Below.step hB1.out hb7⟩
set_option maxRecDepth 100000 in
theorem iFA_4 (c m n : Int) (hr : rng m) (hn : rng n) (h : isAct 4 c m n = true) {w : World} (hp : Pow10 w) (hm : MaxL w) : Calls Tryd.prog 27 #[actW 4 c m n] w fun e w' => e = .returned (.string (st ([116, 103, 58] ++ Lib.itoa n))) ∧ Below w.heap.size w w' := by
  have HA := hid (h ▸ iIsAction_4 c m n)
  have HI := hid (fun (W : World) (hp : Pow10 W) => iFormatInt_any n hn.1 hn.2 hp)
  have hl3 := Lib.itoa_length_le n hn.1 hn.2
  generalize hI : Lib.itoa n = I at *
  clear hI
  have HW := hid (fun (W : World) => (iWordOf_4 W).mono (fun e w' h => (show _ ∧ Below W.heap.size W w' from ⟨h.1, h.2 ▸ Below.refl _ _⟩)))
  have HM := hid hm
  have HP := hid hp
  clear h hm hp hr hn
  have z1 : ¬ ((st [116, 103, 58]).size + (st I).size > 9223372036854775807) := sz2 [116, 103, 58] I (by simp; omega)
  have z2 : ¬ ((ByteArray.mk #[116, 103, 58]).size + (st I).size > 9223372036854775807) := z1
  go_enter Tryd.func27, Tryd.ntmps27
  go_wp2_with fail
  refine (HA.out _).mono ?_
  rintro e w1 ⟨rfl, hb1⟩
  have hbx := (Blk.new w 38 #[.int .i64 4, .int .i64 c, .int .i64 m, .int .i64 n]).bel hb1
  have r0 := hbx.cell 0
  have r1 := hbx.cell 1
  have r2 := hbx.cell 2
  have r3 := hbx.cell 3
  have HM1 := hid (HM.out.below (Below.step ((Below.refl w.heap.size w).alloc (Nat.le_refl _) _) hb1))
  have HP1 := hid (TabIs_below HP.out (Below.step ((Below.refl w.heap.size w).alloc (Nat.le_refl _) _) hb1))
  have hB1 := hid (Below.step ((Below.refl w.heap.size w).alloc (Nat.le_refl _) _) hb1)
  simp only [List.getElem?_toArray, List.getElem?_cons_zero, List.getElem?_cons_succ] at r0 r1 r2 r3
  clear hbx hb1
  go_wp2_with fail
  have y0 := fun d os => cell_regrown r0 d os
  have y1 := fun d os => cell_regrown r1 d os
  have y2 := fun d os => cell_regrown r2 d os
  have y3 := fun d os => cell_regrown r3 d os
  have cW := fun d os => Calls.regrown_of (w := w1) (d := d) (os := os) (HW.out _)
  have cI := fun d os => Calls.regrown_of (w := w1) (d := d) (os := os) (HI.out _ (TabIs_below HP1.out (below_regrown w1 d os)))
  (refine wp_region_quiet_below (by kernel_rfl) (by kernel_rfl) ?_); (repeat (go_big_quiet_step (first | exact cW _ _ | exact cI _ _))); (refine wpQuiet_nil ?_); intro _ hw'; obtain ⟨⟨dq, osq⟩, hw''⟩ := hw'; subst hw''
  have hb7 := below_regrown w1 dq osq
  generalize grow (redrawn w1 dq) osq = wq at *
  clear y0 y1 y2 y3
  go_wp2
  go_ret
  exact ⟨congrArg (fun x => Ending.returned (Value.string x)) (st_append [116, 103, 58] I), Below.step hB1.out hb7⟩
set_option maxRecDepth 100000 in
theorem iFA_5 (c m n : Int) (hr : rng m) (hn : rng n) (h : isAct 5 c m n = true) {w : World} (hp : Pow10 w) (hm : MaxL w) : Calls Tryd.prog 27 #[actW 5 c m n] w fun e w' => e = .returned (.string (st ([116, 111, 58] ++ Lib.itoa n))) ∧ Below w.heap.size w w' := by
  have HA := hid (h ▸ iIsAction_5 c m n)
  have HI := hid (fun (W : World) (hp : Pow10 W) => iFormatInt_any n hn.1 hn.2 hp)
  have hl3 := Lib.itoa_length_le n hn.1 hn.2
  generalize hI : Lib.itoa n = I at *
  clear hI
  have HW := hid (fun (W : World) => (iWordOf_5 W).mono (fun e w' h => (show _ ∧ Below W.heap.size W w' from ⟨h.1, h.2 ▸ Below.refl _ _⟩)))
  have HM := hid hm
  have HP := hid hp
  clear h hm hp hr hn
  have z1 : ¬ ((st [116, 111, 58]).size + (st I).size > 9223372036854775807) := sz2 [116, 111, 58] I (by simp; omega)
  have z2 : ¬ ((ByteArray.mk #[116, 111, 58]).size + (st I).size > 9223372036854775807) := z1
  go_enter Tryd.func27, Tryd.ntmps27
  go_wp2_with fail
  refine (HA.out _).mono ?_
  rintro e w1 ⟨rfl, hb1⟩
  have hbx := (Blk.new w 38 #[.int .i64 5, .int .i64 c, .int .i64 m, .int .i64 n]).bel hb1
  have r0 := hbx.cell 0
  have r1 := hbx.cell 1
  have r2 := hbx.cell 2
  have r3 := hbx.cell 3
  have HM1 := hid (HM.out.below (Below.step ((Below.refl w.heap.size w).alloc (Nat.le_refl _) _) hb1))
  have HP1 := hid (TabIs_below HP.out (Below.step ((Below.refl w.heap.size w).alloc (Nat.le_refl _) _) hb1))
  have hB1 := hid (Below.step ((Below.refl w.heap.size w).alloc (Nat.le_refl _) _) hb1)
  simp only [List.getElem?_toArray, List.getElem?_cons_zero, List.getElem?_cons_succ] at r0 r1 r2 r3
  clear hbx hb1
  go_wp2_with fail
  have y0 := fun d os => cell_regrown r0 d os
  have y1 := fun d os => cell_regrown r1 d os
  have y2 := fun d os => cell_regrown r2 d os
  have y3 := fun d os => cell_regrown r3 d os
  have cW := fun d os => Calls.regrown_of (w := w1) (d := d) (os := os) (HW.out _)
  have cI := fun d os => Calls.regrown_of (w := w1) (d := d) (os := os) (HI.out _ (TabIs_below HP1.out (below_regrown w1 d os)))
  (refine wp_region_quiet_below (by kernel_rfl) (by kernel_rfl) ?_); (repeat (go_big_quiet_step (first | exact cW _ _ | exact cI _ _))); (refine wpQuiet_nil ?_); intro _ hw'; obtain ⟨⟨dq, osq⟩, hw''⟩ := hw'; subst hw''
  have hb7 := below_regrown w1 dq osq
  generalize grow (redrawn w1 dq) osq = wq at *
  clear y0 y1 y2 y3
  go_wp2
  go_ret
  exact ⟨congrArg (fun x => Ending.returned (Value.string x)) (st_append [116, 111, 58] I), Below.step hB1.out hb7⟩
set_option maxRecDepth 100000 in
theorem iFA_9 (c m n : Int) (hr : rng m) (hn : rng n) (h : isAct 9 c m n = true) {w : World} (hp : Pow10 w) (hm : MaxL w) : Calls Tryd.prog 27 #[actW 9 c m n] w fun e w' => e = .returned (.string (st ([109, 97, 99, 114, 111, 58] ++ Lib.itoa n))) ∧ Below w.heap.size w w' := by
  have HA := hid (h ▸ iIsAction_9 c m n)
  have HI := hid (fun (W : World) (hp : Pow10 W) => iFormatInt_any n hn.1 hn.2 hp)
  have hl3 := Lib.itoa_length_le n hn.1 hn.2
  generalize hI : Lib.itoa n = I at *
  clear hI
  have HW := hid (fun (W : World) => (iWordOf_9 W).mono (fun e w' h => (show _ ∧ Below W.heap.size W w' from ⟨h.1, h.2 ▸ Below.refl _ _⟩)))
  have HM := hid hm
  have HP := hid hp
  clear h hm hp hr hn
  have z1 : ¬ ((st [109, 97, 99, 114, 111, 58]).size + (st I).size > 9223372036854775807) := sz2 [109, 97, 99, 114, 111, 58] I (by simp; omega)
  have z2 : ¬ ((ByteArray.mk #[109, 97, 99, 114, 111, 58]).size + (st I).size > 9223372036854775807) := z1
  go_enter Tryd.func27, Tryd.ntmps27
  go_wp2_with fail
  refine (HA.out _).mono ?_
  rintro e w1 ⟨rfl, hb1⟩
  have hbx := (Blk.new w 38 #[.int .i64 9, .int .i64 c, .int .i64 m, .int .i64 n]).bel hb1
  have r0 := hbx.cell 0
  have r1 := hbx.cell 1
  have r2 := hbx.cell 2
  have r3 := hbx.cell 3
  have HM1 := hid (HM.out.below (Below.step ((Below.refl w.heap.size w).alloc (Nat.le_refl _) _) hb1))
  have HP1 := hid (TabIs_below HP.out (Below.step ((Below.refl w.heap.size w).alloc (Nat.le_refl _) _) hb1))
  have hB1 := hid (Below.step ((Below.refl w.heap.size w).alloc (Nat.le_refl _) _) hb1)
  simp only [List.getElem?_toArray, List.getElem?_cons_zero, List.getElem?_cons_succ] at r0 r1 r2 r3
  clear hbx hb1
  go_wp2_with fail
  have y0 := fun d os => cell_regrown r0 d os
  have y1 := fun d os => cell_regrown r1 d os
  have y2 := fun d os => cell_regrown r2 d os
  have y3 := fun d os => cell_regrown r3 d os
  have cW := fun d os => Calls.regrown_of (w := w1) (d := d) (os := os) (HW.out _)
  have cI := fun d os => Calls.regrown_of (w := w1) (d := d) (os := os) (HI.out _ (TabIs_below HP1.out (below_regrown w1 d os)))
  (refine wp_region_quiet_below (by kernel_rfl) (by kernel_rfl) ?_); (repeat (go_big_quiet_step (first | exact cW _ _ | exact cI _ _))); (refine wpQuiet_nil ?_); intro _ hw'; obtain ⟨⟨dq, osq⟩, hw''⟩ := hw'; subst hw''
  have hb7 := below_regrown w1 dq osq
  generalize grow (redrawn w1 dq) osq = wq at *
  clear y0 y1 y2 y3
  go_wp2
  go_ret
  exact ⟨congrArg (fun x => Ending.returned (Value.string x)) (st_append [109, 97, 99, 114, 111, 58] I), Below.step hB1.out hb7⟩
set_option maxRecDepth 100000 in
theorem iFA_6 (c m n : Int) (hr : rng m) (hn : rng n) (h : isAct 6 c m n = true) {w : World} (hp : Pow10 w) (hm : MaxL w) : Calls Tryd.prog 27 #[actW 6 c m n] w fun e w' => e = .returned (.string (st (TX.fmT m ++ 47 :: cnm c))) ∧ Below w.heap.size w w' := by
  have HA := hid (h ▸ iIsAction_6 c m n)
  have HF := hid (fun (W : World) => iFormatMods_any m hr W)
  have hl1 := fmT_len m
  generalize hF : TX.fmT m = F at *
  clear hF
  have HC := hid (fun (W : World) (hm : MaxL W) => iCodeName_any hm c)
  have hl2 := cnm_len c
  generalize hC : cnm c = C at *
  clear hC
  have HM := hid hm
  have HP := hid hp
  clear h hm hp hr hn
  have z1 : ¬ ((st F).size + (ByteArray.mk #[47]).size > 9223372036854775807) := sz2 F [47] (by simp; omega)
  have z2 : ¬ ((st F ++ ByteArray.mk #[47]).size + (st C).size > 9223372036854775807) := by
    have : ByteArray.mk #[47] = st [47] := rfl
    rw [this, st_append]; exact sz2 _ _ (by simp; omega)
  go_enter Tryd.func27, Tryd.ntmps27
  go_wp2_with fail
  refine (HA.out _).mono ?_
  rintro e w1 ⟨rfl, hb1⟩
  have hbx := (Blk.new w 38 #[.int .i64 6, .int .i64 c, .int .i64 m, .int .i64 n]).bel hb1
  have r0 := hbx.cell 0
  have r1 := hbx.cell 1
  have r2 := hbx.cell 2
  have r3 := hbx.cell 3
  have HM1 := hid (HM.out.below (Below.step ((Below.refl w.heap.size w).alloc (Nat.le_refl _) _) hb1))
  have HP1 := hid (TabIs_below HP.out (Below.step ((Below.refl w.heap.size w).alloc (Nat.le_refl _) _) hb1))
  have hB1 := hid (Below.step ((Below.refl w.heap.size w).alloc (Nat.le_refl _) _) hb1)
  simp only [List.getElem?_toArray, List.getElem?_cons_zero, List.getElem?_cons_succ] at r0 r1 r2 r3
  clear hbx hb1
  go_wp2_with fail
  have y0 := fun d os => cell_regrown r0 d os
  have y1 := fun d os => cell_regrown r1 d os
  have y2 := fun d os => cell_regrown r2 d os
  have y3 := fun d os => cell_regrown r3 d os
  have cM := fun d os => Calls.regrown_of (w := w1) (d := d) (os := os) (HF.out _)
  have cC := fun d os => Calls.regrown_of (w := w1) (d := d) (os := os) (HC.out _ (HM1.out.below (below_regrown w1 d os)))
  (refine wp_region_quiet_below (by kernel_rfl) (by kernel_rfl) ?_); (repeat (go_big_quiet_step (first | exact cM _ _ | exact cC _ _))); (refine wpQuiet_nil ?_); intro _ hw'; obtain ⟨⟨dq, osq⟩, hw''⟩ := hw'; subst hw''
  have hb7 := below_regrown w1 dq osq
  generalize grow (redrawn w1 dq) osq = wq at *
  clear y0 y1 y2 y3
  go_wp2
  go_ret
  exact ⟨congrArg (fun x => Ending.returned (Value.string x)) (st3 F 47 C), Below.step hB1.out hb7⟩
set_option maxRecDepth 100000 in
theorem iFA_7 (c m n : Int) (hr : rng m) (hn : rng n) (h : isAct 7 c m n = true) {w : World} (hp : Pow10 w) (hm : MaxL w) : Calls Tryd.prog 27 #[actW 7 c m n] w fun e w' => e = .returned (.string (st (Lib.itoa n ++ 47 :: cnm c))) ∧ Below w.heap.size w w' := by
  have HA := hid (h ▸ iIsAction_7 c m n)
  have HC := hid (fun (W : World) (hm : MaxL W) => iCodeName_any hm c)
  have hl2 := cnm_len c
  generalize hC : cnm c = C at *
  clear hC
  have HI := hid (fun (W : World) (hp : Pow10 W) => iFormatInt_any n hn.1 hn.2 hp)
  have hl3 := Lib.itoa_length_le n hn.1 hn.2
  generalize hI : Lib.itoa n = I at *
  clear hI
  have HM := hid hm
  have HP := hid hp
  clear h hm hp hr hn
  have z1 : ¬ ((st I).size + (ByteArray.mk #[47]).size > 9223372036854775807) := sz2 I [47] (by simp; omega)
  have z2 : ¬ ((st I ++ ByteArray.mk #[47]).size + (st C).size > 9223372036854775807) := by
    have : ByteArray.mk #[47] = st [47] := rfl
    rw [this, st_append]; exact sz2 _ _ (by simp; omega)
  go_enter Tryd.func27, Tryd.ntmps27
  go_wp2_with fail
  refine (HA.out _).mono ?_
  rintro e w1 ⟨rfl, hb1⟩
  have hbx := (Blk.new w 38 #[.int .i64 7, .int .i64 c, .int .i64 m, .int .i64 n]).bel hb1
  have r0 := hbx.cell 0
  have r1 := hbx.cell 1
  have r2 := hbx.cell 2
  have r3 := hbx.cell 3
  have HM1 := hid (HM.out.below (Below.step ((Below.refl w.heap.size w).alloc (Nat.le_refl _) _) hb1))
  have HP1 := hid (TabIs_below HP.out (Below.step ((Below.refl w.heap.size w).alloc (Nat.le_refl _) _) hb1))
  have hB1 := hid (Below.step ((Below.refl w.heap.size w).alloc (Nat.le_refl _) _) hb1)
  simp only [List.getElem?_toArray, List.getElem?_cons_zero, List.getElem?_cons_succ] at r0 r1 r2 r3
  clear hbx hb1
  go_wp2_with fail
  have y0 := fun d os => cell_regrown r0 d os
  have y1 := fun d os => cell_regrown r1 d os
  have y2 := fun d os => cell_regrown r2 d os
  have y3 := fun d os => cell_regrown r3 d os
  have cI := fun d os => Calls.regrown_of (w := w1) (d := d) (os := os) (HI.out _ (TabIs_below HP1.out (below_regrown w1 d os)))
  have cC := fun d os => Calls.regrown_of (w := w1) (d := d) (os := os) (HC.out _ (HM1.out.below (below_regrown w1 d os)))
  (refine wp_region_quiet_below (by kernel_rfl) (by kernel_rfl) ?_); (repeat (go_big_quiet_step (first | exact cI _ _ | exact cC _ _))); (refine wpQuiet_nil ?_); intro _ hw'; obtain ⟨⟨dq, osq⟩, hw''⟩ := hw'; subst hw''
  have hb7 := below_regrown w1 dq osq
  generalize grow (redrawn w1 dq) osq = wq at *
  clear y0 y1 y2 y3
  go_wp2
  go_ret
  exact ⟨congrArg (fun x => Ending.returned (Value.string x)) (st3 I 47 C), Below.step hB1.out hb7⟩
set_option maxRecDepth 100000 in
theorem iFA_8 (c m n : Int) (hr : rng m) (hn : rng n) (h : isAct 8 c m n = true) {w : World} (hp : Pow10 w) (hm : MaxL w) : Calls Tryd.prog 27 #[actW 8 c m n] w fun e w' => e = .returned (.string (st ([111, 110, 99, 101, 58] ++ TX.fmT m))) ∧ Below w.heap.size w w' := by
  have HA := hid (h ▸ iIsAction_8 c m n)
  have HF := hid (fun (W : World) => iFormatMods_any m hr W)
  have hl1 := fmT_len m
  generalize hF : TX.fmT m = F at *
  clear hF
  have HM := hid hm
  have HP := hid hp
  clear h hm hp hr hn
  have z1 : ¬ ((st [111, 110, 99, 101, 58]).size + (st F).size > 9223372036854775807) := sz2 [111, 110, 99, 101, 58] F (by simp; omega)
  have z2 : ¬ ((ByteArray.mk #[111, 110, 99, 101, 58]).size + (st F).size > 9223372036854775807) := z1
  go_enter Tryd.func27, Tryd.ntmps27
  go_wp2_with fail
  refine (HA.out _).mono ?_
  rintro e w1 ⟨rfl, hb1⟩
  have hbx := (Blk.new w 38 #[.int .i64 8, .int .i64 c, .int .i64 m, .int .i64 n]).bel hb1
  have r0 := hbx.cell 0
  have r1 := hbx.cell 1
  have r2 := hbx.cell 2
  have r3 := hbx.cell 3
  have HM1 := hid (HM.out.below (Below.step ((Below.refl w.heap.size w).alloc (Nat.le_refl _) _) hb1))
  have HP1 := hid (TabIs_below HP.out (Below.step ((Below.refl w.heap.size w).alloc (Nat.le_refl _) _) hb1))
  have hB1 := hid (Below.step ((Below.refl w.heap.size w).alloc (Nat.le_refl _) _) hb1)
  simp only [List.getElem?_toArray, List.getElem?_cons_zero, List.getElem?_cons_succ] at r0 r1 r2 r3
  clear hbx hb1
  go_wp2_with fail
  refine (HF.out _).mono ?_
  rintro e w2 ⟨rfl, hb2⟩
  go_wp2
  go_ret
  exact ⟨congrArg (fun x => Ending.returned (Value.string x)) (st_append [111, 110, 99, 101, 58] F), Below.step hB1.out hb2⟩
set_option maxRecDepth 100000 in
theorem iFormatAction_any (k c m n : Int) (hr : rng m) (hn : rng n) {w : World} (hp : Pow10 w) (hm : MaxL w) : Calls Tryd.prog 27 #[actW k c m n] w fun e w' => e = .returned (.string (st (faL k c m n))) ∧ Below w.heap.size w w' := by
  cases h : isAct k c m n
  · have e : faL k c m n = [] := by unfold faL; rw [h]; rfl
    rw [e]
    have HA := hid (h ▸ iIsAction_any k c m n)
    clear e h hm hp
    go_enter Tryd.func27, Tryd.ntmps27
    go_wp2_with fail
    refine (HA.out _).mono ?_
    rintro e w1 ⟨rfl, hb1⟩
    go_wp2
    go_ret
    exact ⟨rfl, Below.step ((Below.refl w.heap.size w).alloc (Nat.le_refl _) _) hb1⟩
  · have e : faL k c m n = fT k c m n := by unfold faL; rw [h]; rfl
    rw [e]
    rcases kinds k with h1 | rfl | rfl | rfl | rfl | rfl | rfl | rfl | rfl | rfl | rfl | rfl
    · unfold isAct at h; rw [act_other h1] at h; cases h
    · exact iFA_0 c m n hr hn h hp hm
    · exact iFA_1 c m n hr hn h hp hm
    · by_cases hm0 : m = 0
      · have e2 : fT 2 c m n = cnm c := by unfold fT; simp [hm0]
        rw [e2]; exact iFA_2b c m n hm0 hr hn h hp hm
      · have e2 : fT 2 c m n = TX.fmT m ++ 45 :: cnm c := by unfold fT; simp [hm0]
        rw [e2]; exact iFA_2a c m n hm0 hr hn h hp hm
    · exact iFA_3 c m n hr hn h hp hm
    · exact iFA_4 c m n hr hn h hp hm
    · exact iFA_5 c m n hr hn h hp hm
    · exact iFA_6 c m n hr hn h hp hm
    · exact iFA_7 c m n hr hn h hp hm
    · exact iFA_8 c m n hr hn h hp hm
    · exact iFA_9 c m n hr hn h hp hm
    · exact iFA_10 c m n hr hn h hp hm
set_option maxRecDepth 100000 in
theorem sFA_0 (c m n : Int) (hr : rng m) (hn : rng n) (h : isAct 0 c m n = true) {w : World} (hp : Pow10 w) (hm : MaxL w) : Calls Tryd.prog 25 #[actW 0 c m n] w fun e w' => e = .returned (.string (st ([110, 111, 110, 101]))) ∧ Below w.heap.size w w' := by
  have HA := hid (h ▸ sIsAction_0 c m n)
  have HM := hid hm
  have HP := hid hp
  clear h hm hp hr hn
  go_enter Tryd.func25, Tryd.ntmps25
  go_wp2_with fail
  refine (HA.out _).mono ?_
  rintro e w1 ⟨rfl, hb1⟩
  have hbx := (Blk.new w 38 #[.int .i64 0, .int .i64 c, .int .i64 m, .int .i64 n]).bel hb1
  have r0 := hbx.cell 0
  have r1 := hbx.cell 1
  have r2 := hbx.cell 2
  have r3 := hbx.cell 3
  have HM1 := hid (HM.out.below (Below.step ((Below.refl w.heap.size w).alloc (Nat.le_refl _) _) hb1))
  have HP1 := hid (TabIs_below HP.out (Below.step ((Below.refl w.heap.size w).alloc (Nat.le_refl _) _) hb1))
  have hB1 := hid (Below.step ((Below.refl w.heap.size w).alloc (Nat.le_refl _) _) hb1)
  simp only [List.getElem?_toArray, List.getElem?_cons_zero, List.getElem?_cons_succ] at r0 r1 r2 r3
  clear hbx hb1
  go_wp2
  go_ret
  exact ⟨rfl, hB1.out⟩
set_option maxRecDepth 100000 in
theorem sFA_1 (c m n : Int) (hr : rng m) (hn : rng n) (h : isAct 1 c m n = true) {w : World} (hp : Pow10 w) (hm : MaxL w) : Calls Tryd.prog 25 #[actW 1 c m n] w fun e w' => e = .returned (.string (st ([112, 97, 115, 115]))) ∧ Below w.heap.size w w' := by
  have HA := hid (h ▸ sIsAction_1 c m n)
  have HM := hid hm
  have HP := hid hp
  clear h hm hp hr hn
  go_enter Tryd.func25, Tryd.ntmps25
  go_wp2_with fail
  refine (HA.out _).mono ?_
  rintro e w1 ⟨rfl, hb1⟩
  have hbx := (Blk.new w 38 #[.int .i64 1, .int .i64 c, .int .i64 m, .int .i64 n]).bel hb1
  have r0 := hbx.cell 0
  have r1 := hbx.cell 1
  have r2 := hbx.cell 2
  have r3 := hbx.cell 3
  have HM1 := hid (HM.out.below (Below.step ((Below.refl w.heap.size w).alloc (Nat.le_refl _) _) hb1))
  have HP1 := hid (TabIs_below HP.out (Below.step ((Below.refl w.heap.size w).alloc (Nat.le_refl _) _) hb1))
  have hB1 := hid (Below.step ((Below.refl w.heap.size w).alloc (Nat.le_refl _) _) hb1)
  simp only [List.getElem?_toArray, List.getElem?_cons_zero, List.getElem?_cons_succ] at r0 r1 r2 r3
  clear hbx hb1
  go_wp2
  go_ret
  exact ⟨rfl, hB1.out⟩
set_option maxRecDepth 100000 in
theorem sFA_10 (c m n : Int) (hr : rng m) (hn : rng n) (h : isAct 10 c m n = true) {w : World} (hp : Pow10 w) (hm : MaxL w) : Calls Tryd.prog 25 #[actW 10 c m n] w fun e w' => e = .returned (.string (st ([99, 97, 112, 115]))) ∧ Below w.heap.size w w' := by
  have HA := hid (h ▸ sIsAction_10 c m n)
  have HM := hid hm
  have HP := hid hp
  clear h hm hp hr hn
  go_enter Tryd.func25, Tryd.ntmps25
  go_wp2_with fail
  refine (HA.out _).mono ?_
  rintro e w1 ⟨rfl, hb1⟩
  have hbx := (Blk.new w 38 #[.int .i64 10, .int .i64 c, .int .i64 m, .int .i64 n]).bel hb1
  have r0 := hbx.cell 0
  have r1 := hbx.cell 1
  have r2 := hbx.cell 2
  have r3 := hbx.cell 3
  have HM1 := hid (HM.out.below (Below.step ((Below.refl w.heap.size w).alloc (Nat.le_refl _) _) hb1))
  have HP1 := hid (TabIs_below HP.out (Below.step ((Below.refl w.heap.size w).alloc (Nat.le_refl _) _) hb1))
  have hB1 := hid (Below.step ((Below.refl w.heap.size w).alloc (Nat.le_refl _) _) hb1)
  simp only [List.getElem?_toArray, List.getElem?_cons_zero, List.getElem?_cons_succ] at r0 r1 r2 r3
  clear hbx hb1
  go_wp2
  go_ret
  exact ⟨rfl, hB1.out⟩
set_option maxRecDepth 100000 in
theorem sFA_2a (c m n : Int) (hm0 : ¬ m = 0) (hr : rng m) (hn : rng n) (h : isAct 2 c m n = true) {w : World} (hp : Pow10 w) (hm : MaxL w) : Calls Tryd.prog 25 #[actW 2 c m n] w fun e w' => e = .returned (.string (st (TX.fmT m ++ 45 :: cnm c))) ∧ Below w.heap.size w w' := by
  have HA := hid (h ▸ sIsAction_2 c m n)
  have HF := hid (fun (W : World) => (sFormatMods_any m hr W).mono (fun e w' h => (show _ ∧ Below W.heap.size W w' from ⟨h.1, h.2 ▸ Below.refl _ _⟩)))
  have hl1 := fmT_len m
  generalize hF : TX.fmT m = F at *
  clear hF
  have HC := hid (fun (W : World) (hm : MaxL W) => sCodeName_any c W)
  have hl2 := cnm_len c
  generalize hC : cnm c = C at *
  clear hC
  have HM := hid hm
  have HP := hid hp
  clear h hm hp hr hn
  have z1 : ¬ ((st F).size + (ByteArray.mk #[45]).size > 9223372036854775807) := sz2 F [45] (by simp; omega)
  have z2 : ¬ ((st F ++ ByteArray.mk #[45]).size + (st C).size > 9223372036854775807) := by
    have : ByteArray.mk #[45] = st [45] := rfl
    rw [this, st_append]; exact sz2 _ _ (by simp; omega)
  have hmz : (m == 0) = false := by simp; exact hm0
  go_enter Tryd.func25, Tryd.ntmps25
  go_wp2_with fail
  refine (HA.out _).mono ?_
  rintro e w1 ⟨rfl, hb1⟩
  have hbx := (Blk.new w 38 #[.int .i64 2, .int .i64 c, .int .i64 m, .int .i64 n]).bel hb1
  have r0 := hbx.cell 0
  have r1 := hbx.cell 1
  have r2 := hbx.cell 2
  have r3 := hbx.cell 3
  have HM1 := hid (HM.out.below (Below.step ((Below.refl w.heap.size w).alloc (Nat.le_refl _) _) hb1))
  have HP1 := hid (TabIs_below HP.out (Below.step ((Below.refl w.heap.size w).alloc (Nat.le_refl _) _) hb1))
  have hB1 := hid (Below.step ((Below.refl w.heap.size w).alloc (Nat.le_refl _) _) hb1)
  simp only [List.getElem?_toArray, List.getElem?_cons_zero, List.getElem?_cons_succ] at r0 r1 r2 r3
  clear hbx hb1
  go_wp2_with fail
  have y0 := fun d os => cell_regrown r0 d os
  have y1 := fun d os => cell_regrown r1 d os
  have y2 := fun d os => cell_regrown r2 d os
  have y3 := fun d os => cell_regrown r3 d os
  have cM := fun d os => Calls.regrown_of (w := w1) (d := d) (os := os) (HF.out _)
  have cC := fun d os => Calls.regrown_of (w := w1) (d := d) (os := os) (HC.out _ (HM1.out.below (below_regrown w1 d os)))
  (refine wp_region_quiet_below (by kernel_rfl) (by kernel_rfl) ?_); (repeat (go_big_quiet_step (first | exact cM _ _ | exact cC _ _))); (refine wpQuiet_nil ?_); intro _ hw'; obtain ⟨⟨dq, osq⟩, hw''⟩ := hw'; subst hw''
  have hb7 := below_regrown w1 dq osq
  generalize grow (redrawn w1 dq) osq = wq at *
  clear y0 y1 y2 y3
  go_wp2
  go_ret
  exact ⟨congrArg (fun x => Ending.returned (Value.string x)) (st3 F 45 C), Below.step hB1.out hb7⟩
set_option maxRecDepth 100000 in
theorem sFA_2b (c m n : Int) (hm0 : m = 0) (hr : rng m) (hn : rng n) (h : isAct 2 c m n = true) {w : World} (hp : Pow10 w) (hm : MaxL w) : Calls Tryd.prog 25 #[actW 2 c m n] w fun e w' => e = .returned (.string (st (cnm c))) ∧ Below w.heap.size w w' := by
  have HA := hid (h ▸ sIsAction_2 c m n)
  have HC := hid (fun (W : World) (hm : MaxL W) => sCodeName_any c W)
  have hl2 := cnm_len c
  generalize hC : cnm c = C at *
  clear hC
  have HM := hid hm
  have HP := hid hp
  clear h hm hp hr hn
  subst hm0
  go_enter Tryd.func25, Tryd.ntmps25
  go_wp2_with fail
  refine (HA.out _).mono ?_
  rintro e w1 ⟨rfl, hb1⟩
  have hbx := (Blk.new w 38 #[.int .i64 2, .int .i64 c, .int .i64 0, .int .i64 n]).bel hb1
  have r0 := hbx.cell 0
  have r1 := hbx.cell 1
  have r2 := hbx.cell 2
  have r3 := hbx.cell 3
  have HM1 := hid (HM.out.below (Below.step ((Below.refl w.heap.size w).alloc (Nat.le_refl _) _) hb1))
  have HP1 := hid (TabIs_below HP.out (Below.step ((Below.refl w.heap.size w).alloc (Nat.le_refl _) _) hb1))
  have hB1 := hid (Below.step ((Below.refl w.heap.size w).alloc (Nat.le_refl _) _) hb1)
  simp only [List.getElem?_toArray, List.getElem?_cons_zero, List.getElem?_cons_succ] at r0 r1 r2 r3
  clear hbx hb1
  go_wp2_with fail
  refine (HC.out _ HM1.out).mono ?_
  rintro e w2 ⟨rfl, hb2⟩
  go_wp2
  go_ret
  exact ⟨rfl, Below.step hB1.out hb2⟩
set_option maxRecDepth 100000 in
theorem sFA_3 (c m n : Int) (hr : rng m) (hn : rng n) (h : isAct 3 c m n = true) {w : World} (hp : Pow10 w) (hm : MaxL w) : Calls Tryd.prog 25 #[actW 3 c m n] w fun e w' => e = .returned (.string (st ([109, 111, 58] ++ Lib.itoa n))) ∧ Below w.heap.size w w' := by
  have HA := hid (h ▸ sIsAction_3 c m n)
  have HI := hid (fun (W : World) (hp : Pow10 W) => sFormatInt_any (w := W) n hn.1 hn.2)
  have hl3 := Lib.itoa_length_le n hn.1 hn.2
  generalize hI : Lib.itoa n = I at *
  clear hI
  have HM := hid hm
  have HP := hid hp
  clear h hm hp hr hn
  have z1 : ¬ ((st [109, 111, 58]).size + (st I).size > 9223372036854775807) := sz2 [109, 111, 58] I (by simp; omega)
  have z2 : ¬ ((ByteArray.mk #[109, 111, 58]).size + (st I).size > 9223372036854775807) := z1
  go_enter Tryd.func25, Tryd.ntmps25
  go_wp2_with fail
  refine (HA.out _).mono ?_
  rintro e w1 ⟨rfl, hb1⟩
  have hbx := (Blk.new w 38 #[.int .i64 3, .int .i64 c, .int .i64 m, .int .i64 n]).bel hb1
  have r0 := hbx.cell 0
  have r1 := hbx.cell 1
  have r2 := hbx.cell 2
  have r3 := hbx.cell 3
  have HM1 := hid (HM.out.below (Below.step ((Below.refl w.heap.size w).alloc (Nat.le_refl _) _) hb1))
  have HP1 := hid (TabIs_below HP.out (Below.step ((Below.refl w.heap.size w).alloc (Nat.le_refl _) _) hb1))
  have hB1 := hid (Below.step ((Below.refl w.heap.size w).alloc (Nat.le_refl _) _) hb1)
  simp only [List.getElem?_toArray, List.getElem?_cons_zero, List.getElem?_cons_succ] at r0 r1 r2 r3
  clear hbx hb1
  go_wp2_with fail
  refine (HI.out _ HP1.out).mono ?_
  rintro e w2 ⟨rfl, hb2⟩
  go_wp2
  go_ret
  exact ⟨congrArg (fun x => Ending.returned (Value.string x)) (st_append [109, 111, 58] I), Below.step hB1.out hb2⟩
set_option maxRecDepth 100000 in
theorem sFA_4 (c m n : Int) (hr : rng m) (hn : rng n) (h : isAct 4 c m n = true) {w : World} (hp : Pow10 w) (hm : MaxL w) : Calls Tryd.prog 25 #[actW 4 c m n] w fun e w' => e = .returned (.string (st ([116, 103, 58] ++ Lib.itoa n))) ∧ Below w.heap.size w w' := by
  have HA := hid (h ▸ sIsAction_4 c m n)
  have HI := hid (fun (W : World) (hp : Pow10 W) => sFormatInt_any (w := W) n hn.1 hn.2)
  have hl3 := Lib.itoa_length_le n hn.1 hn.2
  generalize hI : Lib.itoa n = I at *
  clear hI
  have HM := hid hm
  have HP := hid hp
  clear h hm hp hr hn
  have z1 : ¬ ((st [116, 103, 58]).size + (st I).size > 9223372036854775807) := sz2 [116, 103, 58] I (by simp; omega)
  have z2 : ¬ ((ByteArray.mk #[116, 103, 58]).size + (st I).size > 9223372036854775807) := z1
  go_enter Tryd.func25, Tryd.ntmps25
  go_wp2_with fail
  refine (HA.out _).mono ?_
  rintro e w1 ⟨rfl, hb1⟩
  have hbx := (Blk.new w 38 #[.int .i64 4, .int .i64 c, .int .i64 m, .int .i64 n]).bel hb1
  have r0 := hbx.cell 0
  have r1 := hbx.cell 1
  have r2 := hbx.cell 2
  have r3 := hbx.cell 3
  have HM1 := hid (HM.out.below (Below.step ((Below.refl w.heap.size w).alloc (Nat.le_refl _) _) hb1))
  have HP1 := hid (TabIs_below HP.out (Below.step ((Below.refl w.heap.size w).alloc (Nat.le_refl _) _) hb1))
  have hB1 := hid (Below.step ((Below.refl w.heap.size w).alloc (Nat.le_refl _) _) hb1)
  simp only [List.getElem?_toArray, List.getElem?_cons_zero, List.getElem?_cons_succ] at r0 r1 r2 r3
  clear hbx hb1
  go_wp2_with fail
  refine (HI.out _ HP1.out).mono ?_
  rintro e w2 ⟨rfl, hb2⟩
  go_wp2
  go_ret
  exact ⟨congrArg (fun x => Ending.returned (Value.string x)) (st_append [116, 103, 58] I), Below.step hB1.out hb2⟩
set_option maxRecDepth 100000 in
theorem sFA_5 (c m n : Int) (hr : rng m) (hn : rng n) (h : isAct 5 c m n = true) {w : World} (hp : Pow10 w) (hm : MaxL w) : Calls Tryd.prog 25 #[actW 5 c m n] w fun e w' => e = .returned (.string (st ([116, 111, 58] ++ Lib.itoa n))) ∧ Below w.heap.size w w' := by
  have HA := hid (h ▸ sIsAction_5 c m n)
  have HI := hid (fun (W : World) (hp : Pow10 W) => sFormatInt_any (w := W) n hn.1 hn.2)
  have hl3 := Lib.itoa_length_le n hn.1 hn.2
  generalize hI : Lib.itoa n = I at *
  clear hI
  have HM := hid hm
  have HP := hid hp
  clear h hm hp hr hn
  have z1 : ¬ ((st [116, 111, 58]).size + (st I).size > 9223372036854775807) := sz2 [116, 111, 58] I (by simp; omega)
  have z2 : ¬ ((ByteArray.mk #[116, 111, 58]).size + (st I).size > 9223372036854775807) := z1
  go_enter Tryd.func25, Tryd.ntmps25
  go_wp2_with fail
  refine (HA.out _).mono ?_
  rintro e w1 ⟨rfl, hb1⟩
  have hbx := (Blk.new w 38 #[.int .i64 5, .int .i64 c, .int .i64 m, .int .i64 n]).bel hb1
  have r0 := hbx.cell 0
  have r1 := hbx.cell 1
  have r2 := hbx.cell 2
  have r3 := hbx.cell 3
  have HM1 := hid (HM.out.below (Below.step ((Below.refl w.heap.size w).alloc (Nat.le_refl _) _) hb1))
  have HP1 := hid (TabIs_below HP.out (Below.step ((Below.refl w.heap.size w).alloc (Nat.le_refl _) _) hb1))
  have hB1 := hid (Below.step ((Below.refl w.heap.size w).alloc (Nat.le_refl _) _) hb1)
  simp only [List.getElem?_toArray, List.getElem?_cons_zero, List.getElem?_cons_succ] at r0 r1 r2 r3
  clear hbx hb1
  go_wp2_with fail
  refine (HI.out _ HP1.out).mono ?_
  rintro e w2 ⟨rfl, hb2⟩
  go_wp2
  go_ret
  exact ⟨congrArg (fun x => Ending.returned (Value.string x)) (st_append [116, 111, 58] I), Below.step hB1.out hb2⟩
set_option maxRecDepth 100000 in
theorem sFA_9 (c m n : Int) (hr : rng m) (hn : rng n) (h : isAct 9 c m n = true) {w : World} (hp : Pow10 w) (hm : MaxL w) : Calls Tryd.prog 25 #[actW 9 c m n] w fun e w' => e = .returned (.string (st ([109, 97, 99, 114, 111, 58] ++ Lib.itoa n))) ∧ Below w.heap.size w w' := by
  have HA := hid (h ▸ sIsAction_9 c m n)
  have HI := hid (fun (W : World) (hp : Pow10 W) => sFormatInt_any (w := W) n hn.1 hn.2)
  have hl3 := Lib.itoa_length_le n hn.1 hn.2
  generalize hI : Lib.itoa n = I at *
  clear hI
  have HM := hid hm
  have HP := hid hp
  clear h hm hp hr hn
  have z1 : ¬ ((st [109, 97, 99, 114, 111, 58]).size + (st I).size > 9223372036854775807) := sz2 [109, 97, 99, 114, 111, 58] I (by simp; omega)
  have z2 : ¬ ((ByteArray.mk #[109, 97, 99, 114, 111, 58]).size + (st I).size > 9223372036854775807) := z1
  go_enter Tryd.func25, Tryd.ntmps25
  go_wp2_with fail
  refine (HA.out _).mono ?_
  rintro e w1 ⟨rfl, hb1⟩
  have hbx := (Blk.new w 38 #[.int .i64 9, .int .i64 c, .int .i64 m, .int .i64 n]).bel hb1
  have r0 := hbx.cell 0
  have r1 := hbx.cell 1
  have r2 := hbx.cell 2
  have r3 := hbx.cell 3
  have HM1 := hid (HM.out.below (Below.step ((Below.refl w.heap.size w).alloc (Nat.le_refl _) _) hb1))
  have HP1 := hid (TabIs_below HP.out (Below.step ((Below.refl w.heap.size w).alloc (Nat.le_refl _) _) hb1))
  have hB1 := hid (Below.step ((Below.refl w.heap.size w).alloc (Nat.le_refl _) _) hb1)
  simp only [List.getElem?_toArray, List.getElem?_cons_zero, List.getElem?_cons_succ] at r0 r1 r2 r3
  clear hbx hb1
  go_wp2_with fail
  refine (HI.out _ HP1.out).mono ?_
  rintro e w2 ⟨rfl, hb2⟩
  go_wp2
  go_ret
  exact ⟨congrArg (fun x => Ending.returned (Value.string x)) (st_append [109, 97, 99, 114, 111, 58] I), Below.step hB1.out hb2⟩
set_option maxRecDepth 100000 in
theorem sFA_6 (c m n : Int) (hr : rng m) (hn : rng n) (h : isAct 6 c m n = true) {w : World} (hp : Pow10 w) (hm : MaxL w) : Calls Tryd.prog 25 #[actW 6 c m n] w fun e w' => e = .returned (.string (st (TX.fmT m ++ 47 :: cnm c))) ∧ Below w.heap.size w w' := by
  have HA := hid (h ▸ sIsAction_6 c m n)
  have HF := hid (fun (W : World) => (sFormatMods_any m hr W).mono (fun e w' h => (show _ ∧ Below W.heap.size W w' from ⟨h.1, h.2 ▸ Below.refl _ _⟩)))
  have hl1 := fmT_len m
  generalize hF : TX.fmT m = F at *
  clear hF
  have HC := hid (fun (W : World) (hm : MaxL W) => sCodeName_any c W)
  have hl2 := cnm_len c
  generalize hC : cnm c = C at *
  clear hC
  have HM := hid hm
  have HP := hid hp
  clear h hm hp hr hn
  have z1 : ¬ ((st F).size + (ByteArray.mk #[47]).size > 9223372036854775807) := sz2 F [47] (by simp; omega)
  have z2 : ¬ ((st F ++ ByteArray.mk #[47]).size + (st C).size > 9223372036854775807) := by
    have : ByteArray.mk #[47] = st [47] := rfl
    rw [this, st_append]; exact sz2 _ _ (by simp; omega)
  go_enter Tryd.func25, Tryd.ntmps25
  go_wp2_with fail
  refine (HA.out _).mono ?_
  rintro e w1 ⟨rfl, hb1⟩
  have hbx := (Blk.new w 38 #[.int .i64 6, .int .i64 c, .int .i64 m, .int .i64 n]).bel hb1
  have r0 := hbx.cell 0
  have r1 := hbx.cell 1
  have r2 := hbx.cell 2
  have r3 := hbx.cell 3
  have HM1 := hid (HM.out.below (Below.step ((Below.refl w.heap.size w).alloc (Nat.le_refl _) _) hb1))
  have HP1 := hid (TabIs_below HP.out (Below.step ((Below.refl w.heap.size w).alloc (Nat.le_refl _) _) hb1))
  have hB1 := hid (Below.step ((Below.refl w.heap.size w).alloc (Nat.le_refl _) _) hb1)
  simp only [List.getElem?_toArray, List.getElem?_cons_zero, List.getElem?_cons_succ] at r0 r1 r2 r3
  clear hbx hb1
  go_wp2_with fail
  have y0 := fun d os => cell_regrown r0 d os
  have y1 := fun d os => cell_regrown r1 d os
  have y2 := fun d os => cell_regrown r2 d os
  have y3 := fun d os => cell_regrown r3 d os
  have cM := fun d os => Calls.regrown_of (w := w1) (d := d) (os := os) (HF.out _)
  have cC := fun d os => Calls.regrown_of (w := w1) (d := d) (os := os) (HC.out _ (HM1.out.below (below_regrown w1 d os)))
  (refine wp_region_quiet_below (by kernel_rfl) (by kernel_rfl) ?_); (repeat (go_big_quiet_step (first | exact cM _ _ | exact cC _ _))); (refine wpQuiet_nil ?_); intro _ hw'; obtain ⟨⟨dq, osq⟩, hw''⟩ := hw'; subst hw''
  have hb7 := below_regrown w1 dq osq
  generalize grow (redrawn w1 dq) osq = wq at *
  clear y0 y1 y2 y3
  go_wp2
  go_ret
  exact ⟨congrArg (fun x => Ending.returned (Value.string x)) (st3 F 47 C), Below.step hB1.out hb7⟩
set_option maxRecDepth 100000 in
theorem sFA_7 (c m n : Int) (hr : rng m) (hn : rng n) (h : isAct 7 c m n = true) {w : World} (hp : Pow10 w) (hm : MaxL w) : Calls Tryd.prog 25 #[actW 7 c m n] w fun e w' => e = .returned (.string (st (Lib.itoa n ++ 47 :: cnm c))) ∧ Below w.heap.size w w' := by
  have HA := hid (h ▸ sIsAction_7 c m n)
  have HC := hid (fun (W : World) (hm : MaxL W) => sCodeName_any c W)
  have hl2 := cnm_len c
  generalize hC : cnm c = C at *
  clear hC
  have HI := hid (fun (W : World) (hp : Pow10 W) => sFormatInt_any (w := W) n hn.1 hn.2)
  have hl3 := Lib.itoa_length_le n hn.1 hn.2
  generalize hI : Lib.itoa n = I at *
  clear hI
  have HM := hid hm
  have HP := hid hp
  clear h hm hp hr hn
  have z1 : ¬ ((st I).size + (ByteArray.mk #[47]).size > 9223372036854775807) := sz2 I [47] (by simp; omega)
  have z2 : ¬ ((st I ++ ByteArray.mk #[47]).size + (st C).size > 9223372036854775807) := by
    have : ByteArray.mk #[47] = st [47] := rfl
    rw [this, st_append]; exact sz2 _ _ (by simp; omega)
  go_enter Tryd.func25, Tryd.ntmps25
  go_wp2_with fail
  refine (HA.out _).mono ?_
  rintro e w1 ⟨rfl, hb1⟩
  have hbx := (Blk.new w 38 #[.int .i64 7, .int .i64 c, .int .i64 m, .int .i64 n]).bel hb1
  have r0 := hbx.cell 0
  have r1 := hbx.cell 1
  have r2 := hbx.cell 2
  have r3 := hbx.cell 3
  have HM1 := hid (HM.out.below (Below.step ((Below.refl w.heap.size w).alloc (Nat.le_refl _) _) hb1))
  have HP1 := hid (TabIs_below HP.out (Below.step ((Below.refl w.heap.size w).alloc (Nat.le_refl _) _) hb1))
  have hB1 := hid (Below.step ((Below.refl w.heap.size w).alloc (Nat.le_refl _) _) hb1)
  simp only [List.getElem?_toArray, List.getElem?_cons_zero, List.getElem?_cons_succ] at r0 r1 r2 r3
  clear hbx hb1
  go_wp2_with fail
  have y0 := fun d os => cell_regrown r0 d os
  have y1 := fun d os => cell_regrown r1 d os
  have y2 := fun d os => cell_regrown r2 d os
  have y3 := fun d os => cell_regrown r3 d os
  have cI := fun d os => Calls.regrown_of (w := w1) (d := d) (os := os) (HI.out _ (TabIs_below HP1.out (below_regrown w1 d os)))
  have cC := fun d os => Calls.regrown_of (w := w1) (d := d) (os := os) (HC.out _ (HM1.out.below (below_regrown w1 d os)))
  (refine wp_region_quiet_below (by kernel_rfl) (by kernel_rfl) ?_); (repeat (go_big_quiet_step (first | exact cI _ _ | exact cC _ _))); (refine wpQuiet_nil ?_); intro _ hw'; obtain ⟨⟨dq, osq⟩, hw''⟩ := hw'; subst hw''
  have hb7 := below_regrown w1 dq osq
  generalize grow (redrawn w1 dq) osq = wq at *
  clear y0 y1 y2 y3
  go_wp2
  go_ret
  exact ⟨congrArg (fun x => Ending.returned (Value.string x)) (st3 I 47 C), Below.step hB1.out hb7⟩
set_option maxRecDepth 100000 in
theorem sFA_8 (c m n : Int) (hr : rng m) (hn : rng n) (h : isAct 8 c m n = true) {w : World} (hp : Pow10 w) (hm : MaxL w) : Calls Tryd.prog 25 #[actW 8 c m n] w fun e w' => e = .returned (.string (st ([111, 110, 99, 101, 58] ++ TX.fmT m))) ∧ Below w.heap.size w w' := by
  have HA := hid (h ▸ sIsAction_8 c m n)
  have HF := hid (fun (W : World) => (sFormatMods_any m hr W).mono (fun e w' h => (show _ ∧ Below W.heap.size W w' from ⟨h.1, h.2 ▸ Below.refl _ _⟩)))
  have hl1 := fmT_len m
  generalize hF : TX.fmT m = F at *
  clear hF
  have HM := hid hm
  have HP := hid hp
  clear h hm hp hr hn
  have z1 : ¬ ((st [111, 110, 99, 101, 58]).size + (st F).size > 9223372036854775807) := sz2 [111, 110, 99, 101, 58] F (by simp; omega)
  have z2 : ¬ ((ByteArray.mk #[111, 110, 99, 101, 58]).size + (st F).size > 9223372036854775807) := z1
  go_enter Tryd.func25, Tryd.ntmps25
  go_wp2_with fail
  refine (HA.out _).mono ?_
  rintro e w1 ⟨rfl, hb1⟩
  have hbx := (Blk.new w 38 #[.int .i64 8, .int .i64 c, .int .i64 m, .int .i64 n]).bel hb1
  have r0 := hbx.cell 0
  have r1 := hbx.cell 1
  have r2 := hbx.cell 2
  have r3 := hbx.cell 3
  have HM1 := hid (HM.out.below (Below.step ((Below.refl w.heap.size w).alloc (Nat.le_refl _) _) hb1))
  have HP1 := hid (TabIs_below HP.out (Below.step ((Below.refl w.heap.size w).alloc (Nat.le_refl _) _) hb1))
  have hB1 := hid (Below.step ((Below.refl w.heap.size w).alloc (Nat.le_refl _) _) hb1)
  simp only [List.getElem?_toArray, List.getElem?_cons_zero, List.getElem?_cons_succ] at r0 r1 r2 r3
  clear hbx hb1
  go_wp2_with fail
  refine (HF.out _).mono ?_
  rintro e w2 ⟨rfl, hb2⟩
  go_wp2
  go_ret
  exact ⟨congrArg (fun x => Ending.returned (Value.string x)) (st_append [111, 110, 99, 101, 58] F), Below.step hB1.out hb2⟩
set_option maxRecDepth 100000 in
theorem sFormatAction_any (k c m n : Int) (hr : rng m) (hn : rng n) {w : World} (hp : Pow10 w) (hm : MaxL w) : Calls Tryd.prog 25 #[actW k c m n] w fun e w' => e = .returned (.string (st (faL k c m n))) ∧ Below w.heap.size w w' := by
  cases h : isAct k c m n
  · have e : faL k c m n = [] := by unfold faL; rw [h]; rfl
    rw [e]
    have HA := hid (h ▸ sIsAction_any k c m n)
    clear e h hm hp
    go_enter Tryd.func25, Tryd.ntmps25
    go_wp2_with fail
    refine (HA.out _).mono ?_
    rintro e w1 ⟨rfl, hb1⟩
    go_wp2
    go_ret
    exact ⟨rfl, Below.step ((Below.refl w.heap.size w).alloc (Nat.le_refl _) _) hb1⟩
  · have e : faL k c m n = fT k c m n := by unfold faL; rw [h]; rfl
    rw [e]
    rcases kinds k with h1 | rfl | rfl | rfl | rfl | rfl | rfl | rfl | rfl | rfl | rfl | rfl
    · unfold isAct at h; rw [act_other h1] at h; cases h
    · exact sFA_0 c m n hr hn h hp hm
    · exact sFA_1 c m n hr hn h hp hm
    · by_cases hm0 : m = 0
      · have e2 : fT 2 c m n = cnm c := by unfold fT; simp [hm0]
        rw [e2]; exact sFA_2b c m n hm0 hr hn h hp hm
      · have e2 : fT 2 c m n = TX.fmT m ++ 45 :: cnm c := by unfold fT; simp [hm0]
        rw [e2]; exact sFA_2a c m n hm0 hr hn h hp hm
    · exact sFA_3 c m n hr hn h hp hm
    · exact sFA_4 c m n hr hn h hp hm
    · exact sFA_5 c m n hr hn h hp hm
    · exact sFA_6 c m n hr hn h hp hm
    · exact sFA_7 c m n hr hn h hp hm
    · exact sFA_8 c m n hr hn h hp hm
    · exact sFA_9 c m n hr hn h hp hm
    · exact sFA_10 c m n hr hn h hp hm
set_option maxRecDepth 100000 in
theorem walk_FnExactFormatAction {w : World} (k c m n : Int) (_ : (Lit.int .i64 k).wf = true) (_ : (Lit.int .i64 c).wf = true) (wm : (Lit.int .i64 m).wf = true) (wn : (Lit.int .i64 n).wf = true) (hp : Pow10 w) (hm : MaxL w) : Calls Tryd.prog 8 #[actW k c m n] w fun e w' => e = .returned (.bool true) ∧ Below w.heap.size w w' := by
  have hr := i64_wf wm
  have hn := i64_wf wn
  have HT := hid (toAct_any k c m n)
  have HS := hid (fun (W : World) (hp : Pow10 W) (hm : MaxL W) => sFormatAction_any k c m n hr hn hp hm)
  have HI := hid (fun (W : World) (hp : Pow10 W) (hm : MaxL W) => iFormatAction_any k c m n hr hn hp hm)
  have HM := hid hm
  have HP := hid hp
  clear hp hm hr hn wm wn
  go_enter Tryd.func8, Tryd.ntmps8
  go_wp2_with fail
  refine (HT.out _).mono ?_
  rintro e w1 ⟨rfl, hb1⟩
  have hbx := (Blk.new w 36 #[.int .i64 k, .int .i64 c, .int .i64 m, .int .i64 n]).bel hb1
  have HX := hid hbx
  have hB1 := Below.step ((Below.refl w.heap.size w).alloc (Nat.le_refl _) (.cells #[.int .i64 k, .int .i64 c, .int .i64 m, .int .i64 n] 36)) hb1
  have HM1 := hid (HM.out.below hB1)
  have HP1 := hid (TabIs_below HP.out hB1)
  have HB1 := hid hB1
  clear hbx hb1 hB1
  go_wp2_with fail
  refine (HS.out _ HP1.out HM1.out).mono ?_
  rintro e w2 ⟨rfl, hb2⟩
  have HB2 := hid (Below.step HB1.out hb2)
  have hx2 := HX.out.bel hb2
  have HX2 := hid hx2
  have r0 := hx2.cell 0
  have r1 := hx2.cell 1
  have r2 := hx2.cell 2
  have r3 := hx2.cell 3
  simp only [List.getElem?_toArray, List.getElem?_cons_zero, List.getElem?_cons_succ] at r0 r1 r2 r3
  clear hb2 hx2
  go_wp2_with fail
  refine (HT.out _).mono ?_
  rintro e w3 ⟨rfl, hb3⟩
  have HB3 := hid (Below.step HB2.out hb3)
  have HM3 := hid (HM.out.below HB3.out)
  have HP3 := hid (TabIs_below HP.out HB3.out)
  clear hb3
  go_wp2_with fail
  refine (HI.out _ HP3.out HM3.out).mono ?_
  rintro e w4 ⟨rfl, hb4⟩
  have HB4 := hid (Below.step HB3.out hb4)
  clear hb4
  go_wp2
  go_ret
  exact ⟨rfl, HB4.out⟩
end Go.Proofs.YtpfocjdhjkifmaaDoor
