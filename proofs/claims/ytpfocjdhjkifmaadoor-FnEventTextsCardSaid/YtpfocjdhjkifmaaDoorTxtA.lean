/- Texts: digits of a number, the marks of the laws. Conditions: none of its own. -/
import Derived.Test.YtpfocjdhjkifmaaDoorSlG
import Derived.Laws.IdiomStrings
namespace Go.Proofs.YtpfocjdhjkifmaaDoor
open Go.RowKit
set_option linter.unusedVariables false

/-- The decimal digits of a number, none for zero. -/
def digs (n : Nat) : List UInt8 := if h : n = 0 then [] else digs (n / 10) ++ [UInt8.ofNat (48 + n % 10)]
termination_by n
decreasing_by omega
theorem digs_zero : digs 0 = [] := by rw [digs]; rfl
theorem digs_pos {n : Nat} (h : n ≠ 0) : digs n = digs (n / 10) ++ [UInt8.ofNat (48 + n % 10)] := by rw [digs, dif_neg h]
theorem digs_le (n : Nat) : (digs n).length ≤ n := by
  induction n using Nat.strongRecOn with
  | ind n ih =>
    by_cases h : n = 0
    · subst h; rw [digs_zero]; exact Nat.le_refl _
    · rw [digs_pos h, List.length_append]
      have := ih (n / 10) (by omega)
      simp; omega
def st (l : List UInt8) : ByteArray := ⟨l.toArray⟩
theorem st_size (l : List UInt8) : (st l).size = l.length := by simp [st, ByteArray.size]
theorem st_append (a b : List UInt8) : st a ++ st b = st (a ++ b) := ByteArray.mk_append_mk a b
theorem st_toList (l : List UInt8) : (st l).toList = l := ByteArray.toList_mk l
theorem st_of (s : ByteArray) : st s.data.toList = s := rfl
/-- The text of the mark of a number. -/
def mt (k : Nat) : ByteArray := st (109 :: digs k)
theorem run_bytes_text {w : World} (src dst e : TypeId) (g cap : Nat) (l : List UInt8) (n : Nat) (hn : n = l.length) (t : TypeId) (cs : Array Value) (hb : Blk w g t cs) (hs : Tryd.prog.underlying src = some (.slice e)) (he : Tryd.prog.underlying e = some (.int .u8)) (hd : Tryd.prog.underlying dst = some .string)
    (hc : ∀ j (hj : j < l.length), cs[j]? = some (.int .u8 (l[j].toNat : Int))) :
    (convert src dst (.slice (some ⟨g, 0, none⟩) n cap)).run Tryd.prog w = .ok (.string (st l)) w := by
  subst hn
  refine run_convert_bytes_back w src dst e _ cap l hs he hd (fun j hj => ?_)
  have : (⟨g, 0, none⟩ : Addr).add j = ⟨g, j, none⟩ := by unfold Addr.add; split <;> simp_all
  rw [this, hb.cell j]
  exact hc j hj
theorem string_info : (Tryd.prog.info? 9).map (fun i => (i.zero, i.size, i.bytes)) = some (some (.string ByteArray.empty), 1, 16) := by kernel_rfl
abbrev sV : ByteArray → Value := Value.string
abbrev OwnT := OwnG sV 9
abbrev RdT := RdG sV
abbrev MadeT := MadeG sV 9
end Go.Proofs.YtpfocjdhjkifmaaDoor
