/- A string made into bytes: what the world becomes. -/
import Derived.Test.YtgllgemjfpiogaaHeap
namespace Go.Proofs.Ytgllgemjfpiogaa
open Go.RowKit
theorem Try.underStr : Try.prog.underlying 9 = some .string := by kernel_rfl
theorem Try.underBytes : Try.prog.underlying 22 = some (.slice 5) := by kernel_rfl
theorem Try.underByte : Try.prog.underlying 5 = some (.int .u8) := by kernel_rfl
def strCap (w : World) (s : ByteArray) : Nat := (Question.appendCap s.size 0 5).cut (w.tape w.drawn (Question.appendCap s.size 0 5))
def strCells (w : World) (s : ByteArray) : Array Value := (s.data.map fun b => Value.int .u8 b.toNat) ++ Array.replicate (strCap w s - s.size) (.int .u8 0)
def strW (w : World) (s : ByteArray) : World := (w.drew.alloc (.cells (strCells w s) 5)).freeze ⟨w.heap.size, (strCells w s).size, none⟩ 1
theorem run_str_bytes (s : ByteArray) (w : World) : (convert 9 22 (.string s)).run Try.prog w = .ok (.slice (some ⟨w.heap.size, 0, none⟩) s.size (strCap w s)) (strW w s) := by
  simp only [convert, Sem.run_bind, run_underlying Try.underStr, run_underlying Try.underBytes, run_underlying Try.underByte, Result.andThen_ok, Conv.stringToBytes, run_choose, Question.forced, newRow, run_newObj, Sem.run_pure, markStringish, run_shape, if_false, Bool.false_eq_true]
  have e : (w.drew.alloc (.cells (strCells w s) 5)).shape? w.heap.size = some (5, (strCells w s).size) := by
    have := blk_new w.drew (.cells (strCells w s) 5)
    simp only [World.size_drew] at this
    simp only [World.shape?, this]
  simp only [World.alloc, World.drew, strCells, strCap] at e
  rw [e]
  rfl
theorem strCap_ge (w : World) (s : ByteArray) : s.size ≤ strCap w s := by simp [strCap, Question.cut]
theorem strCap_le (w : World) (s : ByteArray) (h : s.size ≤ maxLen) : strCap w s ≤ maxLen := by
  have hlt := Nat.mod_lt (w.tape w.drawn (Question.appendCap s.size 0 5)) (show 0 < 2 ^ 63 - s.size by simp only [maxLen] at h; omega)
  simp only [strCap, Question.cut, maxLen] at h ⊢
  omega
theorem strCells_size (w : World) (s : ByteArray) : (strCells w s).size = strCap w s := by
  have := strCap_ge w s
  have e : s.data.size = s.size := rfl
  simp [strCells, e]; omega
theorem strW_blk (w : World) (s : ByteArray) : (strW w s).heap[w.heap.size]? = some (.cells (strCells w s) 5 ((strCells w s).size, (strCells w s).size + 1)) := by
  have := blk_new w.drew (.cells (strCells w s) 5)
  simp only [World.size_drew] at this
  simp only [strW, World.freeze, Nat.succ_ne_zero, if_false, Array.getElem?_modify, if_true, this, Option.map_some]
  simp
theorem strW_chg (w : World) (s : ByteArray) : Chg NoB w (strW w s) := by
  refine ⟨rfl, rfl, rfl, by simp [strW, World.freeze], fun k hk _ => ?_⟩
  simp only [strW, World.freeze, Nat.succ_ne_zero, if_false, Array.getElem?_modify]
  rw [if_neg (by omega)]
  exact Below.heap_alloc _ _ _ hk
@[go_sem] theorem strW_size (w : World) (s : ByteArray) : (strW w s).heap.size = w.heap.size + 1 := by simp [strW, World.freeze]
theorem strW_row {w W : World} {s : ByteArray} (hs : s.size ≤ 40000) (h : Chg NoB (strW w s) W) : Row W 5 1 (.slice (some ⟨w.heap.size, 0, none⟩) s.size (strCap w s)) s.size (s.toList.map vu8) := by
  have e : s.toList.length = s.size := by rw [ByteArray.toList_eq]; rfl
  refine ⟨by simp [e], .inr ⟨_, _, _, _, rfl, h.blk (strW_blk w s) id, .inr (Nat.le_refl _), strCap_ge w s, strCap_le w s (by unfold maxLen; omega), by rw [strCells_size]; omega, ?_⟩⟩
  simp only [strCells, Array.toList_append, Nat.mul_one, Array.toList_map]
  rw [List.take_append_of_le_length (by simp), ByteArray.toList_eq, List.take_of_length_le (by simp)]
end Go.Proofs.Ytgllgemjfpiogaa
