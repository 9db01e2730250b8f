/- Walk: heap.nulls. -/
import Derived.Test.YtgllgemjfpiogaaHeap
namespace Go.Proofs.Ytgllgemjfpiogaa
open Go.RowKit

theorem Hid.mk'' {p : Prop} (h : p) : Hid p := h
def nullO : O := ⟨1, false, 0, 0, 0, ⟨#[]⟩⟩
theorem Try.infoObj : (Try.prog.info? 28).map (fun i => (i.zero, i.size, i.bytes)) = some (some O.nil.val, 6, 56) := by kernel_rfl
theorem Try.underObjs : Try.prog.underlying 41 = some (.slice 28) := by kernel_rfl
def zrow (n : Nat) : Array Value := madeCells O.nil.cells.toArray (n * 6)
theorem run_make_objs (n : Nat) (hn : n ≤ 1000000) (w : World) :
    (Instr.makeSlice 41 (.int .i64 (n : Int)) (.int .i64 (n : Int))).run Try.prog w = .ok (.slice (some ⟨w.heap.size, 0, none⟩) n n) (w.alloc (.cells (zrow n) 28)) := by
  obtain ⟨i0, hi, hz0, hz1, hz2⟩ := info_parts Try.infoObj
  have hr := run_make (P := Try.prog) w _ _ i0 _ Try.underObjs hi hz0 .i64 .i64 n n (by omega) (Int.le_refl _) (by rw [hz2]; omega) (by omega)
  simp only [Int.toNat_natCast, hz1] at hr
  exact hr
theorem zrow_toList (n : Nat) : (zrow n).toList = (List.replicate n O.nil).flatMap O.cells := by
  apply List.ext_getElem?
  intro m
  have hm : m = m / 6 * 6 + m % 6 := by omega
  have hr : m % 6 < 6 := Nat.mod_lt _ (by omega)
  have hmod : m % 6 = m % 6 := rfl
  rw [hm, flat_get O.cells 6 cells_length _ hr]
  simp only [List.getElem?_replicate]
  by_cases h : m / 6 < n
  · have h2 : m / 6 * 6 + m % 6 < n * 6 := by omega
    rw [if_pos h]
    simp only [zrow, madeCells, Array.toList_map, Array.toList_range, List.getElem?_map, List.getElem?_range h2, Option.map_some, Option.bind_some]
    have : (m / 6 * 6 + m % 6) % 6 = m % 6 := by omega
    generalize m % 6 = r at *
    simp only [O.nil, O.cells, List.size_toArray, List.length_cons, List.length_nil]
    rw [this]
    have c : r = 0 ∨ r = 1 ∨ r = 2 ∨ r = 3 ∨ r = 4 ∨ r = 5 := by omega
    rcases c with rfl | rfl | rfl | rfl | rfl | rfl <;> rfl
  · rw [if_neg h]
    simp [zrow, madeCells]; omega

theorem flat_set0 (L : List O) (j : Nat) (hj : j < L.length) (o : O) (v : Value) (h : o.cells = L[j].cells.set 0 v) : (L.set j o).flatMap O.cells = (L.flatMap O.cells).set (j * 6) v := by
  induction L generalizing j with
  | nil => simp at hj
  | cons x L ih =>
    cases j with
    | zero =>
      simp only [List.getElem_cons_zero] at h
      simp only [List.set_cons_zero, List.flatMap_cons, h, Nat.zero_mul]
      rw [List.set_append_left _ _ (by simp [cells_length])]
    | succ j =>
      simp only [List.getElem_cons_succ] at h
      simp only [List.set_cons_succ, List.flatMap_cons]
      rw [ih j (by simpa using hj) h, List.set_append_right _ _ (by simp [cells_length]; omega)]
      congr 2
      simp [cells_length]; omega
theorem rep_set (n k : Nat) (hk : k < n) : (List.replicate k nullO ++ List.replicate (n - k) O.nil).set k nullO = List.replicate (k + 1) nullO ++ List.replicate (n - (k + 1)) O.nil := by
  rw [List.set_append_right _ _ (by simp)]
  obtain ⟨m, rfl⟩ : ∃ m, n = k + 1 + m := ⟨n - (k + 1), by omega⟩
  rw [show k + 1 + m - k = m + 1 by omega, show k + 1 + m - (k + 1) = m by omega]
  rw [List.length_replicate, Nat.sub_self, List.replicate_succ (n := m), List.set_cons_zero, List.replicate_succ' (n := k), List.append_assoc, List.singleton_append]

theorem nulls_any (n : Nat) (hn : n ≤ 1000000) (w : World) :
   Calls Try.prog 47 #[.int .i64 n] w fun e w' => e = .returned (.slice (some ⟨w.heap.size, 0, none⟩) n n) ∧ Chg NoB w w' ∧
     ∃ cur : Array Value, w'.heap[w.heap.size]? = some (.cells cur 28 (0, 0)) ∧ cur.toList = (List.replicate n nullO).flatMap O.cells := by
  have hmk := run_make_objs n hn w
  go_enter Try.func47, Try.ntmps47
  go_wp2
  go_loopw [4, 9] (fun _ i9 wr => ∃ (k : Nat) (cur : Array Value), k ≤ n ∧ i9 = .int .i64 k ∧ wr.heap[w.heap.size]? = some (.cells cur 28 (0, 0)) ∧ cur.toList = (List.replicate k nullO ++ List.replicate (n - k) O.nil).flatMap O.cells ∧ Chg NoB w wr) (fun _ i9 _ => n - (intOf i9).toNat)
  case atStart => exact ⟨0, _, Nat.zero_le _, rfl, blk_new w _, by simp [zrow_toList], (Chg.refl _ _).alloc _⟩
  case round =>
    obtain ⟨k, cur, hk, rfl, hc, hl, X⟩ := hrel
    have R := cells_of hc
    have Z := free_of hc
    have lc := blk_lt hc
    by_cases hlt : k < n
    · have e0 : cur[k * 6]? = some (.int .i64 0) := by
        have := flat_get O.cells 6 cells_length 0 (by omega) (List.replicate k nullO ++ List.replicate (n - k) O.nil) k
        rw [← hl] at this
        simp only [Nat.add_zero, Array.getElem?_toList] at this
        rw [this, List.getElem?_append_right (by simp)]
        simp [show 0 < n - k by omega, O.cells, O.nil]
      have HL := Hid.mk'' hl
      clear hl hmk
      go_wp2
      go_roundw
      case rel =>
        refine ⟨k + 1, _, by omega, by go_num, blk_set hc (k * 6) (.int .i64 1), ?_, X.setCell (.inr (Nat.le_refl _)) _⟩
        rw [Array.toList_setIfInBounds, HL.out, ← rep_set n k hlt]
        refine (flat_set0 _ k (by simp; omega) nullO _ ?_).symm
        rw [List.getElem_append_right (by simp)]
        simp [O.cells, O.nil, nullO]
      case measure => simp [intOf]; omega
    · have hkn : k = n := by omega
      subst hkn
      go_wp2
      go_ret
      exact ⟨rfl, X, cur, hc, by simpa using hl⟩
end Go.Proofs.Ytgllgemjfpiogaa
