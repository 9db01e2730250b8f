/- Parts of the proof: Hnul, Str, Rfm. -/
import Derived.Deep.DeepCutAuto
import Derived.Test.YtoogmimbmgdflaaGreatY01
namespace Go.Proofs.YtoogmimbmgdflaaGreat
open Go.RowKit
theorem Hid.mk'' {p : Prop} (h : p) : Hid p := h
def nullO : O := ⟨1, false, 0, 0, 0, ⟨#[]⟩⟩
theorem Tryz.infoObj : (Tryz.prog.info? 39).map (fun i => (i.zero, i.size, i.bytes)) = some (some O.nil.val, 6, 56) := by kernel_rfl
theorem Tryz.underObjs : Tryz.prog.underlying 42 = some (.slice 39) := by kernel_rfl
def zrow (n : Nat) : Array Value := madeCells O.nil.cells.toArray (n * 6)
theorem run_make_objs (n : Nat) (hn : n ≤ 1000000) (w : World) :
 (Instr.makeSlice 42 (.int .i64 (n : Int)) (.int .i64 (n : Int))).run Tryz.prog w = .ok (.slice (some ⟨w.heap.size, 0, none⟩) n n) (w.alloc (.cells (zrow n) 39)) := by
 obtain ⟨i0, hi, hz0, hz1, hz2⟩ := info_parts Tryz.infoObj; have hr := run_make (P := Tryz.prog) w _ _ i0 _ Tryz.underObjs hi hz0 .i64 .i64 n n (by omega) (Int.le_refl _) (by rw [hz2]; omega) (by omega); simp only [Int.toNat_natCast, hz1] at hr; exact hr
theorem zrow_toList (n : Nat) : (zrow n).toList = (List.replicate n O.nil).flatMap O.cells := by
 apply List.ext_getElem?
 intro m
 have hm : m = m / 6 * 6 + m % 6 := by omega
 have hr : m % 6 < 6 := Nat.mod_lt _ (by omega); have hmod : m % 6 = m % 6 := rfl; rw [hm, flat_get O.cells 6 cells_length _ hr]; simp only [List.getElem?_replicate]
 by_cases h : m / 6 < n
 · have h2 : m / 6 * 6 + m % 6 < n * 6 := by omega
   rw [if_pos h]; simp only [zrow, madeCells, Array.toList_map, Array.toList_range, List.getElem?_map, List.getElem?_range h2, Option.map_some, Option.bind_some]
   have : (m / 6 * 6 + m % 6) % 6 = m % 6 := by omega
   generalize m % 6 = r at *; simp only [O.nil, O.cells, List.size_toArray, List.length_cons, List.length_nil]; rw [this]
   have c : r = 0 ∨ r = 1 ∨ r = 2 ∨ r = 3 ∨ r = 4 ∨ r = 5 := by omega
   rcases c with rfl | rfl | rfl | rfl | rfl | rfl <;> rfl
 · rw [if_neg h]; simp [zrow, madeCells]; omega
theorem flat_set0 (L : List O) (j : Nat) (hj : j < L.length) (o : O) (v : Value) (h : o.cells = L[j].cells.set 0 v) : (L.set j o).flatMap O.cells = (L.flatMap O.cells).set (j * 6) v := by
 induction L generalizing j with
 | nil => simp at hj
 | cons x L ih =>
  cases j with
  | zero =>
   simp only [List.getElem_cons_zero] at h; simp only [List.set_cons_zero, List.flatMap_cons, h, Nat.zero_mul]; rw [List.set_append_left _ _ (by simp [cells_length])]
  | succ j =>
   simp only [List.getElem_cons_succ] at h; simp only [List.set_cons_succ, List.flatMap_cons]; rw [ih j (by simpa using hj) h, List.set_append_right _ _ (by simp [cells_length]; omega)]
   congr 2
   simp [cells_length]; omega
theorem rep_set (n k : Nat) (hk : k < n) : (List.replicate k nullO ++ List.replicate (n - k) O.nil).set k nullO = List.replicate (k + 1) nullO ++ List.replicate (n - (k + 1)) O.nil := by
 rw [List.set_append_right _ _ (by simp)]
 obtain ⟨m, rfl⟩ : ∃ m, n = k + 1 + m := ⟨n - (k + 1), by omega⟩
 rw [show k + 1 + m - k = m + 1 by omega, show k + 1 + m - (k + 1) = m by omega]; rw [List.length_replicate, Nat.sub_self, List.replicate_succ (n := m), List.set_cons_zero, List.replicate_succ' (n := k), List.append_assoc, List.singleton_append]
theorem nulls_any (n : Nat) (hn : n ≤ 1000000) (w : World) :
 Calls Tryz.prog 102 #[.int .i64 n] w fun e w' => e = .returned (.slice (some ⟨w.heap.size, 0, none⟩) n n) ∧ Chg NoB w w' ∧
  ∃ cur : Array Value, w'.heap[w.heap.size]? = some (.cells cur 39 (0, 0)) ∧ cur.toList = (List.replicate n nullO).flatMap O.cells := by
 have hmk := run_make_objs n hn w; go_enter Tryz.func102, Tryz.ntmps102
 go_wp2
 go_loopw [4, 9] (fun _ i9 wr => ∃ (k : Nat) (cur : Array Value), k ≤ n ∧ i9 = .int .i64 k ∧ wr.heap[w.heap.size]? = some (.cells cur 39 (0, 0)) ∧ cur.toList = (List.replicate k nullO ++ List.replicate (n - k) O.nil).flatMap O.cells ∧ Chg NoB w wr) (fun _ i9 _ => n - (intOf i9).toNat)
 case atStart => exact ⟨0, _, Nat.zero_le _, rfl, blk_new w _, by simp [zrow_toList], (Chg.refl _ _).alloc _⟩
 case round =>
  obtain ⟨k, cur, hk, rfl, hc, hl, X⟩ := hrel; have R := cells_of hc; have Z := free_of hc; have lc := blk_lt hc
  by_cases hlt : k < n
  · have e0 : cur[k * 6]? = some (.int .i64 0) := by
     have := flat_get O.cells 6 cells_length 0 (by omega) (List.replicate k nullO ++ List.replicate (n - k) O.nil) k; rw [← hl] at this; simp only [Nat.add_zero, Array.getElem?_toList] at this; rw [this, List.getElem?_append_right (by simp)]; simp [show 0 < n - k by omega, O.cells, O.nil]
    have HL := Hid.mk'' hl; clear hl hmk; go_wp2
    go_roundw
    case rel =>
     refine ⟨k + 1, _, by omega, by go_num, blk_set hc (k * 6) (.int .i64 1), ?_, X.setCell (.inr (Nat.le_refl _)) _⟩; rw [Array.toList_setIfInBounds, HL.out, ← rep_set n k hlt]; refine (flat_set0 _ k (by simp; omega) nullO _ ?_).symm; rw [List.getElem_append_right (by simp)]; simp [O.cells, O.nil, nullO]
    case measure => simp [intOf]; omega
  · have hkn : k = n := by omega
    subst hkn; go_wp2
    go_ret; exact ⟨rfl, X, cur, hc, by simpa using hl⟩
theorem Tryz.underStr : Tryz.prog.underlying 9 = some .string := by kernel_rfl
theorem Tryz.underBytes : Tryz.prog.underlying 99 = some (.slice 5) := by kernel_rfl
theorem Tryz.underByte : Tryz.prog.underlying 5 = some (.int .u8) := by kernel_rfl
def strCap (w : World) (s : ByteArray) : Nat := (Question.appendCap s.size 0 5).cut (w.tape w.drawn (Question.appendCap s.size 0 5))
def strCells (w : World) (s : ByteArray) : Array Value := (s.data.map fun b => Value.int .u8 b.toNat) ++ Array.replicate (strCap w s - s.size) (.int .u8 0)
def strW (w : World) (s : ByteArray) : World := (w.drew.alloc (.cells (strCells w s) 5)).freeze ⟨w.heap.size, (strCells w s).size, none⟩ 1
theorem run_str_bytes (s : ByteArray) (w : World) : (convert 9 99 (.string s)).run Tryz.prog w = .ok (.slice (some ⟨w.heap.size, 0, none⟩) s.size (strCap w s)) (strW w s) := by
 simp only [convert, Sem.run_bind, run_underlying Tryz.underStr, run_underlying Tryz.underBytes, run_underlying Tryz.underByte, Result.andThen_ok, Conv.stringToBytes, run_choose, Question.forced, newRow, run_newObj, Sem.run_pure, markStringish, run_shape, if_false, Bool.false_eq_true]
 have e : (w.drew.alloc (.cells (strCells w s) 5)).shape? w.heap.size = some (5, (strCells w s).size) := by
  have := blk_new w.drew (.cells (strCells w s) 5); simp only [World.size_drew] at this; simp only [World.shape?, this]
 simp only [World.alloc, World.drew, strCells, strCap] at e; rw [e]; rfl
theorem strCap_ge (w : World) (s : ByteArray) : s.size ≤ strCap w s := by simp [strCap, Question.cut]
theorem strCap_le (w : World) (s : ByteArray) (h : s.size ≤ maxLen) : strCap w s ≤ maxLen := by
 have hlt := Nat.mod_lt (w.tape w.drawn (Question.appendCap s.size 0 5)) (show 0 < 2 ^ 63 - s.size by simp only [maxLen] at h; omega); simp only [strCap, Question.cut, maxLen] at h ⊢; omega
theorem strCells_size (w : World) (s : ByteArray) : (strCells w s).size = strCap w s := by
 have := strCap_ge w s; have e : s.data.size = s.size := rfl; simp [strCells, e]; omega
theorem strW_blk (w : World) (s : ByteArray) : (strW w s).heap[w.heap.size]? = some (.cells (strCells w s) 5 ((strCells w s).size, (strCells w s).size + 1)) := by
 have := blk_new w.drew (.cells (strCells w s) 5); simp only [World.size_drew] at this; simp only [strW, World.freeze, Nat.succ_ne_zero, if_false, Array.getElem?_modify, if_true, this, Option.map_some]; simp
theorem strW_chg (w : World) (s : ByteArray) : Chg NoB w (strW w s) := by
 refine ⟨rfl, rfl, rfl, by simp [strW, World.freeze], fun k hk _ => ?_⟩; simp only [strW, World.freeze, Nat.succ_ne_zero, if_false, Array.getElem?_modify]; rw [if_neg (by omega)]; exact Below.heap_alloc _ _ _ hk
@[go_sem] theorem strW_size (w : World) (s : ByteArray) : (strW w s).heap.size = w.heap.size + 1 := by simp [strW, World.freeze]
theorem strW_row {w W : World} {s : ByteArray} (hs : s.size ≤ 40000) (h : Chg NoB (strW w s) W) : Row W 5 1 (.slice (some ⟨w.heap.size, 0, none⟩) s.size (strCap w s)) s.size (s.toList.map vu8) := by
 have e : s.toList.length = s.size := by rw [ByteArray.toList_eq]; rfl
 refine ⟨by simp [e], .inr ⟨_, _, _, _, rfl, h.blk (strW_blk w s) id, .inr (Nat.le_refl _), strCap_ge w s, strCap_le w s (by unfold maxLen; omega), by rw [strCells_size]; omega, ?_⟩⟩; simp only [strCells, Array.toList_append, Nat.mul_one, Array.toList_map]; rw [List.take_append_of_le_length (by simp), ByteArray.toList_eq, List.take_of_length_le (by simp)]
theorem in_any (v a b : Int) (w : World) : Calls Tryz.prog 128 #[.int .i64 v, .int .i64 a, .int .i64 b] w fun e w' => e = .returned (.bool (decide (a ≤ v) && decide (v ≤ b))) ∧ w = w' := by
 by_cases h1 : a ≤ v <;> by_cases h2 : v ≤ b
 all_goals
  go_enter Tryz.func128, Tryz.ntmps128
  go_wp2_with fail
  go_ret; exact ⟨by simp [h1, h2], rfl⟩
theorem may_clamp (k n a l : Int) (x : Bool) (s : ByteArray) (h : k = 2 ∨ k = 3 ∨ k = 4 ∨ k = 7 ∨ k = 10 ∨ k = 11) : eqO (bareO ⟨k, x, n, a, l, s⟩) { O.nil with kind := k } = (decide (a = 0) && decide (l = 0) && decide (s = ⟨#[]⟩)) := by
 rw [Bool.eq_iff_iff, eqO_iff]
 rcases h with rfl | rfl | rfl | rfl | rfl | rfl <;> simp [bareO, O.nil, and_assoc]
set_option maxRecDepth 100000 in
set_option maxHeartbeats 4000000 in
theorem rmay_num (k n a l : Int) (x : Bool) (s : ByteArray) (h : k = 2 ∨ k = 3 ∨ k = 4 ∨ k = 7 ∨ k = 10 ∨ k = 11) (w : World) :
 Calls Tryz.prog 91 #[(⟨k, x, n, a, l, s⟩ : O).val] w fun e w' => e = .returned (.bool (mayO ⟨k, x, n, a, l, s⟩)) ∧ Chg NoB w w' := by
 have hm : mayO ⟨k, x, n, a, l, s⟩ = (eqO (bareO ⟨k, x, n, a, l, s⟩) { O.nil with kind := k } && _) := rfl; rw [may_clamp k n a l x s h] at hm; have HM := hid' hm
 rcases h with rfl | rfl | rfl | rfl | rfl | rfl
 all_goals
  clear hm; go_enter Tryz.func91, Tryz.ntmps91
  go_wp2_with fail
  all_goals
   go_ret; refine ⟨congrArg (fun b => Ending.returned (.bool b)) (?_ : eqO _ _ = _), ((Chg.refl NoB w).alloc _).alloc _⟩; rw [HM.out, Bool.eq_iff_iff, eqO_iff]; simp only [O.mk.injEq, true_and, Bool.and_eq_true, decide_eq_true_eq]; simp only [Int.reduceEq, or_self, if_false, if_true, Bool.and_eq_true, decide_eq_true_eq]
   constructor <;> intro hh <;> (try simp_all) <;> (try omega)
set_option maxRecDepth 100000 in
set_option maxHeartbeats 4000000 in
theorem rmay_plain (k n a l : Int) (x : Bool) (s : ByteArray) (h : k = 1 ∨ k = 6) (w : World) :
 Calls Tryz.prog 91 #[(⟨k, x, n, a, l, s⟩ : O).val] w fun e w' => e = .returned (.bool (mayO ⟨k, x, n, a, l, s⟩)) ∧ Chg NoB w w' := by
 have hm : eqO ⟨k, x, n, a, l, s⟩ ⟨k, x, 0, 0, 0, ⟨#[]⟩⟩ = mayO ⟨k, x, n, a, l, s⟩ := by
  rw [Bool.eq_iff_iff, eqO_iff]
  rcases h with rfl | rfl <;> simp [mayO, eqO, bareO, O.nil]
 have HM := hid' hm; clear hm
 rcases h with rfl | rfl
 all_goals
  go_enter Tryz.func91, Tryz.ntmps91
  go_wp2_with fail
  go_ret; exact ⟨congrArg (fun b => Ending.returned (.bool b)) HM.out, ((Chg.refl NoB w).alloc _).alloc _⟩
set_option maxRecDepth 100000 in
set_option maxHeartbeats 4000000 in
theorem rmay_name (n a l : Int) (x : Bool) (s : ByteArray) (w : World) :
 Calls Tryz.prog 91 #[(⟨5, x, n, a, l, s⟩ : O).val] w fun e w' => e = .returned (.bool (mayO ⟨5, x, n, a, l, s⟩)) ∧ Chg NoB w w' := by
 by_cases hs : s.size ≤ 100
 · have hm : eqO ⟨5, x, n, a, l, s⟩ ⟨5, x, 0, 0, 0, s⟩ = mayO ⟨5, x, n, a, l, s⟩ := by
    rw [Bool.eq_iff_iff, eqO_iff]; simp [mayO, eqO, bareO, O.nil]
    omega
   have HM := hid' hm
   have hx : s.extract 0 s.size = s := by apply ByteArray.ext; rw [ByteArray.data_extract]; exact Array.extract_size ..
   have h1 : min (s.size : Int) 100 = s.size := by omega
   have hsi : (s.size : Int) ≤ 100 := by omega
   clear hm hs; go_enter Tryz.func91, Tryz.ntmps91
   go_wp2_with fail
   go_ret; exact ⟨congrArg (fun b => Ending.returned (.bool b)) HM.out, ((Chg.refl NoB w).alloc _).alloc _⟩
 · have hne : s ≠ s.extract 0 100 := by
    intro e; have := congrArg ByteArray.size e; rw [ByteArray.size_extract] at this; omega
   have hm : eqO ⟨5, x, n, a, l, s⟩ ⟨5, x, 0, 0, 0, s.extract 0 100⟩ = mayO ⟨5, x, n, a, l, s⟩ := by
    rw [Bool.eq_iff_iff, eqO_iff]; simp [mayO, eqO, bareO, O.nil, hne]
    omega
   have HM := hid' hm
   have h1 : min (s.size : Int) 100 = 100 := by omega
   have hsi : (100 : Int) < s.size := by omega
   clear hm hs hne; go_enter Tryz.func91, Tryz.ntmps91
   go_wp2_with fail
   all_goals
    go_ret; exact ⟨congrArg (fun b => Ending.returned (.bool b)) HM.out, ((Chg.refl NoB w).alloc _).alloc _⟩
set_option maxRecDepth 100000 in
set_option maxHeartbeats 4000000 in
theorem rmay_row (k n a l : Int) (x : Bool) (s : ByteArray) (h : k = 8 ∨ k = 9) (w : World) :
 Calls Tryz.prog 91 #[(⟨k, x, n, a, l, s⟩ : O).val] w fun e w' => e = .returned (.bool (mayO ⟨k, x, n, a, l, s⟩)) ∧ Chg NoB w w' := by
 obtain ⟨e, he⟩ : ∃ e, eqO ⟨k, x, n, a, l, s⟩ ⟨k, x, n, a, l, ⟨#[]⟩⟩ = e := ⟨_, rfl⟩
 have HI1 := hid' (fun w => in_any n 0 40000 w); have HI2 := hid' (fun w => in_any a 0 40000 w); have HI3 := hid' (fun w => in_any l 0 40000 w)
 have hm : (e && ((decide (0 ≤ n) && decide (n ≤ 40000)) && (decide (0 ≤ a) && decide (a ≤ 40000)) && (decide (0 ≤ l) && decide (l ≤ 40000)))) = mayO ⟨k, x, n, a, l, s⟩ := by
  rw [← he, Bool.eq_iff_iff, Bool.and_eq_true, eqO_iff]
  rcases h with rfl | rfl <;> simp [mayO, eqO, bareO, O.nil]
 have HM := hid' hm; clear hm; generalize (decide (0 ≤ n) && decide (n ≤ 40000)) = b1 at *; generalize (decide (0 ≤ a) && decide (a ≤ 40000)) = b2 at *; generalize (decide (0 ≤ l) && decide (l ≤ 40000)) = b3 at *; generalize mayO ⟨k, x, n, a, l, s⟩ = mm at *
 cases e <;> cases b1 <;> cases b2 <;> rcases h with rfl | rfl
 all_goals
  go_enter Tryz.func91, Tryz.ntmps91
  go_wp2_with fail
  go_region
  go_wp2_with (go_at_call 128; first | ((with_reducible refine (HI1.out _).mono ?_); rintro r w2 ⟨rfl, rfl⟩) | ((with_reducible refine (HI2.out _).mono ?_); rintro r w2 ⟨rfl, rfl⟩) | ((with_reducible refine (HI3.out _).mono ?_); rintro r w2 ⟨rfl, rfl⟩))
  go_ret; exact ⟨congrArg (fun b => Ending.returned (.bool b)) (by simpa using HM.out), (((Chg.refl NoB w).alloc _).alloc _).drew⟩
theorem rmay_any (o : O) (w : World) : Calls Tryz.prog 91 #[o.val] w fun e w' => e = .returned (.bool (mayO o)) ∧ Chg NoB w w' := by
 obtain ⟨k, x, n, a, l, s⟩ := o
 by_cases h1 : k = 1 ∨ k = 6
 · exact rmay_plain k n a l x s h1 w
 by_cases h2 : k = 2 ∨ k = 3 ∨ k = 4 ∨ k = 7 ∨ k = 10 ∨ k = 11
 · exact rmay_num k n a l x s h2 w
 by_cases h3 : k = 5
 · subst h3; exact rmay_name n a l x s w
 by_cases h4 : k = 8 ∨ k = 9
 · exact rmay_row k n a l x s h4 w
 have HM := hid' (show mayO ⟨k, x, n, a, l, s⟩ = false by
  unfold mayO; simp only [not_or] at h1 h2 h4
  simp only [h1, h2, h3, h4, or_self, if_false, Bool.and_false])
 have e1 : (k == 1) = false := by simp; omega
 have e2 : (k == 2) = false := by simp; omega
 have e3 : (k == 3) = false := by simp; omega
 have e4 : (k == 4) = false := by simp; omega
 have e5 : (k == 5) = false := by simp; omega
 have e6 : (k == 6) = false := by simp; omega
 have e7 : (k == 7) = false := by simp; omega
 have e8 : (k == 8) = false := by simp; omega
 have e9 : (k == 9) = false := by simp; omega
 have e10 : (k == 10) = false := by simp; omega
 have e11 : (k == 11) = false := by simp; omega
 clear h1 h2 h3 h4; go_enter Tryz.func91, Tryz.ntmps91
 go_wp2_with fail
 go_ret; exact ⟨congrArg (fun b => Ending.returned (.bool b)) HM.out.symm, ((Chg.refl NoB w).alloc _).alloc _⟩
end Go.Proofs.YtoogmimbmgdflaaGreat
