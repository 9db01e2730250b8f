/- Walk: token.Next. -/
import Derived.Test.YtgahapnjlngebaaZTwd
import Derived.Deep.DeepCutAuto
namespace Go.Proofs.Ytgahapnjlngebaa
open Go.RowKit

/-- The next word: the error, the word (its place is left out), what is skipped, how many bytes it has. -/
def nextF (l : List UInt8) : Int × Tok × Nat × Nat :=
  if l.drop (skipL false l) = [] then (0, Tok.nil, skipL false l, 0)
  else if (wordF (l.drop (skipL false l))).1 = 0 then (0, (wordF (l.drop (skipL false l))).2.1, skipL false l, (wordF (l.drop (skipL false l))).2.2)
  else ((wordF (l.drop (skipL false l))).1, Tok.nil, skipL false l, 0)
/-- The word that is handed back, with its place. -/
def tokAt (a : Nat) (l : List UInt8) : Tok := if l.drop (skipL false l) = [] ∨ (nextF l).1 ≠ 0 then Tok.nil else { (nextF l).2.1 with pos := ((a + skipL false l : Nat) : Int) }
abbrev nextV (a : Nat) (l : List UInt8) : Value := wordV (tokAt a l) ((a + (nextF l).2.2.1 + (nextF l).2.2.2 : Nat) : Int) (nextF l).1

theorem skipL_len : ∀ (b : Bool) (l : List UInt8), skipL b l ≤ l.length
  | true, [] => Nat.le_refl _
  | false, [] => Nat.le_refl _
  | true, c :: t => by
    have h1 := skipL_len false t
    have h2 := skipL_len true t
    rw [skipL]; simp only [List.length_cons]; split <;> omega
  | false, c :: t => by
    have h1 := skipL_len false t
    have h2 := skipL_len true t
    rw [skipL]; simp only [List.length_cons]; split; · omega
    split <;> omega

set_option maxRecDepth 100000 in
set_option maxHeartbeats 400000 in
theorem next_any (s : ByteArray) (a : Nat) (hs : s.size ≤ 1000000) (ha : a ≤ s.size) (w : World) :
    Calls Try.prog 12 #[.string s, .int .i64 a] w fun r w' => r = .returned (nextV a (s.toList.drop a)) ∧ Chg NoB w w' := by
  have ha' : (a : Int) ≤ s.size := by omega
  have hsk := skip_any s a hs ha
  have hl := skipL_len false (s.toList.drop a)
  rw [List.length_drop, size_lst] at hl
  have hN : nextF (s.toList.drop a) = if (s.toList.drop a).drop (skipL false (s.toList.drop a)) = [] then (0, Tok.nil, skipL false (s.toList.drop a), 0)
    else if (wordF ((s.toList.drop a).drop (skipL false (s.toList.drop a)))).1 = 0 then (0, (wordF ((s.toList.drop a).drop (skipL false (s.toList.drop a)))).2.1, skipL false (s.toList.drop a), (wordF ((s.toList.drop a).drop (skipL false (s.toList.drop a)))).2.2)
    else ((wordF ((s.toList.drop a).drop (skipL false (s.toList.drop a)))).1, Tok.nil, skipL false (s.toList.drop a), 0) := rfl
  have hT : tokAt a (s.toList.drop a) = if (s.toList.drop a).drop (skipL false (s.toList.drop a)) = [] ∨ (nextF (s.toList.drop a)).1 ≠ 0 then Tok.nil else { (nextF (s.toList.drop a)).2.1 with pos := ((a + skipL false (s.toList.drop a) : Nat) : Int) } := rfl
  rw [List.drop_drop] at hN hT
  change Calls _ _ _ _ (fun r w' => r = .returned (wordV (tokAt a (s.toList.drop a)) ((a + (nextF (s.toList.drop a)).2.2.1 + (nextF (s.toList.drop a)).2.2.2 : Nat) : Int) (nextF (s.toList.drop a)).1) ∧ Chg NoB w w')
  generalize tokAt a (s.toList.drop a) = T at *
  generalize nextF (s.toList.drop a) = N at *
  generalize skipL false (s.toList.drop a) = k at *
  generalize hj : a + k = j at *
  have hjs : j ≤ s.size := by omega
  have hjk : a + k ≤ j ∧ j ≤ a + k := by omega
  have HJ := hid' hj
  have HSK := hid' hsk
  clear hsk hj
  by_cases c : j = s.size
  · have c1 : ((j : Int) == (s.size : Int)) = true := by rw [c]; simp
    have c2 : (j == s.size) = true := by rw [c]; simp
    have hd : s.toList.drop j = [] := drop_end s j (by omega)
    have hN1 := hN.trans (if_pos hd)
    have HT := hid' (hT.trans (if_pos (.inl hd)))
    have HN := hid' hN1
    clear hN hN1 hT hd c
    go_enter Try.func12, Try.ntmps12
    go_wp2_with fail
    refine (HSK.out _).mono ?_
    rintro r w1 ⟨rfl, rfl⟩
    go_wp2
    refine bodyPost_ret (v := wordV Tok.nil j 0) (by simp [results, Try.results12, go_sem, Tok.nil]) rfl ?_
    refine ⟨?_, (Chg.refl NoB w).alloc _⟩
    rw [HT.out, HN.out]
    simp only [HJ.out, Nat.add_zero]
  · have c1 : ((j : Int) == (s.size : Int)) = false := by simp; omega
    have c2 : (j == s.size) = false := by simpa using c
    have hjl : j < s.size := by omega
    have hd : ¬ s.toList.drop j = [] := by rw [drop_at s j hjl]; simp
    have hN1 := hN.trans (if_neg hd)
    have HW := hid' (fun w => word_any s j hs hjl w)
    generalize wordF (s.toList.drop j) = W at *
    obtain ⟨we, wt, wn⟩ := W
    simp only at hN1
    clear hN c
    by_cases e0 : we = 0
    · subst e0
      have hN2 := hN1.trans (if_pos rfl)
      have HT := hid' (hT.trans (if_neg (by rw [hN2]; rintro (h | h); exact hd h; exact h rfl)))
      have HN := hid' hN2
      clear hN1 hN2 hT hd
      go_enter Try.func12, Try.ntmps12
      go_wp2_with fail
      refine (HSK.out _).mono ?_
      rintro r w1 ⟨rfl, rfl⟩
      go_wp2_with fail
      refine (HW.out _).mono ?_
      rintro r w1 ⟨t, nx, rfl, X1, hq⟩
      obtain ⟨rfl, rfl⟩ := hq rfl
      simp only
      have hb := X1.blk (blk_new w (.cells #[.int .i64 0, .int .i64 0, .string ⟨#[]⟩, .int .i64 0] 31)) id
      have R4 := cells_of hb
      have Z4 := free_of hb
      have l4 := blk_lt hb
      have X2 := ((Chg.refl NoB w).alloc (.cells #[.int .i64 0, .int .i64 0, .string ⟨#[]⟩, .int .i64 0] 31)).trans X1
      clear X1 hq HW HSK
      obtain ⟨tk, tv, ts, tp⟩ := t
      go_upto_region 10 with (fail)
      have hb2 := blk_set (blk_set (blk_set (blk_set (blk_set hb 0 (.int .i64 tk)) 1 (.int .i64 tv)) 2 (.string ts)) 3 (.int .i64 tp)) 3 (.int .i64 j)
      simp only [List.setIfInBounds_toArray, List.set_cons_zero, List.set_cons_succ] at hb2
      have X3 : Chg NoB w (((((w1.setCell ⟨w.heap.size, 0, none⟩ (.int .i64 tk)).setCell ⟨w.heap.size, 1, none⟩ (.int .i64 tv)).setCell ⟨w.heap.size, 2, none⟩ (.string ts)).setCell ⟨w.heap.size, 3, none⟩ (.int .i64 tp)).setCell ⟨w.heap.size, 3, none⟩ (.int .i64 j)) := by (repeat' (first | with_reducible assumption | with_reducible refine Chg.alloc ?_ _ | with_reducible refine Chg.drew ?_ | with_reducible refine Chg.drewN ?_ _ | with_reducible refine Chg.setCell ?_ (Or.inr ?_) _ | exact Nat.le_refl _ | exact Nat.le_add_right _ _ | (simp; done) | (simp; omega)))
      generalize ((((w1.setCell ⟨w.heap.size, 0, none⟩ (.int .i64 tk)).setCell ⟨w.heap.size, 1, none⟩ (.int .i64 tv)).setCell ⟨w.heap.size, 2, none⟩ (.string ts)).setCell ⟨w.heap.size, 3, none⟩ (.int .i64 tp)).setCell ⟨w.heap.size, 3, none⟩ (.int .i64 j) = w2 at *
      clear hb R4 Z4 l4 X2
      have R4 := cells_of hb2
      have Z4 := free_of hb2
      have l4 := blk_lt hb2
      clear hb2
      go_wp2
      refine bodyPost_ret (v := wordV ⟨tk, tv, ts, j⟩ (j + wn) 0) (by simp [results, Try.results12, go_sem, R4, cell_set_at]) rfl ?_
      refine ⟨?_, ?_⟩
      · rw [HT.out, HN.out]
        simp only [HJ.out, Int.natCast_add]
      · (repeat' (first | with_reducible assumption | with_reducible refine Chg.alloc ?_ _ | with_reducible refine Chg.drew ?_ | with_reducible refine Chg.drewN ?_ _ | with_reducible refine Chg.setCell ?_ (Or.inr ?_) _ | exact Nat.le_refl _ | exact Nat.le_add_right _ _ | (simp; done) | (simp; omega)))
    · have hN2 := hN1.trans (if_neg e0)
      have HT := hid' (hT.trans (if_pos (.inr (by rw [hN2]; exact e0))))
      have HN := hid' hN2
      have e0' : (we != 0) = true := by simpa using e0
      clear hN1 hN2 hT hd e0
      go_enter Try.func12, Try.ntmps12
      go_wp2_with fail
      refine (HSK.out _).mono ?_
      rintro r w1 ⟨rfl, rfl⟩
      go_wp2_with fail
      refine (HW.out _).mono ?_
      rintro r w1 ⟨t, nx, rfl, X1, -⟩
      have hb := X1.blk (blk_new w (.cells #[.int .i64 0, .int .i64 0, .string ⟨#[]⟩, .int .i64 0] 31)) id
      have R4 := cells_of hb
      have Z4 := free_of hb
      have l4 := blk_lt hb
      have X2 := ((Chg.refl NoB w).alloc (.cells #[.int .i64 0, .int .i64 0, .string ⟨#[]⟩, .int .i64 0] 31)).trans X1
      clear X1 HW HSK
      obtain ⟨tk, tv, ts, tp⟩ := t
      go_upto_region 8 with (fail)
      have hb2 := blk_set (blk_set (blk_set (blk_set hb 0 (.int .i64 tk)) 1 (.int .i64 tv)) 2 (.string ts)) 3 (.int .i64 tp)
      simp only [List.setIfInBounds_toArray, List.set_cons_zero, List.set_cons_succ] at hb2
      have X3 : Chg NoB w ((((w1.setCell ⟨w.heap.size, 0, none⟩ (.int .i64 tk)).setCell ⟨w.heap.size, 1, none⟩ (.int .i64 tv)).setCell ⟨w.heap.size, 2, none⟩ (.string ts)).setCell ⟨w.heap.size, 3, none⟩ (.int .i64 tp)) := by (repeat' (first | with_reducible assumption | with_reducible refine Chg.alloc ?_ _ | with_reducible refine Chg.drew ?_ | with_reducible refine Chg.drewN ?_ _ | with_reducible refine Chg.setCell ?_ (Or.inr ?_) _ | exact Nat.le_refl _ | exact Nat.le_add_right _ _ | (simp; done) | (simp; omega)))
      generalize (((w1.setCell ⟨w.heap.size, 0, none⟩ (.int .i64 tk)).setCell ⟨w.heap.size, 1, none⟩ (.int .i64 tv)).setCell ⟨w.heap.size, 2, none⟩ (.string ts)).setCell ⟨w.heap.size, 3, none⟩ (.int .i64 tp) = w2 at *
      clear hb R4 Z4 l4 X2
      have R4 := cells_of hb2
      have Z4 := free_of hb2
      have l4 := blk_lt hb2
      clear hb2
      go_wp2
      refine bodyPost_ret (v := wordV Tok.nil j we) (by simp [results, Try.results12, go_sem, R4, cell_set_at, Tok.nil]) rfl ?_
      refine ⟨?_, ?_⟩
      · rw [HT.out, HN.out]
        simp only [HJ.out, Nat.add_zero]
      · (repeat' (first | with_reducible assumption | with_reducible refine Chg.alloc ?_ _ | with_reducible refine Chg.drew ?_ | with_reducible refine Chg.drewN ?_ _ | with_reducible refine Chg.setCell ?_ (Or.inr ?_) _ | exact Nat.le_refl _ | exact Nat.le_add_right _ _ | (simp; done) | (simp; omega)))
end Go.Proofs.Ytgahapnjlngebaa
