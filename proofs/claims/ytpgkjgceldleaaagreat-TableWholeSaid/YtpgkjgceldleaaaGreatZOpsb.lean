/- Walks: op.Number, op.Family. -/
import Derived.Test.YtpgkjgceldleaaaGreatZOps
import Derived.Test.YtpgkjgceldleaaaGreatZHeapa
namespace Go.Proofs.YtpgkjgceldleaaaGreat
open Go.RowKit

theorem opT_ne {i j : Nat} {p q : Nat × List UInt8} (hi : opT[i]? = some p) (hj : opT[j]? = some q) (h : i ≠ j) : p.2 ≠ q.2 := by
  intro e
  obtain ⟨li, ei⟩ := List.getElem?_eq_some_iff.1 hi
  obtain ⟨lj, ej⟩ := List.getElem?_eq_some_iff.1 hj
  exact h ((List.getElem_inj (i := i) (j := j) (h₀ := by simpa using li) (h₁ := by simpa using lj) opT_apart).1 (by simp [ei, ej, e]))
theorem list_ne_of {a b : List UInt8} (h : a ≠ b) : ((⟨a.toArray⟩ : ByteArray).toList == (⟨b.toArray⟩ : ByteArray).toList) = false := by
  rw [ByteArray.toList_eq, ByteArray.toList_eq]; simpa using h
theorem number1_hit (n fam : Int) (s : ByteArray) (a b c : Nat) (w : World) (ha : w.heap[a]? = some (.cells #[.string s] 9)) (hb : w.heap[b]? = some (.cells #[.int .i64 0] 3)) (hc : w.heap[c]? = some (.cells #[.bool false] 4)) :
    Calls Tryz.prog 42 #[.int .i64 n, .int .i64 fam, .string s, .pointer (some ⟨a, 0, none⟩), .pointer (some ⟨b, 0, none⟩), .pointer (some ⟨c, 0, none⟩)] w fun e w' => e = .returned (.bool false) ∧ Chg (fun i => i = b ∨ i = c) w w' ∧ w'.heap[b]? = some (.cells #[.int .i64 n] 3) ∧ w'.heap[c]? = some (.cells #[.bool true] 4) := by
  have R := cells_of ha
  have l := blk_lt ha
  have R2 := cells_of hb
  have Z2 := free_of hb
  have l2 := blk_lt hb
  have R3 := cells_of hc
  have Z3 := free_of hc
  have l3 := blk_lt hc
  have hbc : b ≠ c := by rintro rfl; rw [hb] at hc; simp at hc
  have hs : (s.toList == s.toList) = true := by simp
  go_enter Tryz.func42, Tryz.ntmps42
  go_wp2_with fail
  have h2 := blk_set hb 0 (.int .i64 n)
  have h3 := blk_set (blk_set_other (p := ⟨b, 0, none⟩) hc (Ne.symm hbc) (.int .i64 n)) 0 (.bool true)
  have h4 := blk_set_other (p := ⟨c, 0, none⟩) h2 hbc (.bool true)
  have X : Chg (fun i => i = b ∨ i = c) w ((w.setCell ⟨b, 0, none⟩ (.int .i64 n)).setCell ⟨c, 0, none⟩ (.bool true)) := ((Chg.refl _ w).setCell (p := ⟨b, 0, none⟩) (.inl (.inl rfl)) _).setCell (p := ⟨c, 0, none⟩) (.inl (.inr rfl)) _
  simp only [List.setIfInBounds_toArray, List.set_cons_zero] at h3 h4
  generalize (w.setCell ⟨b, 0, none⟩ (.int .i64 n)).setCell ⟨c, 0, none⟩ (.bool true) = w1 at *
  clear R R2 Z2 l2 R3 Z3 l3 h2 l
  have R := cells_of h3
  have l := blk_lt h3
  go_wp2_with fail
  go_ret
  exact ⟨rfl, X, h4, h3⟩
theorem number1_miss (n fam : Int) (s t : ByteArray) (a b c : Nat) (w : World) (ha : w.heap[a]? = some (.cells #[.string t] 9)) (hc : w.heap[c]? = some (.cells #[.bool false] 4)) (hne : (s.toList == t.toList) = false) :
    Calls Tryz.prog 42 #[.int .i64 n, .int .i64 fam, .string s, .pointer (some ⟨a, 0, none⟩), .pointer (some ⟨b, 0, none⟩), .pointer (some ⟨c, 0, none⟩)] w fun e w' => e = .returned (.bool true) ∧ w = w' := by
  have R := cells_of ha
  have l := blk_lt ha
  have R3 := cells_of hc
  have l3 := blk_lt hc
  go_enter Tryz.func42, Tryz.ntmps42
  go_wp2_with fail
  go_ret
  exact ⟨rfl, rfl⟩
/-- What op.Number answers at the operator that stands at a place. -/
theorem number_hit (i : Nat) (fam : Nat) (bs : List UInt8) (h : opT[i]? = some (fam, bs)) (w : World) :
    Calls Tryz.prog 8 #[.string ⟨bs.toArray⟩] w fun e w' => e = .returned (.tuple #[.int .i64 ((i : Int) + 1), .bool true]) ∧ Chg NoB w w' := by
  have hi := (List.getElem?_eq_some_iff.1 h).1
  rw [opT_length] at hi
  have hE := hid_ (each_any 42 #[.pointer (some ⟨w.heap.size, 0, none⟩), .pointer (some ⟨w.heap.size + 1, 0, none⟩), .pointer (some ⟨w.heap.size + 1 + 1, 0, none⟩)] (fun _ _ => by kernel_rfl) (fun b => b = w.heap.size + 1 ∨ b = w.heap.size + 1 + 1)
    (fun k wr => k ≤ i ∧ wr.heap[w.heap.size]? = some (.cells #[.string ⟨bs.toArray⟩] 9) ∧ wr.heap[w.heap.size + 1]? = some (.cells #[.int .i64 0] 3) ∧ wr.heap[w.heap.size + 1 + 1]? = some (.cells #[.bool false] 4))
    (fun _ wr => wr.heap[w.heap.size + 1]? = some (.cells #[.int .i64 ((i : Int) + 1)] 3) ∧ wr.heap[w.heap.size + 1 + 1]? = some (.cells #[.bool true] 4)) (((w.alloc (.cells #[.string ⟨bs.toArray⟩] 9)).alloc (.cells #[.int .i64 0] 3)).alloc (.cells #[.bool false] 4))
    (fun j e => by rcases e with rfl | rfl <;> simp <;> omega) (fun k a b h X => ⟨h.1, X.blk h.2.1 (by simp; omega), X.blk h.2.2.1 (by simp; omega), X.blk h.2.2.2 (by simp)⟩) (fun k hk w' hj X => by
      obtain ⟨j1, j2, j3, j4⟩ := hj
      have hk' : opT[k]? = some opT[k] := List.getElem?_eq_getElem _
      by_cases e : k = i
      · subst e
        rw [hk'] at h
        simp only [Option.some.injEq] at h
        rw [h]
        refine (number1_hit _ _ _ _ _ _ w' j2 j3 j4).mono ?_
        rintro e' w2 ⟨rfl, X2, hb, hc⟩
        exact ⟨X2, .inr ⟨rfl, hb, hc⟩⟩
      · refine (number1_miss _ _ _ _ _ _ _ w' j2 j4 (list_ne_of (opT_ne hk' h e))).mono ?_
        rintro e' w2 ⟨rfl, rfl⟩
        exact ⟨Chg.refl _ _, .inl ⟨rfl, by omega, j2, j3, j4⟩⟩) ⟨by omega, by simpa using blk_alloc (blk_alloc (blk_new w _) _) _, by simpa using blk_alloc (blk_new1 w _ _) _, by simpa using blk_new2 w _ _ _⟩)
  go_enter Tryz.func8, Tryz.ntmps8
  go_wp2_with fail
  refine hE.out.mono ?_
  rintro e w1 ⟨rfl, X, (⟨hj, -⟩ | ⟨k, -, hj, hj2⟩)⟩
  · rw [opT_length] at hj; omega
  · have R := cells_of hj
    have R2 := cells_of hj2
    have Z := free_of hj
    have Z2 := free_of hj2
    have l := blk_lt hj
    have l2 := blk_lt hj2
    have XX := hid_ ((((Chg.refl NoB w).alloc (.cells #[.string ⟨bs.toArray⟩] 9)).alloc (.cells #[.int .i64 0] 3)).alloc (.cells #[.bool false] 4) |>.trans' X fun b hb e => by omega)
    clear hE X
    go_wp2_with fail
    go_region
    all_goals
      have g2 := blk_set hj 0 (.int .i64 ((i : Int) + 1))
      have g3 := blk_set (blk_set_other (p := ⟨w.heap.size + 1, 0, none⟩) hj2 (by simp) (.int .i64 ((i : Int) + 1))) 0 (.bool true)
      have g4 := blk_set_other (p := ⟨w.heap.size + 1 + 1, 0, none⟩) g2 (by simp) (.bool true)
      simp only [List.setIfInBounds_toArray, List.set_cons_zero] at g3 g4
      have XY : Chg NoB w ((w1.setCell ⟨w.heap.size + 1, 0, none⟩ (.int .i64 ((i : Int) + 1))).setCell ⟨w.heap.size + 1 + 1, 0, none⟩ (.bool true)).drew := ((XX.out.setCell (p := ⟨w.heap.size + 1, 0, none⟩) (.inr (Nat.le_succ _)) _).setCell (p := ⟨w.heap.size + 1 + 1, 0, none⟩) (.inr (by simp only; omega)) _).drew
      have g5 := blk_drew g3
      have g6 := blk_drew g4
      generalize ((w1.setCell ⟨w.heap.size + 1, 0, none⟩ (.int .i64 ((i : Int) + 1))).setCell ⟨w.heap.size + 1 + 1, 0, none⟩ (.bool true)).drew = w2 at *
      have R5 := cells_of g5
      have R6 := cells_of g6
      clear g2 g3 g4 R R2 Z Z2 l l2
      go_wp2_with fail
      refine bodyPost_ret (v := .tuple #[.int .i64 ((i : Int) + 1), .bool true]) ?_ rfl ⟨rfl, XY⟩
      simp [results, Tryz.results8, go_sem, R5, R6]
/-- What op.Number answers at what is no operator's name. -/
theorem number_miss (s : ByteArray) (h : ∀ k (_ : k < opT.length), opT[k].2 ≠ s.toList) (w : World) :
    Calls Tryz.prog 8 #[.string s] w fun e w' => e = .returned (.tuple #[.int .i64 0, .bool false]) ∧ Chg NoB w w' := by
  have hE := hid_ (each_any 42 #[.pointer (some ⟨w.heap.size, 0, none⟩), .pointer (some ⟨w.heap.size + 1, 0, none⟩), .pointer (some ⟨w.heap.size + 1 + 1, 0, none⟩)] (fun _ _ => by kernel_rfl) (fun _ => False)
    (fun _ wr => wr.heap[w.heap.size]? = some (.cells #[.string s] 9) ∧ wr.heap[w.heap.size + 1]? = some (.cells #[.int .i64 0] 3) ∧ wr.heap[w.heap.size + 1 + 1]? = some (.cells #[.bool false] 4))
    (fun _ _ => False) (((w.alloc (.cells #[.string s] 9)).alloc (.cells #[.int .i64 0] 3)).alloc (.cells #[.bool false] 4))
    (fun j e => e.elim) (fun k a b h X => ⟨X.blk h.1 (by simp; omega), X.blk h.2.1 (by simp; omega), X.blk h.2.2 (by simp)⟩) (fun k hk w' hj X => by
      obtain ⟨j2, j3, j4⟩ := hj
      refine (number1_miss _ _ ⟨opT[k].2.toArray⟩ s _ _ _ w' j2 j4 (by rw [ByteArray.toList_eq]; simpa using h k hk)).mono ?_
      rintro e' w2 ⟨rfl, rfl⟩
      exact ⟨Chg.refl _ _, .inl ⟨rfl, j2, j3, j4⟩⟩) ⟨by simpa using blk_alloc (blk_alloc (blk_new w _) _) _, by simpa using blk_alloc (blk_new1 w _ _) _, by simpa using blk_new2 w _ _ _⟩)
  go_enter Tryz.func8, Tryz.ntmps8
  go_wp2_with fail
  refine hE.out.mono ?_
  rintro e w1 ⟨rfl, X, (⟨-, hj, hj2⟩ | ⟨k, -, hj⟩)⟩
  · have R := cells_of hj
    have R2 := cells_of hj2
    have Z := free_of hj
    have Z2 := free_of hj2
    have l := blk_lt hj
    have l2 := blk_lt hj2
    have XX := hid_ ((((Chg.refl NoB w).alloc (.cells #[.string s] 9)).alloc (.cells #[.int .i64 0] 3)).alloc (.cells #[.bool false] 4) |>.trans' X fun b hb e => e.elim)
    clear hE X
    go_wp2_with fail
    go_region
    all_goals
      have g2 := blk_set hj 0 (.int .i64 0)
      have g3 := blk_set (blk_set_other (p := ⟨w.heap.size + 1, 0, none⟩) hj2 (by simp) (.int .i64 0)) 0 (.bool false)
      have g4 := blk_set_other (p := ⟨w.heap.size + 1 + 1, 0, none⟩) g2 (by simp) (.bool false)
      simp only [List.setIfInBounds_toArray, List.set_cons_zero] at g3 g4
      have XY : Chg NoB w ((w1.setCell ⟨w.heap.size + 1, 0, none⟩ (.int .i64 0)).setCell ⟨w.heap.size + 1 + 1, 0, none⟩ (.bool false)).drew := ((XX.out.setCell (p := ⟨w.heap.size + 1, 0, none⟩) (.inr (Nat.le_succ _)) _).setCell (p := ⟨w.heap.size + 1 + 1, 0, none⟩) (.inr (by simp only; omega)) _).drew
      have g5 := blk_drew g3
      have g6 := blk_drew g4
      generalize ((w1.setCell ⟨w.heap.size + 1, 0, none⟩ (.int .i64 0)).setCell ⟨w.heap.size + 1 + 1, 0, none⟩ (.bool false)).drew = w2 at *
      have R5 := cells_of g5
      have R6 := cells_of g6
      clear g2 g3 g4 R R2 Z Z2 l l2
      go_wp2_with fail
      refine bodyPost_ret (v := .tuple #[.int .i64 0, .bool false]) ?_ rfl ⟨rfl, XY⟩
      simp [results, Tryz.results8, go_sem, R5, R6]
  · exact hj.elim
theorem family1_hit (n fam : Int) (s : ByteArray) (p q : Nat) (w : World) (hp : w.heap[p]? = some (.cells #[.int .i64 n] 3)) (v : Value) (hq : w.heap[q]? = some (.cells #[v] 3)) (hne : q ≠ p) :
    Calls Tryz.prog 144 #[.int .i64 n, .int .i64 fam, .string s, .pointer (some ⟨p, 0, none⟩), .pointer (some ⟨q, 0, none⟩)] w fun e w' => e = .returned (.bool false) ∧ Chg (· = q) w w' ∧ w'.heap[q]? = some (.cells #[.int .i64 fam] 3) := by
  have R := cells_of hp
  have l := blk_lt hp
  have R2 := cells_of hq
  have Z := free_of hq
  have l2 := blk_lt hq
  go_enter Tryz.func144, Tryz.ntmps144
  go_wp2_with fail
  have h2 := blk_set hq 0 (.int .i64 fam)
  simp only [List.setIfInBounds_toArray, List.set_cons_zero] at h2
  have hp2 := blk_set_other (p := ⟨q, 0, none⟩) hp (Ne.symm hne) (.int .i64 fam)
  have X := (Chg.refl (· = q) w).setCell (p := ⟨q, 0, none⟩) (.inl rfl) (.int .i64 fam)
  generalize w.setCell ⟨q, 0, none⟩ (.int .i64 fam) = w1 at *
  clear R R2 Z l l2
  have R := cells_of hp2
  have l := blk_lt hp2
  go_wp2_with fail
  go_ret
  exact ⟨by simp, X, h2⟩
theorem family1_miss (k n fam : Int) (s : ByteArray) (p q : Nat) (w : World) (hp : w.heap[p]? = some (.cells #[.int .i64 n] 3)) (h : k < n) :
    Calls Tryz.prog 144 #[.int .i64 k, .int .i64 fam, .string s, .pointer (some ⟨p, 0, none⟩), .pointer (some ⟨q, 0, none⟩)] w fun e w' => e = .returned (.bool true) ∧ w = w' := by
  have R := cells_of hp
  have l := blk_lt hp
  have hne : (k == n) = false := by simp; omega
  go_enter Tryz.func144, Tryz.ntmps144
  go_wp2_with fail
  go_ret
  exact ⟨by simp, rfl⟩
/-- What op.Family answers. -/
theorem family_at (i fam : Nat) (bs : List UInt8) (h : opT[i]? = some (fam, bs)) (w : World) :
    Calls Tryz.prog 83 #[.int .i64 ((i : Int) + 1)] w fun e w' => e = .returned (.int .i64 fam) ∧ Chg NoB w w' := by
  have hi := (List.getElem?_eq_some_iff.1 h).1
  rw [opT_length] at hi
  have hE := hid_ (each_any 144 #[.pointer (some ⟨w.heap.size, 0, none⟩), .pointer (some ⟨w.heap.size + 1, 0, none⟩)] (fun _ _ => by kernel_rfl) (· = w.heap.size + 1)
    (fun k wr => k ≤ i ∧ wr.heap[w.heap.size]? = some (.cells #[.int .i64 ((i : Int) + 1)] 3) ∧ wr.heap[w.heap.size + 1]? = some (.cells #[.int .i64 0] 3))
    (fun _ wr => wr.heap[w.heap.size + 1]? = some (.cells #[.int .i64 fam] 3)) ((w.alloc (.cells #[.int .i64 ((i : Int) + 1)] 3)).alloc (.cells #[.int .i64 0] 3))
    (fun i e => by subst e; simp) (fun k a b h X => ⟨h.1, X.blk h.2.1 (by simp; omega), X.blk h.2.2 (by simp)⟩) (fun k hk w' hj X => by
      obtain ⟨j1, j2, j3⟩ := hj
      have hk' : opT[k]? = some opT[k] := List.getElem?_eq_getElem _
      by_cases e : k = i
      · subst e
        rw [hk'] at h
        simp only [Option.some.injEq] at h
        rw [h]
        refine (family1_hit _ _ _ _ _ w' j2 _ j3 (by simp)).mono ?_
        rintro e' w2 ⟨rfl, X2, hb⟩
        exact ⟨X2, .inr ⟨rfl, hb⟩⟩
      · refine (family1_miss _ ((i : Int) + 1) _ _ _ _ w' j2 (by omega)).mono ?_
        rintro e' w2 ⟨rfl, rfl⟩
        exact ⟨Chg.refl _ _, .inl ⟨rfl, by omega, j2, j3⟩⟩) ⟨by omega, by simpa using blk_alloc (blk_new w _) _, by simpa using blk_new1 w _ _⟩)
  go_enter Tryz.func83, Tryz.ntmps83
  go_wp2_with fail
  refine hE.out.mono ?_
  rintro e w1 ⟨rfl, X, (⟨hj, -⟩ | ⟨k, -, hj⟩)⟩
  · rw [opT_length] at hj; omega
  · have R := cells_of hj
    go_wp2_with fail
    go_ret
    exact ⟨rfl, (((Chg.refl NoB w).alloc _).alloc _).trans' X fun i hi e => by omega⟩
end Go.Proofs.YtpgkjgceldleaaaGreat
