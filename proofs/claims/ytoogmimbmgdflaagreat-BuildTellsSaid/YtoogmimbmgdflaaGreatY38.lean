/- Parts of the proof: Uvc, Uxp. -/
import Derived.Test.YtoogmimbmgdflaaGreatY28
import Derived.Test.YtoogmimbmgdflaaGreatY37
namespace Go.Proofs.YtoogmimbmgdflaaGreat
open Go.RowKit
variable {d hi j lo lo0 : Nat} {xs : List O} {o x : O} {L : List C} {i : Int}
theorem string_at (L : List C) (s : ByteArray) (h1 : L.length < 2000) (h2 : used L + s.size ≤ 40000) : stringH L s = (L ++ [txt s.toList], ⟨8, false, L.length, 0, s.size, ⟨#[]⟩⟩, 0) := by
 have hz := size_toList s; unfold stringH; rw [if_neg (by omega), add_fits _ _ h1 (by rw [txt_size]; omega)]; simp [objOf, C.kind, C.size, hz]
theorem used_txt (L : List C) (s : ByteArray) : used (L ++ [txt s.toList]) = used L + s.size := by
 rw [used_cat']; simp [used, C.size, size_toList]
theorem may_kinds {t : Tok} (h : mayT t = true) : t.kind = 1 ∨ t.kind = 2 ∨ t.kind = 3 ∨ t.kind = 4 ∨ t.kind = 5 ∨ t.kind = 6 ∨ t.kind = 7 ∨ t.kind = 8 ∨ t.kind = 9 ∨ t.kind = 10 ∨ t.kind = 11 ∨ t.kind = 12 := by
 obtain ⟨k, n, s, p⟩ := t; simp only
 by_cases h1 : k = 1 ∨ k = 2 ∨ k = 3 ∨ k = 4 ∨ k = 5 ∨ k = 6
 · omega
 · unfold mayT at h; simp only at h; rw [if_neg (by omega), if_neg (by omega)] at h
   by_cases hn : n ≠ 0
   · rw [if_pos hn] at h; exact absurd h (by decide)
   rw [if_neg hn, if_neg (by omega), if_neg (by omega), if_neg (by omega)] at h; simp only [Bool.and_eq_true, decide_eq_true_eq] at h; have h7 := h.1; unfold signL at h7
   repeat' split at h7
   all_goals first | omega | exact absurd rfl h7
theorem may_zero {k n p : Int} {s : ByteArray} (h : mayT ⟨k, n, s, p⟩ = true) (h1 : k ≠ 1) (h2 : k ≠ 2) : n = 0 := by
 unfold mayT at h; simp only at h; rw [if_neg h1, if_neg h2] at h
 by_cases hn : n ≠ 0
 · rw [if_pos hn] at h; exact absurd h (by decide)
 · omega
def BareB (o : O) : Prop := (∃ n : Int, o = ⟨3, false, n, 0, 0, ⟨#[]⟩⟩ ∧ -2147483647 ≤ n ∧ n ≤ 2147483647) ∨ (∃ n : Int, o = ⟨4, false, n, 0, 0, ⟨#[]⟩⟩ ∧ -1073741823 ≤ n ∧ n ≤ 1073741823) ∨ (∃ ex s, o = ⟨5, ex, 0, 0, 0, s⟩ ∧ s.size ≤ 100) ∨ (∃ i : Nat, i < 162 ∧ o = opO ((i : Int) + 1))
inductive ForB (P : Nat → O → Nat → Prop) : Nat → List O → Nat → Prop
 | nil {lo : Nat} : ForB P lo [] lo
 | cons {lo mid hi : Nat} {x : O} {xs : List O} : P lo x mid → ForB P mid xs hi → ForB P lo (x :: xs) hi
theorem ForB.snoc {P : Nat → O → Nat → Prop} {mid : Nat} (h : ForB P lo xs mid) (h2 : P mid x hi) : ForB P lo (xs ++ [x]) hi := by
 induction h with
 | nil => exact .cons h2 .nil
 | cons h1 _ ih => exact .cons h1 (ih h2)
def TreeB (L : List C) : Nat → Nat → O → Nat → Prop
 | 0 => fun lo o hi => (BareB o ∧ lo = hi) ∨ ∃ s : ByteArray, o = ⟨8, false, lo, 0, s.size, ⟨#[]⟩⟩ ∧ L[lo]? = some (txt s.toList) ∧ s.size ≤ 4000 ∧ hi = lo + 1
 | d + 1 => fun lo o hi => ((BareB o ∧ lo = hi) ∨ ∃ s : ByteArray, o = ⟨8, false, lo, 0, s.size, ⟨#[]⟩⟩ ∧ L[lo]? = some (txt s.toList) ∧ s.size ≤ 4000 ∧ hi = lo + 1) ∨
  ∃ xs m, o = arX (m : Nat) (xs.length : Nat) ∧ L[m]? = some (rowC xs) ∧ xs.length ≤ 100 ∧ hi = m + 1 ∧ ForB (TreeB L d) lo xs m
theorem TreeB.leaf (h : (BareB o ∧ lo = hi) ∨ ∃ s : ByteArray, o = ⟨8, false, lo, 0, s.size, ⟨#[]⟩⟩ ∧ L[lo]? = some (txt s.toList) ∧ s.size ≤ 4000 ∧ hi = lo + 1) : ∀ d, TreeB L d lo o hi
 | 0 => h
 | _ + 1 => .inl h
theorem TreeB.arr {m : Nat} (h : L[m]? = some (rowC xs)) (hx : xs.length ≤ 100) (hf : ForB (TreeB L d) lo xs m) : TreeB L (d + 1) lo (arX (m : Nat) (xs.length : Nat)) (m + 1) := .inr ⟨xs, m, rfl, h, hx, rfl, hf⟩
theorem TreeB.cases (h : TreeB L d lo o hi) :
 (BareB o ∧ lo = hi) ∨ (∃ s : ByteArray, o = ⟨8, false, lo, 0, s.size, ⟨#[]⟩⟩ ∧ L[lo]? = some (txt s.toList) ∧ s.size ≤ 4000 ∧ hi = lo + 1) ∨ ∃ d' xs m, d = d' + 1 ∧ o = arX (m : Nat) (xs.length : Nat) ∧ L[m]? = some (rowC xs) ∧ xs.length ≤ 100 ∧ hi = m + 1 ∧ ForB (TreeB L d') lo xs m := by
 cases d with
 | zero => rcases h with h | h
           · exact .inl h
           · exact .inr (.inl h)
 | succ d => rcases h with (h | h) | ⟨xs, m, h⟩
             · exact .inl h
             · exact .inr (.inl h)
             · exact .inr (.inr ⟨d, xs, m, rfl, h⟩)
theorem ForB.le {P : Nat → O → Nat → Prop} (hP : ∀ lo o hi, P lo o hi → lo ≤ hi) {lo hi : Nat} {xs : List O} (h : ForB P lo xs hi) : lo ≤ hi := by
 induction h with
 | nil => exact Nat.le_refl _
 | cons h1 _ ih => exact Nat.le_trans (hP _ _ _ h1) ih
theorem TreeB.le : ∀ {d lo hi : Nat} {o : O}, TreeB L d lo o hi → lo ≤ hi
 | d, lo, hi, o, h => by
  rcases h.cases with ⟨-, h⟩ | ⟨s, -, -, -, h⟩ | ⟨d', xs, m, hd, -, -, -, h, hf⟩
  · omega
  · omega
  · have := hf.le (fun lo o hi h => TreeB.le h); omega
 termination_by d => d
 decreasing_by omega
theorem ForB.mono {P P' : Nat → O → Nat → Prop} (h : ForB P lo xs hi) (hP : ∀ a o b, P a o b → lo ≤ a → b ≤ hi → P' a o b) (hle : ∀ a o b, P a o b → a ≤ b) : ForB P' lo xs hi := by
 induction h with
 | nil => exact .nil
 | @cons lo mid hi x xs h1 h2 ih =>
  have l1 := hle _ _ _ h1; have l2 := h2.le hle; exact .cons (hP _ _ _ h1 (Nat.le_refl _) l2) (ih fun a o b h a1 a2 => hP a o b h (by omega) a2)
theorem TreeB.local {L' : List C} : ∀ {d lo hi : Nat} {o : O}, TreeB L d lo o hi → (∀ i, lo ≤ i → i < hi → L'[i]? = L[i]?) → TreeB L' d lo o hi
 | d, lo, hi, o, h, hL => by
  rcases h.cases with h | ⟨s, h1, h2, h3, rfl⟩ | ⟨d', xs, m, rfl, rfl, h2, h3, rfl, hf⟩
  · exact TreeB.leaf (.inl h) d
  · exact TreeB.leaf (.inr ⟨s, h1, by rw [hL lo (Nat.le_refl _) (by omega)]; exact h2, h3, rfl⟩) d
  · have hlm := hf.le (fun lo o hi h => TreeB.le h); refine TreeB.arr (by rw [hL m hlm (by omega)]; exact h2) h3 (hf.mono (fun a o b h a1 a2 => TreeB.local h fun i i1 i2 => hL i (by omega) (by omega)) fun lo o hi h => TreeB.le h)
 termination_by d => d
 decreasing_by omega
theorem TreeB.app (X : List C) {d lo hi : Nat} {o : O} (h : TreeB L d lo o hi) (hh : hi ≤ L.length) : TreeB (L ++ X) d lo o hi := h.local fun i _ i2 => List.getElem?_append_left (by omega)
theorem BareB.mayO (h : BareB o) : mayO o = true ∧ held o = false := by
 rcases h with ⟨n, rfl, h1, h2⟩ | ⟨n, rfl, h1, h2⟩ | ⟨ex, s, rfl, h1⟩ | ⟨i, h1, rfl⟩
 · refine ⟨?_, rfl⟩; simp [Go.Proofs.YtoogmimbmgdflaaGreat.mayO, eqO, bareO, O.nil]; omega
 · refine ⟨?_, rfl⟩; simp [Go.Proofs.YtoogmimbmgdflaaGreat.mayO, eqO, bareO, O.nil]; omega
 · refine ⟨?_, rfl⟩; simp [Go.Proofs.YtoogmimbmgdflaaGreat.mayO, eqO, bareO, O.nil]; omega
 · refine ⟨?_, rfl⟩; have := may_op [] ((i : Int) + 1) (by omega) (by omega); unfold mayH at this; rw [Bool.and_eq_true] at this; exact this.1
theorem BareB.may (h : BareB o) (L : List C) : mayH L o = true := by
 unfold mayH; rw [h.mayO.1, h.mayO.2]; rfl
theorem TreeB.may (h : TreeB L d lo o hi) (hL : L.length ≤ 2000) : mayH L o = true := by
 rcases h.cases with ⟨h, -⟩ | ⟨s, rfl, h2, h3, rfl⟩ | ⟨d', xs, m, rfl, rfl, h2, h3, rfl, hf⟩
 · exact h.may L
 · have := (List.getElem?_eq_some_iff.1 h2).1; exact may_str L lo s false h2 (by omega) (by omega)
 · have := (List.getElem?_eq_some_iff.1 h2).1; exact may_arX h2 (by omega) (by omega) _ rfl
inductive StkB (L : List C) (lo0 : Nat) : Nat → List (List O) → Nat → Prop
 | base {l : List O} {hi : Nat} : ForB (TreeB L 20) lo0 l hi → StkB L lo0 0 [l] hi
 | up {j mid hi : Nat} {l : List O} {ls : List (List O)} : StkB L lo0 j ls mid → ForB (TreeB L (19 - j)) mid l hi → StkB L lo0 (j + 1) (l :: ls) hi
theorem StkB.app (X : List C) {lo0 j hi : Nat} {ls : List (List O)} (h : StkB L lo0 j ls hi) (hh : hi ≤ L.length) : StkB (L ++ X) lo0 j ls hi := by
 induction h with
 | base h => exact .base (h.mono (fun a o b h _ a2 => TreeB.app X h (by omega)) fun lo o hi h => TreeB.le h)
 | up h1 h ih =>
  have hle := h.le (fun lo o hi h => TreeB.le h); exact .up (ih (by omega)) (h.mono (fun a o b h _ a2 => TreeB.app X h (by omega)) fun lo o hi h => TreeB.le h)
theorem StkB.push {mid : Nat} {ls : List (List O)} (h : StkB L lo0 j ls mid) {x : O} (hx : TreeB L (20 - j) mid x hi) : StkB L lo0 j (putB x ls) hi := by
 cases h with
 | base h => exact .base (h.snoc hx)
 | @up j _ _ l ls h0 h =>
  rw [show 20 - (j + 1) = 19 - j by omega] at hx; exact .up h0 (h.snoc hx)
theorem StkB.top {ls : List (List O)} (h : StkB L lo0 j ls hi) : ∃ l r, ls = l :: r := by
 cases h with
 | base h => exact ⟨_, _, rfl⟩
 | up h0 h => exact ⟨_, _, rfl⟩
theorem ForB.all {P : Nat → O → Nat → Prop} (h : ForB P lo xs hi) : ∀ x ∈ xs, ∃ a b, P a x b := by
 induction h with
 | nil => intro x hx; simp at hx
 | cons h1 _ ih =>
  intro x hx
  rcases List.mem_cons.1 hx with rfl | hx
  · exact ⟨_, _, h1⟩
  · exact ih x hx
theorem arrB_two (L : List C) (xs : List O) (hu : used L ≤ 40000) (hx : xs.length ≤ 40000) (hm : ∀ x ∈ xs, mayH L x = true) : (L.length < 2000 ∧ used L + xs.length ≤ 40000 ∧ arrB L xs = (L ++ [rowC xs], arX L.length xs.length, 0)) ∨ arrB L xs = (L, O.nil, 5) := by
 by_cases h : L.length < 2000 ∧ used L + xs.length ≤ 40000
 · exact .inl ⟨h.1, h.2, arrB_ok L xs h.1 h.2 hm⟩
 · right
   unfold arrB arrayH
   have ha : addE L ⟨false, false, false, List.replicate xs.length nullO, []⟩ = 5 := by
    unfold addE; rw [if_pos]; simp only [C.size, Bool.false_eq_true, if_false, List.length_replicate]; omega
   rw [if_neg (by omega), if_neg (by omega)]; unfold makeH; rw [show ((xs.length : Int)).toNat = xs.length by omega, ha]; rfl
theorem string_two (L : List C) (s : ByteArray) (hu : used L ≤ 40000) (hs : s.size ≤ 40000) : (L.length < 2000 ∧ used L + s.size ≤ 40000 ∧ stringH L s = (L ++ [txt s.toList], ⟨8, false, L.length, 0, s.size, ⟨#[]⟩⟩, 0)) ∨ stringH L s = (L, O.nil, 5) := by
 by_cases h : L.length < 2000 ∧ used L + s.size ≤ 40000
 · exact .inl ⟨h.1, h.2, string_at L s h.1 h.2⟩
 · right
   have hz := size_toList s; unfold stringH; rw [if_neg (by omega)]
   have ha : addE L ⟨true, false, false, [], s.toList⟩ = 5 := by
    unfold addE; rw [if_pos]; simp only [C.size, if_true]; omega
   unfold makeH; rw [ha]; rfl
def GoodF (F : List C → ByteArray → O × Int) : Prop := ∀ L s, (F L s).2 = 0 → BareB (F L s).1
def RunB (lo0 k : Nat) (s : OSt) : Prop := ∃ j, StkB s.1 lo0 j s.2.1 s.1.length ∧ s.2.2.length = j ∧ j ≤ 20 ∧ (s.1.length ≤ 2000 ∧ used s.1 ≤ 40000 ∧ s.1.length ≤ lo0 + k) ∧ ∀ l ∈ s.2.1, l.length ≤ k
theorem put_len {ls : List (List O)} {k : Nat} (h : ∀ l ∈ ls, l.length ≤ k) : ∀ l ∈ putB x ls, l.length ≤ k + 1 := by
 cases ls with
 | nil => intro l hl; simp [putB] at hl
 | cons a ls =>
  intro l hl
  rcases List.mem_cons.1 hl with rfl | hl
  · have := h a (List.mem_cons_self ..); simp; omega
  · have := h l (List.mem_cons_of_mem _ hl); omega
theorem run_step {F : List C → ByteArray → O × Int} (hF : GoodF F) {lo0 k : Nat} (hk : k ≤ 90) {i : Int} {t : Tok} {s s' : OSt} (hs : RunB lo0 k s) (h : stepO F i t s = .inl s') : RunB lo0 (k + 1) s' := by
 obtain ⟨L, ls, bg⟩ := s; obtain ⟨j, h1, h2, h3, h4, h5⟩ := hs; simp only at h1 h2 h4 h5; unfold stepO at h
 by_cases hm : mayT t = false
 · rw [if_pos hm] at h; simp at h
 rw [if_neg hm] at h
 have hm : mayT t = true := by simpa using hm
 by_cases c7 : t.kind = 7
 · rw [if_pos c7] at h
   by_cases c20 : bg.length = 20
   · simp only [c20, if_true] at h; simp at h
   · simp only [c20, if_false, Sum.inl.injEq] at h; subst h; refine ⟨j + 1, StkB.up h1 ForB.nil, by simp [h2], by omega, ⟨h4.1, h4.2.1, by simp only; omega⟩, fun l hl => ?_⟩
     rcases List.mem_cons.1 hl with rfl | hl
     · simp
     · have := h5 l hl; omega
 rw [if_neg c7] at h
 by_cases c8 : t.kind = 8
 · rw [if_pos c8] at h
   cases h1 with
   | base h1 =>
    obtain rfl : bg = [] := List.eq_nil_of_length_eq_zero h2; simp at h
   | @up j mid _ l ls h0 hf =>
    obtain ⟨b0, bg, rfl⟩ : ∃ b0 bg', bg = b0 :: bg' := by
     cases bg with
     | nil => simp at h2
     | cons b bg => exact ⟨_, _, rfl⟩
    simp only at h; have hl := h5 l (List.mem_cons_self ..); have hmid := hf.le (fun lo o hi h => TreeB.le h)
    rcases arrB_two L l h4.2.1 (by omega) (fun x hx => by obtain ⟨a, b, hx⟩ := hf.all x hx; exact hx.may h4.1) with ⟨a1, a2, ha⟩ | ha
    · rw [ha] at h; simp only [if_true, Sum.inl.injEq] at h; subst h
      have g1 : TreeB (L ++ [rowC l]) (20 - j) mid (arX L.length l.length) (L.length + 1) := by
       rw [show 20 - j = (19 - j) + 1 by omega]; exact TreeB.arr (by rw [List.getElem?_append_right (Nat.le_refl _), Nat.sub_self]; rfl) (by omega) (hf.mono (fun a o b h _ a2 => TreeB.app _ h (by omega)) fun lo o hi h => TreeB.le h)
      refine ⟨j, ?_, by simpa using h2, by omega, ⟨by simp; omega, by rw [used_row]; omega, by simp; omega⟩, put_len fun l' hl' => h5 l' (List.mem_cons_of_mem _ hl')⟩; have := (h0.app [rowC l] hmid).push g1
      simpa using this
    · rw [ha] at h; simp at h
 rw [if_neg c8] at h
 by_cases c6 : t.kind = 6
 · have hlf : leafB F L t = stringH L t.s := by unfold leafB; rw [if_pos c6]
   rw [hlf] at h
   have hs4 : t.s.size ≤ 4000 := by
    obtain ⟨tk, tn, ts, tp⟩ := t; simp only at c6; subst c6; obtain rfl := may_zero hm (by decide) (by decide); unfold mayT at hm
    simpa using hm
   rcases string_two L t.s h4.2.1 (by omega) with ⟨a1, a2, ha⟩ | ha
   · rw [ha] at h; simp only [if_true, Sum.inl.injEq] at h; subst h; refine ⟨j, ?_, h2, h3, ⟨by simp; omega, by rw [used_txt]; omega, by simp; omega⟩, put_len h5⟩; have g1 : TreeB (L ++ [txt t.s.toList]) (20 - j) L.length ⟨8, false, L.length, 0, t.s.size, ⟨#[]⟩⟩ (L.length + 1) := TreeB.leaf (.inr ⟨t.s, rfl, by rw [List.getElem?_append_right (Nat.le_refl _), Nat.sub_self]; rfl, hs4, rfl⟩) _; have := (h1.app [txt t.s.toList] (Nat.le_refl _)).push g1
     simpa using this
   · rw [ha] at h; simp at h
 · have hlf : ∃ o e, leafB F L t = (L, o, e) ∧ (e = 0 → BareB o) := by
    obtain ⟨tk, tn, ts, tp⟩ := t; have hk := may_kinds hm; simp only at c7 c8 c6 hk
    by_cases d1 : tk = 1
    · subst d1; refine ⟨_, _, leaf_1, fun _ => .inl ⟨tn, rfl, ?_⟩⟩; unfold mayT at hm; simp only [if_true, Bool.and_eq_true, decide_eq_true_eq] at hm; exact ⟨hm.1.2, hm.2⟩
    by_cases d2 : tk = 2
    · subst d2; refine ⟨_, _, leaf_2, fun _ => .inr (.inl ⟨tn, rfl, ?_⟩)⟩; unfold mayT at hm; simp only [if_true, Bool.and_eq_true, decide_eq_true_eq, show ¬ (2 : Int) = 1 by decide, if_false] at hm; exact ⟨hm.1.2, hm.2⟩
    by_cases d3 : tk = 3
    · subst d3; obtain rfl := may_zero hm (by decide) (by decide); refine ⟨_, _, leaf_3, fun _ => .inr (.inr (.inl ⟨true, ts, rfl, ?_⟩))⟩; unfold mayT at hm; simp only [if_true, Bool.and_eq_true, decide_eq_true_eq, show ¬ (3 : Int) = 1 by decide, show ¬ (3 : Int) = 2 by decide, if_false, ne_eq, not_true_eq_false] at hm; exact hm.1.2
    by_cases d4 : tk = 4
    · subst d4; obtain rfl := may_zero hm (by decide) (by decide); refine ⟨_, _, leaf_4, fun _ => .inr (.inr (.inl ⟨false, ts, rfl, ?_⟩))⟩; unfold mayT at hm; simp only [if_true, Bool.and_eq_true, decide_eq_true_eq, show ¬ (4 : Int) = 1 by decide, show ¬ (4 : Int) = 2 by decide, show ¬ (4 : Int) = 3 by decide, if_false, ne_eq, not_true_eq_false, true_or] at hm; exact hm.1
    by_cases d5 : tk = 5
    · subst d5; exact ⟨_, _, leaf_5, fun h => hF L ts h⟩
    · refine ⟨_, _, leaf_o c6 d5 d1 d2 d3 d4, fun _ => .inr (.inr (.inl ⟨true, signN tk, rfl, ?_⟩))⟩; unfold signN
      repeat' split
      all_goals decide
   obtain ⟨o, e, hlf, hb⟩ := hlf; rw [hlf] at h
   by_cases he : e = 0
   · subst he; simp only [if_true, Sum.inl.injEq] at h; subst h; exact ⟨j, h1.push (TreeB.leaf (.inl ⟨hb rfl, rfl⟩) _), h2, h3, ⟨h4.1, h4.2.1, by simp only; omega⟩, put_len h5⟩
   · simp only [he, if_false] at h; simp at h
theorem run_all {F : List C → ByteArray → O × Int} (hF : GoodF F) {lo0 : Nat} : ∀ (ts : List Tok) (k : Nat) (i : Int) (s s' : OSt), k + ts.length ≤ 90 → RunB lo0 k s → runO F i ts s = .inl s' → RunB lo0 (k + ts.length) s'
 | [], k, i, s, s', _, hs, h => by
  simp only [runO, Sum.inl.injEq] at h; subst h; exact hs
 | t :: ts, k, i, s, s', hk, hs, h => by
  simp only [runO] at h
  cases hst : stepO F i t s with
  | inr e => rw [hst] at h; simp at h
  | inl s2 =>
   rw [hst] at h; simp only at h; simp only [List.length_cons] at hk ⊢; have := run_all hF ts (k + 1) (i + 1) s2 s' (by omega) (run_step hF (by omega) hs hst) h; rwa [show k + 1 + ts.length = k + (ts.length + 1) by omega] at this
theorem step_err {F : List C → ByteArray → O × Int} {t : Tok} {s : OSt} {a e : Int} (h : stepO F i t s = .inr (L, a, e)) : e ≠ 0 := by
 obtain ⟨L0, ls, bg⟩ := s; unfold stepO at h; simp only at h; split at h
 · simp only [Sum.inr.injEq, Prod.mk.injEq] at h; omega
 split at h
 · split at h
   · simp only [Sum.inr.injEq, Prod.mk.injEq] at h; omega
   · simp at h
 split at h
 · split at h
   · split at h
     · simp at h
     · rename_i hne
       simp only [Sum.inr.injEq, Prod.mk.injEq] at h; omega
   · simp only [Sum.inr.injEq, Prod.mk.injEq] at h; omega
 · split at h
   · simp at h
   · rename_i hne
     simp only [Sum.inr.injEq, Prod.mk.injEq] at h; omega
theorem run_err {F : List C → ByteArray → O × Int} : ∀ {ts : List Tok} {i : Int} {s : OSt} {L : List C} {a e : Int}, runO F i ts s = .inr (L, a, e) → e ≠ 0
 | [], i, s, L, a, e, h => by simp [runO] at h
 | t :: ts, i, s, L, a, e, h => by
  simp only [runO] at h
  cases hst : stepO F i t s with
  | inr r =>
   rw [hst] at h; simp only [Sum.inr.injEq] at h; subst h; exact step_err hst
  | inl s2 =>
   rw [hst] at h; exact run_err h
theorem objs_tree {F : List C → ByteArray → O × Int} (hF : GoodF F) (L0 : List C) (hL : L0.length ≤ 2000) (hu : used L0 ≤ 40000) (ts : List Tok) (hn : ts.length ≤ 90) : (∃ L os, objsB F L0 ts = (L, os, 0, 0) ∧ ForB (TreeB L 20) L0.length os L.length ∧ L.length ≤ 2000 ∧ used L ≤ 40000 ∧ L.length ≤ L0.length + ts.length ∧ os.length ≤ ts.length) ∨ ∃ L a e, objsB F L0 ts = (L, [], a, e) ∧ e ≠ 0 := by
 have h0 : RunB L0.length 0 (L0, [[]], []) := ⟨0, .base .nil, rfl, by omega, ⟨hL, hu, by simp⟩, fun l hl => by simp at hl; rw [hl]; simp⟩
 unfold objsB
 cases hr : runO F 0 ts (L0, [[]], []) with
 | inr e =>
  obtain ⟨L', a, e⟩ := e; exact .inr ⟨L', a, e, rfl, run_err hr⟩
 | inl s =>
  obtain ⟨L, ls, bg⟩ := s; have := run_all hF ts 0 0 _ _ (by omega) h0 hr; obtain ⟨j, h1, h2, h3, h4, h5⟩ := this; simp only at h1 h2 h4 h5
  cases bg with
  | cons b bg => exact .inr ⟨L, b, 4, rfl, by decide⟩
  | nil =>
   simp only [List.length_nil] at h2; subst h2
   cases h1 with
   | base h1 =>
    refine .inl ⟨L, _, rfl, h1, h4.1, h4.2.1, by have := h4.2.2; omega, ?_⟩; have := h5 _ (List.mem_cons_self ..)
    simpa using this
theorem prog_tree {F : List C → ByteArray → O × Int} (hF : GoodF F) (L0 : List C) (hL : L0.length ≤ 2000) (hu : used L0 ≤ 40000) (ts : List Tok) (hn : ts.length ≤ 90) : (∃ L o, progB F L0 ts = (L, o, 0, 0) ∧ TreeB L 21 L0.length o L.length ∧ o.kind = 9 ∧ L.length ≤ 2000 ∧ L.length ≤ L0.length + ts.length + 1) ∨ ∃ L a e, progB F L0 ts = (L, O.nil, a, e) ∧ e ≠ 0 := by
 rcases objs_tree hF L0 hL hu ts hn with ⟨L, os, h1, h2, h3, h4, h5, h6⟩ | ⟨L, a, e, h1, h2⟩
 · rcases arrB_two L os h4 (by omega) (fun x hx => by obtain ⟨a, b, hx⟩ := h2.all x hx; exact hx.may h3) with ⟨a1, a2, ha⟩ | ha
   · refine .inl ⟨L ++ [rowC os], arX L.length os.length, ?_, ?_, rfl, by simp; omega, by simp; omega⟩
     · unfold progB; rw [h1]; simp only [if_true]; rw [ha]; simp
     · have := TreeB.arr (L := L ++ [rowC os]) (d := 20) (lo := L0.length) (m := L.length) (xs := os) (by rw [List.getElem?_append_right (Nat.le_refl _), Nat.sub_self]; rfl) (by omega) (h2.mono (fun a o b h _ a2 => TreeB.app _ h (by omega)) fun lo o hi h => TreeB.le h)
       simpa using this
   · refine .inr ⟨L, ts.length, 5, ?_, by decide⟩; unfold progB; rw [h1]; simp only [if_true]; rw [ha]; simp
 · refine .inr ⟨L, a, e, ?_, h2⟩; unfold progB; rw [h1]; simp only; rw [if_neg h2]
end Go.Proofs.YtoogmimbmgdflaaGreat
