/- Sq, Shp -/
import Derived.Test.YtpgkjgceldleaaaZScf
/- A heap of dictionaries, all of them in a scope: Find, Def, Begin, and known of tympanlaw16. -/
namespace Go.Proofs.Ytpgkjgceldleaaa
open Go.RowKit

/-- A dictionary: its pairs, its room, whether it is locked. -/
abbrev DQ := List (O × O) × Nat × Bool
def hQ (Q : List DQ) : List C := Q.map fun q => dcellk q.2.2 q.1 q.2.1
abbrev dcn (i : Nat) : O := dicO (i : Int)
def dsQ (n : Nat) : List O := (List.range n).map dcn
def OKQ (Q : List DQ) : Prop := (∀ q ∈ Q, q.1.length ≤ q.2.1 ∧ q.2.1 ≤ 1000 ∧ q.1.length < 256) ∧ Q.length ≤ 1000
theorem dsQ_length (n : Nat) : (dsQ n).length = n := by simp [dsQ]
theorem dsQ_succ (n : Nat) : dsQ (n + 1) = dsQ n ++ [dcn n] := by simp [dsQ, List.range_succ]
theorem dsQ_last (n : Nat) : (dsQ (n + 1)).dropLast = dsQ n := by rw [dsQ_succ, List.dropLast_concat]
theorem hQ_snoc (Q : List DQ) (q : DQ) : hQ (Q ++ [q]) = hQ Q ++ [dcellk q.2.2 q.1 q.2.1] := by simp [hQ]
theorem hQ_set (Q : List DQ) (n : Nat) (q : DQ) : hQ (Q.set n q) = (hQ Q).set n (dcellk q.2.2 q.1 q.2.1) := by simp [hQ]
theorem q_at (Q : List DQ) (h : OKQ Q) (n : Nat) (q : DQ) (hq : Q[n]? = some q) : DicAt (hQ Q) n (dcellk q.2.2 q.1 q.2.1) ∧ q.1.length ≤ q.2.1 ∧ q.2.1 ≤ 1000 ∧ q.1.length < 256 := by
  have hm := List.mem_of_getElem? hq
  have hl := (List.getElem?_eq_some_iff.1 hq).1
  have hb := h.1 q hm
  have h2 := h.2
  exact ⟨⟨by simp [hQ, hq], rfl, rfl, rfl, by simp only [dItems_length _ _ hb.1]; omega, by omega⟩, hb⟩
/-- What the dictionaries below n answer for a key, the highest first. -/
def lookN (Q : List DQ) (key : O) : Nat → O × O × Int
  | 0 => (O.nil, O.nil, 9)
  | n + 1 => match getK (Q.getD n ([], 0, false)).1 key with
    | some v => (v, dcn n, 0)
    | none => lookN Q key n
/-- What Get answers at a dictionary. -/
def getQ (Q : List DQ) (key : O) (d : O) : O × Int := match getK (Q.getD d.n.toNat ([], 0, false)).1 key with
  | some v => (v, 0)
  | none => (O.nil, 9)
theorem find_look (Q : List DQ) (key : O) : ∀ n, findG (getQ Q key) (dsQ n).reverse = lookN Q key n
  | 0 => rfl
  | n + 1 => by
    rw [dsQ_succ, List.reverse_append]
    show findG (getQ Q key) (dcn n :: (dsQ n).reverse) = _
    rw [findG, lookN]
    have e : getQ Q key (dcn n) = match getK (Q.getD n ([], 0, false)).1 key with | some v => (v, 0) | none => (O.nil, 9) := by
      simp only [getQ, Int.toNat_natCast]
    rw [e]
    cases getK (Q.getD n ([], 0, false)).1 key with
    | none => simp only; rw [if_neg (by decide)]; exact find_look Q key n
    | some v => simp only; rw [if_pos trivial]
theorem q_get {w0 w : World} {hp : Nat} {M : List (Nat × List C)} {K : List (Nat × Obj)} (Q : List DQ) (h : OKQ Q) (A : Ats w0 w M K) (hm : (hp, hQ Q) ∈ M) (n : Nat) (hn : n < Q.length) (k : O) {key : O} (hk : keyD (hQ Q) k = (key, 0)) :
    Calls Try.prog 55 #[ptr hp, (dcn n).val, k.val] w fun x w' => x = .returned (.tuple #[(getQ Q key (dcn n)).1.val, .int .i64 (getQ Q key (dcn n)).2]) ∧ Ats w0 w' M K := by
  obtain ⟨D, h1, h2, h3⟩ := q_at Q h n Q[n] (List.getElem?_eq_getElem hn)
  have e : getQ Q key (dcn n) = match getK Q[n].1 key with | some v => (v, 0) | none => (O.nil, 9) := by
    have hq : Q.getD n ([], 0, false) = Q[n] := by rw [List.getD_eq_getElem?_getD, List.getElem?_eq_getElem hn]; rfl
    simp only [getQ, Int.toNat_natCast, hq]
  rw [e]
  cases hg : getK Q[n].1 key with
  | none => exact at_dgetK A hm n _ _ D h1 h2 h3 k hk O.nil 9 (.inr ⟨hg, rfl, rfl⟩)
  | some v => exact at_dgetK A hm n _ _ D h1 h2 h3 k hk v 0 (.inl ⟨hg, rfl⟩)
theorem key_self (L : List C) (s : ByteArray) (hs : s.size ≤ 100) : keyD L (nameO s) = (nameO s, 0) := key_name L s false hs
theorem q_find {w0 w : World} {sp hp : Nat} {M : List (Nat × List C)} {K : List (Nat × Obj)} (Q : List DQ) (h : OKQ Q) (n : Nat) (S : ScpAt w0 w ((hp, hQ Q) :: M) K sp hp (dsQ n)) (h0 : 0 < n) (hn : n ≤ Q.length) (s : ByteArray) (hs : s.size ≤ 100) :
    Calls Try.prog 33 #[ptr sp, (nameO s).val] w fun x w' => x = .returned (.tuple #[(lookN Q (nameO s) n).1.val, (lookN Q (nameO s) n).2.1.val, .int .i64 (lookN Q (nameO s) n).2.2]) ∧ ScpAt w0 w' ((hp, hQ Q) :: M) K sp hp (dsQ n) := by
  have h2 := h.2
  have := scp_find S (List.mem_cons_self ..) (by rw [dsQ_length]; omega) (by rw [dsQ_length]; omega) (nameO s) (key_self _ s hs) (getQ Q (nameO s)) (fun d hd w2 K2 A => by
    obtain ⟨i, hi, rfl⟩ := List.mem_map.1 hd
    exact q_get Q h A (List.mem_cons_self ..) i (by have := List.mem_range.1 hi; omega) (nameO s) (key_self _ s hs))
  rw [find_look] at this
  exact this
/-- A pair more in the top dictionary. -/
theorem q_def {w0 w : World} {sp hp : Nat} {M : List (Nat × List C)} {K : List (Nat × Obj)} (Q : List DQ) (h : OKQ Q) (n : Nat) (S : ScpAt w0 w ((hp, hQ Q) :: M) K sp hp (dsQ (n + 1))) (ps : List (O × O)) (room : Nat) (hq : Q[n]? = some (ps, room, false)) (hr : ps.length < room) (s : ByteArray) (hs : s.size ≤ 100) (v : O) (hv : mayH (hQ Q) v = true) :
    Calls Try.prog 17 #[ptr sp, (nameO s).val, v.val] w fun x w' => x = .returned (.int .i64 0) ∧ ScpAt w0 w' ((hp, hQ (Q.set n (setK ps (nameO s) v, room, false))) :: M) K sp hp (dsQ (n + 1)) := by
  have h2 := h.2
  have hl := (List.getElem?_eq_some_iff.1 hq).1
  obtain ⟨D, b1, b2, b3⟩ := q_at Q h n _ hq
  rw [dsQ_succ] at S ⊢
  rw [hQ_set]
  exact scp_def S (by rw [dsQ_length]; omega) (nameO s) v (fun w2 K2 A => at_dsetK A n ps room D hr b2 b3 (nameO s) v (key_self _ s hs) hv (may_name _ s false hs))
theorem q_dictE (Q : List DQ) (h : OKQ Q) (n : Nat) (hn : n < Q.length) : dictE (hQ Q) (dcn n) = 0 := by
  obtain ⟨D, -⟩ := q_at Q h n Q[n] (List.getElem?_eq_getElem hn)
  unfold dictE
  rw [if_pos rfl, if_pos D.may]
/-- The two dictionaries of a new scope. -/
noncomputable def sysQ : List DQ := [(sysK 162, 162, true), ([], 200, false)]
theorem sysQ_ok : OKQ sysQ := by
  refine ⟨fun q hq => ?_, by decide⟩
  simp only [sysQ, List.mem_cons, List.not_mem_nil, or_false] at hq
  rcases hq with rfl | rfl
  · simp only [sysK_length]; decide
  · decide
theorem q_new {w0 w : World} {hp : Nat} {M : List (Nat × List C)} {K : List (Nat × Obj)} (A : Ats w0 w ((hp, []) :: M) K) :
    Calls Try.prog 8 #[ptr hp] w fun e w' => ∃ sp, e = .returned (.tuple #[ptr sp, .int .i64 0]) ∧ ScpAt w0 w' ((hp, hQ sysQ) :: M) K sp hp (dsQ 2) := by
  refine (scp_new A).mono ?_
  rintro e w' ⟨sp, lb, rfl, A2⟩
  exact ⟨sp, rfl, lb, 2, _, Nat.le_refl _, by decide, rfl, rfl, A2.perm (List.Perm.swap _ _ _)⟩
theorem look_sys (s : ByteArray) : lookN sysQ (nameO s) 2 = match getK (sysK 162) (nameO s) with
    | some v => (v, dcn 0, 0)
    | none => (O.nil, O.nil, 9) := rfl
theorem look_op (i : Nat) (hi : i < 162) : lookN sysQ (nameO (opN ((i : Int) + 1))) 2 = (opO ((i : Int) + 1), dcn 0, 0) := by
  rw [look_sys, sysK_get 162 i hi (Nat.le_refl _)]
theorem ScpAt.chg {w0 w : World} {M : List (Nat × List C)} {K : List (Nat × Obj)} {sp hp : Nat} {ds : List O} (S : ScpAt w0 w M K sp hp ds) : Chg NoB w0 w := by
  obtain ⟨_, _, _, _, _, _, _, A⟩ := S
  exact A.chg
end Go.Proofs.Ytpgkjgceldleaaa
/- The plain law of ScopeHides. -/
namespace Go.Proofs.Ytpgkjgceldleaaa
open Go.RowKit

theorem ScpAt.box {w0 w : World} {M : List (Nat × List C)} {K : List (Nat × Obj)} {sp hp : Nat} {ds : List O} (S : ScpAt w0 w M K sp hp ds) (q : Nat × Obj) (hq : q ∈ K) : w.heap[q.1]? = some q.2 := by
  obtain ⟨_, _, _, _, _, _, _, A⟩ := S
  exact A.box q (List.mem_cons_of_mem _ (List.mem_cons_of_mem _ hq))
theorem ScpAt.alloc {w0 w : World} {M : List (Nat × List C)} {K : List (Nat × Obj)} {sp hp : Nat} {ds : List O} (S : ScpAt w0 w M K sp hp ds) (o : Obj) : ScpAt w0 (w.alloc o) M ((w.heap.size, o) :: K) sp hp ds := by
  obtain ⟨g, cap, cur, h1, h2, h3, h4, A⟩ := S
  exact ⟨g, cap, cur, h1, h2, h3, h4, (A.alloc o).perm (List.perm_middle (l₁ := [_, _])).symm⟩
theorem ScpAt.keep {w0 w : World} {M : List (Nat × List C)} {K K' : List (Nat × Obj)} {sp hp : Nat} {ds : List O} (S : ScpAt w0 w M K sp hp ds) (h : K'.Sublist K) : ScpAt w0 w M K' sp hp ds := by
  obtain ⟨g, cap, cur, h1, h2, h3, h4, A⟩ := S
  exact ⟨g, cap, cur, h1, h2, h3, h4, A.keep ((h.cons_cons _).cons_cons _)⟩
theorem scp_dnew {w0 w : World} {hp : Nat} {L : List C} {M : List (Nat × List C)} {K : List (Nat × Obj)} {sp : Nat} {ds : List O} (S : ScpAt w0 w ((hp, L) :: M) K sp hp ds) (n : Int) {L' : List C} {o : O} {e : Int} (hr : dictH L n = (L', o, e)) :
    Calls Try.prog 25 #[ptr hp, .int .i64 n] w fun x w' => x = .returned (.tuple #[o.val, .int .i64 e]) ∧ ScpAt w0 w' ((hp, L') :: M) K sp hp ds := by
  obtain ⟨g, cap, cur, h1, h2, h3, h4, A⟩ := S
  exact (at_dnew A n hr).mono fun x w' ⟨e1, A'⟩ => ⟨e1, g, cap, cur, h1, h2, h3, h4, A'⟩
/-- The dictionary of round j. -/
def rndQ (s : ByteArray) (p j : Nat) : DQ := if j % 2 = p then ([(nameO s, numO j)], 3, false) else ([], 3, false)
noncomputable def HQ (s : ByteArray) (p i : Nat) : List DQ := sysQ ++ (List.range i).map (rndQ s p)
theorem HQ_length (s : ByteArray) (p i : Nat) : (HQ s p i).length = i + 2 := by simp [HQ, sysQ]
theorem HQ_succ (s : ByteArray) (p i : Nat) : HQ s p (i + 1) = HQ s p i ++ [rndQ s p i] := by simp [HQ, List.range_succ]
theorem rndQ_ok (s : ByteArray) (p j : Nat) : (rndQ s p j).1.length ≤ (rndQ s p j).2.1 ∧ (rndQ s p j).2.1 ≤ 1000 ∧ (rndQ s p j).1.length < 256 := by
  unfold rndQ; split <;> simp
theorem okQ_snoc {Q : List DQ} (h : OKQ Q) {q : DQ} (hq : q.1.length ≤ q.2.1 ∧ q.2.1 ≤ 1000 ∧ q.1.length < 256) (hl : Q.length < 1000) : OKQ (Q ++ [q]) := by
  refine ⟨fun x hx => ?_, by simp; omega⟩
  rcases List.mem_append.1 hx with hx | hx
  · exact h.1 x hx
  · rw [List.mem_singleton.1 hx]; exact hq
theorem HQ_ok (s : ByteArray) (p i : Nat) (hi : i ≤ 100) : OKQ (HQ s p i) := by
  induction i with
  | zero => simpa [HQ] using sysQ_ok
  | succ i ih => rw [HQ_succ]; exact okQ_snoc (ih (by omega)) (rndQ_ok s p i) (by rw [HQ_length]; omega)
theorem used_cat' (A B : List C) : used (A ++ B) = used A + used B := by simp [used]
theorem used_dc (lk : Bool) (ps : List (O × O)) (room : Nat) (h : ps.length ≤ room) : used [dcellk lk ps room] = 2 * room + 1 := by
  simp [used, C.size, dItems_length ps room h]
theorem HQ_used (s : ByteArray) (p i : Nat) : used (hQ (HQ s p i)) = 726 + 7 * i := by
  induction i with
  | zero =>
    have h1 : hQ (HQ s p 0) = [dcellk true (sysK 162) 162] ++ [dcellk false [] 200] := by simp [HQ, hQ, sysQ]
    rw [h1, used_cat', used_dc _ _ _ (by rw [sysK_length]; decide), used_dc _ _ _ (by decide)]
  | succ i ih =>
    have hr : (rndQ s p i).2.1 = 3 := by unfold rndQ; split <;> rfl
    rw [HQ_succ, hQ_snoc, used_cat', ih, used_dc _ _ _ (rndQ_ok s p i).1, hr]
    omega
theorem HQ_new (s : ByteArray) (p i : Nat) (hi : i ≤ 100) : dictH (hQ (HQ s p i)) 3 = (hQ (HQ s p i ++ [([], 3, false)]), dcn (i + 2), 0) := by
  have hl : (hQ (HQ s p i)).length = i + 2 := by rw [hQ, List.length_map, HQ_length]
  have := dict_new (hQ (HQ s p i)) 3 (by omega) (by decide) (by rw [HQ_used]; omega)
  rw [hl] at this
  rw [hQ_snoc]
  exact this
theorem HQ_get (s : ByteArray) (p m j : Nat) (h : j < m) : (HQ s p m).getD (j + 2) ([], 0, false) = rndQ s p j := by
  unfold HQ sysQ
  simp [List.getD_eq_getElem?_getD, h]
theorem look_low (s : ByteArray) (p m : Nat) (key : O) : lookN (HQ s p m) key 2 = lookN sysQ key 2 := by
  simp [lookN, HQ, sysQ, List.getD_eq_getElem?_getD]
theorem get_rnd (s : ByteArray) (p j : Nat) : getK (rndQ s p j).1 (nameO s) = if j % 2 = p then some (numO j) else none := by
  unfold rndQ
  split
  · simp [getK, same_self]
  · rfl
/-- What stands for the name, j dictionaries being above the two. -/
theorem look_H (s : ByteArray) (p m : Nat) (hp : p < 2) : ∀ j, j ≤ m → lookN (HQ s p m) (nameO s) (j + 2) = if j = 0 then lookN sysQ (nameO s) 2 else if (j - 1) % 2 = p then (numO ((j - 1 : Nat) : Int), dcn (j + 1), 0) else if j = 1 then lookN sysQ (nameO s) 2 else (numO ((j - 2 : Nat) : Int), dcn j, 0)
  | 0, _ => look_low s p m _
  | j + 1, hj => by
    rw [if_neg (by omega), show j + 1 + 2 = (j + 2) + 1 by omega, lookN, HQ_get s p m j (by omega), get_rnd, show j + 1 - 1 = j by omega]
    by_cases c : j % 2 = p
    · rw [if_pos c, if_pos c]
    · rw [if_neg c, if_neg c]
      simp only
      rw [look_H s p m hp j (by omega)]
      by_cases c0 : j = 0
      · rw [if_pos c0, if_pos (by omega)]
      · rw [if_neg c0, if_pos (by omega), if_neg (by omega)]
        rw [show j + 1 - 2 = j - 1 by omega]
/-- The round's dictionary, defined in. -/
theorem HQ_def (s : ByteArray) (p i : Nat) (h : i % 2 = p) : (HQ s p i ++ [([], 3, false)]).set (i + 2) (setK [] (nameO s) (numO i), 3, false) = HQ s p (i + 1) := by
  rw [HQ_succ, List.set_append_right _ _ (by rw [HQ_length]; omega), HQ_length, Nat.sub_self]
  simp [rndQ, h, setK]
theorem HQ_not (s : ByteArray) (p i : Nat) (h : ¬ i % 2 = p) : HQ s p i ++ [([], 3, false)] = HQ s p (i + 1) := by
  rw [HQ_succ]; simp [rndQ, h]
end Go.Proofs.Ytpgkjgceldleaaa
