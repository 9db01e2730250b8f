/- Dd, Dpr, Dpk -/
import Derived.Test.YtpgkjgceldleaaaZDictb
import Derived.Test.YtpgkjgceldleaaaZHeapc
/- dict.Drop, on a heap that a law made. -/
namespace Go.Proofs.Ytpgkjgceldleaaa
open Go.RowKit

theorem may_null (L : List C) : mayH L nullO = true := by simp [mayH, held, mayO, eqO, bareO, O.nil, nullO]
theorem dItems_may (L : List C) (ps : List (O × O)) (room : Nat) (h : ps.length ≤ room) (hall : ∀ p ∈ ps, mayH L p.1 = true ∧ mayH L p.2 = true) (j : Nat) (h0 : 1 ≤ j) (hj : j < 2 * room + 1) : mayH L ((dItems ps room).getD j O.nil) = true := by
  rw [List.getD_eq_getElem?_getD, dItems_at ps room h j hj, if_neg (by omega)]
  simp only [Option.getD_some]
  cases hp : ps[(j - 1) / 2]? with
  | none => exact may_null L
  | some p =>
    have := hall p (List.mem_of_getElem? hp)
    simp only
    split
    · exact this.1
    · exact this.2
abbrev dcellD (ps : List (O × O)) (room a i : Nat) : C := ⟨false, true, false, dropped ps room a i, []⟩
theorem DicAt.drop {L : List C} {N : Nat} {ps : List (O × O)} {room : Nat} (D : DicAt L N (dcell ps room)) (h : ps.length ≤ room) (a i : Nat) : DicAt (L.set N (dcellD ps room a i)) N (dcellD ps room a i) :=
  D.put _ rfl rfl rfl (by simp only [dropped_length]; exact (dItems_length ps room h).symm)
theorem drop_may {L : List C} {N : Nat} {ps : List (O × O)} {room : Nat} (D : DicAt L N (dcell ps room)) (h : ps.length ≤ room) (a i : Nat) (o : O) : mayH (L.set N (dcellD ps room a i)) o = mayH L o :=
  may_put L N _ (dcellD ps room a i) D.cell rfl (by simp [C.size, dropped_length, dItems_length ps room h]) o
/-- One round of Drop: what is moved, and what it leaves. -/
theorem drop_get {L : List C} {N : Nat} {ps : List (O × O)} {room : Nat} (D : DicAt L N (dcell ps room)) (h : ps.length ≤ room) (a i : Nat) (hi : i + 2 ≤ 2 * ps.length) :
    getH (L.set N (dcellD ps room a i)) (dicO N) ((i : Int) + 2) = ((dItems ps room).getD (i + 2) O.nil, 0) :=
  (D.drop h a i).get _ (by omega) _ (by
    rw [show ((i : Int) + 2).toNat = i + 2 by omega, dropped_at _ _ _ _ _ (by omega), if_neg (by omega), if_neg (by omega)])
theorem drop_set {L : List C} {N : Nat} {ps : List (O × O)} {room : Nat} (D : DicAt L N (dcell ps room)) (h : ps.length ≤ room) (a i : Nat) (ha : 2 * a + 1 ≤ i) (hi : i ≤ 2 * ps.length) (x : O) (hm : mayH L x = true)
    (hx : x = if i + 2 ≤ 2 * ps.length then (dItems ps room).getD (i + 2) O.nil else nullO) :
    setH (L.set N (dcellD ps room a i)) (dicO N) (i : Int) x = (L.set N (dcellD ps room a (i + 1)), 0) := by
  have := ((D.drop h a i).step i (by simp only [dropped_length]; omega) x (by rw [drop_may D h]; exact hm)).1
  rw [set_set_same] at this
  have e := dropped_step ps room a i h ha hi x (by
    rw [hx]
    by_cases h2 : i + 2 ≤ 2 * ps.length
    · have e : (dropped ps room a i)[i + 2]? = some ((dItems ps room).getD (i + 2) O.nil) := by rw [dropped_at _ _ _ _ _ (by omega), if_neg (by omega), if_neg (by omega)]
      rw [if_pos h2, if_pos h2, @List.getD_eq_getElem?_getD _ (dropped ps room a i), e]; rfl
    · rw [if_neg h2, if_neg h2])
  simp only [e] at this
  exact this
theorem drop_first {L : List C} {N : Nat} {ps : List (O × O)} {room : Nat} (D : DicAt L N (dcell ps room)) (h : ps.length ≤ room) (hr : room ≤ 1000) (a : Nat) :
    setH L (dicO N) 0 (numO ((ps.length : Int) - 1)) = (L.set N (dcellD ps room a (2 * a + 1)), 0) := by
  have := (D.step 0 (by simp [dItems_length ps room h]) (numO ((ps.length : Int) - 1)) (may_num _ _ (by omega) (by omega))).1
  simp only [dropped_start ps room a h] at this
  exact this

end Go.Proofs.Ytpgkjgceldleaaa
/- Dictionaries as lists of pairs: what Set, Drop and Get make of them. -/
namespace Go.Proofs.Ytpgkjgceldleaaa
open Go.RowKit

theorem bare_un (a : O) : bareO (unO a) = bareO a := rfl
theorem mayO_un (a : O) : mayO (unO a) = mayO a := rfl
theorem sizeO_un (a : O) : sizeO (unO a) = sizeO a := rfl
/-- What two keys that are one have in common. -/
def canO (o : O) : Int ⊕ O := if (sizeO o).2 = true then .inl (sizeO o).1 else .inr (unO o)
theorem same_can (a b : O) : sameO a b = decide (canO a = canO b) := by
  unfold sameO canO
  by_cases h1 : (sizeO a).2 = true <;> by_cases h2 : (sizeO b).2 = true
  · simp [h1, h2]
  · rw [if_neg (fun h => h2 h.2), if_pos h1, if_neg h2]
    simp only [reduceCtorEq, decide_false]
    exact eqO_ne fun e => h2 (by rw [← sizeO_un b, ← e, sizeO_un, h1])
  · rw [if_neg (fun h => h1 h.1), if_neg h1, if_pos h2]
    simp only [reduceCtorEq, decide_false]
    exact eqO_ne fun e => h1 (by rw [← sizeO_un a, e, sizeO_un, h2])
  · rw [if_neg (fun h => h1 h.1), if_neg h1, if_neg h2]
    simp [eqO]
theorem same_comm (a b : O) : sameO a b = sameO b a := by
  rw [same_can, same_can]; exact decide_eq_decide.2 ⟨Eq.symm, Eq.symm⟩
theorem same_trans {a b : O} (h : sameO a b = true) (c : O) : sameO a c = sameO b c := by
  rw [same_can] at h; rw [same_can, same_can, of_decide_eq_true h]
theorem same_self (a : O) : sameO a a = true := by rw [same_can]; simp

def getK : List (O × O) → O → Option O
  | [], _ => none
  | p :: ps, k => if sameO p.1 k = true then some p.2 else getK ps k
def setK : List (O × O) → O → O → List (O × O)
  | [], k, v => [(k, v)]
  | p :: ps, k, v => if sameO p.1 k = true then (p.1, v) :: ps else p :: setK ps k v
def dropK : List (O × O) → O → List (O × O)
  | [], _ => []
  | p :: ps, k => if sameO p.1 k = true then ps else p :: dropK ps k
/-- No two keys are the same. -/
def UniqK (ps : List (O × O)) : Prop := ps.Pairwise fun p q => sameO p.1 q.1 = false

theorem place_cons {ps : List (O × O)} {k : O} {r : Nat} {b : Bool} (p : O × O) (h : sameO p.1 k = false) (hP : PlaceS ps k r b) : PlaceS (p :: ps) k (if b = true then r + 1 else 0) b := by
  rcases hP with ⟨rfl, ⟨q, hq, hs⟩, hn⟩ | ⟨rfl, rfl, hn⟩
  · refine .inl ⟨rfl, ⟨q, by simpa using hq, hs⟩, fun j x hj hx => ?_⟩
    cases j with
    | zero => simp at hx; subst hx; exact h
    | succ j => exact hn j x (by simp at hj; omega) (by simpa using hx)
  · refine .inr ⟨rfl, by simp, fun j x hx => ?_⟩
    cases j with
    | zero => simp at hx; subst hx; exact h
    | succ j => exact hn j x (by simpa using hx)
/-- A key's place, and what it is good for. -/
theorem place_at (ps : List (O × O)) (k v : O) : ∃ r b, PlaceS ps k r b ∧
    ((b = true ∧ ∃ kk u, ps[r]? = some (kk, u) ∧ ps.set r (kk, v) = setK ps k v ∧ ps.eraseIdx r = dropK ps k ∧ getK ps k = some u) ∨
     (b = false ∧ getK ps k = none ∧ setK ps k v = ps ++ [(k, v)] ∧ dropK ps k = ps)) := by
  induction ps with
  | nil => exact ⟨0, false, .inr ⟨rfl, rfl, fun j p h => by simp at h⟩, .inr ⟨rfl, rfl, rfl, rfl⟩⟩
  | cons p ps ih =>
    by_cases h : sameO p.1 k = true
    · exact ⟨0, true, .inl ⟨rfl, ⟨p, rfl, h⟩, fun j q hj => absurd hj (by omega)⟩, .inl ⟨rfl, p.1, p.2, rfl, by simp [setK, h], by simp [dropK, h], by simp [getK, h]⟩⟩
    · obtain ⟨r, b, hP, hQ⟩ := ih
      refine ⟨_, b, place_cons p (by simpa using h) hP, ?_⟩
      rcases hQ with ⟨rfl, kk, u, h1, h2, h3, h4⟩ | ⟨rfl, h1, h2, h3⟩
      · exact .inl ⟨rfl, kk, u, by simpa using h1, by simp [setK, h, h2], by simp [dropK, h, h3], by simp [getK, h, h4]⟩
      · exact .inr ⟨rfl, by simp [getK, h, h1], by simp [setK, h, h2], by simp [dropK, h, h3]⟩

theorem setK_keys (ps : List (O × O)) (k v : O) : ∀ p ∈ setK ps k v, p.1 = k ∨ ∃ q ∈ ps, q.1 = p.1 := by
  induction ps with
  | nil => intro p hp; simp [setK] at hp; subst hp; exact .inl rfl
  | cons q ps ih =>
    intro p hp
    unfold setK at hp
    split at hp
    · rcases List.mem_cons.1 hp with rfl | hp
      · exact .inr ⟨q, List.mem_cons_self .., rfl⟩
      · exact .inr ⟨p, List.mem_cons_of_mem _ hp, rfl⟩
    · rcases List.mem_cons.1 hp with rfl | hp
      · exact .inr ⟨p, List.mem_cons_self .., rfl⟩
      · rcases ih p hp with h | ⟨x, hx, e⟩
        · exact .inl h
        · exact .inr ⟨x, List.mem_cons_of_mem _ hx, e⟩
theorem setK_all {P : O → Prop} {Q : O → Prop} (ps : List (O × O)) (k v : O) (h : ∀ p ∈ ps, P p.1 ∧ Q p.2) (hk : P k) (hv : Q v) : ∀ p ∈ setK ps k v, P p.1 ∧ Q p.2 := by
  induction ps with
  | nil => intro p hp; simp [setK] at hp; subst hp; exact ⟨hk, hv⟩
  | cons q ps ih =>
    intro p hp
    unfold setK at hp
    split at hp
    · rcases List.mem_cons.1 hp with rfl | hp
      · exact ⟨(h q (List.mem_cons_self ..)).1, hv⟩
      · exact h p (List.mem_cons_of_mem _ hp)
    · rcases List.mem_cons.1 hp with rfl | hp
      · exact h p (List.mem_cons_self ..)
      · exact ih (fun x hx => h x (List.mem_cons_of_mem _ hx)) p hp
theorem dropK_sub (ps : List (O × O)) (k : O) : (dropK ps k).Sublist ps := by
  induction ps with
  | nil => exact List.Sublist.slnil
  | cons q ps ih =>
    unfold dropK
    split
    · exact List.sublist_cons_self _ _
    · exact ih.cons_cons _
theorem setK_length (ps : List (O × O)) (k v : O) : (setK ps k v).length = if getK ps k = none then ps.length + 1 else ps.length := by
  induction ps with
  | nil => simp [setK, getK]
  | cons q ps ih =>
    unfold setK getK
    by_cases h : sameO q.1 k = true
    · simp [h]
    · simp only [h, Bool.false_eq_true, if_false, List.length_cons, ih]; split <;> omega
theorem setK_uniq {ps : List (O × O)} (h : UniqK ps) (k v : O) : UniqK (setK ps k v) := by
  induction ps with
  | nil => simp [setK, UniqK]
  | cons q ps ih =>
    unfold UniqK at h ih ⊢
    rw [List.pairwise_cons] at h
    unfold setK
    by_cases hs : sameO q.1 k = true
    · rw [if_pos hs, List.pairwise_cons]; exact ⟨h.1, h.2⟩
    · rw [if_neg hs, List.pairwise_cons]
      refine ⟨fun p hp => ?_, ih h.2⟩
      rcases setK_keys ps k v p hp with e | ⟨x, hx, e⟩
      · rw [e]; simpa using hs
      · rw [← e]; exact h.1 x hx
theorem dropK_uniq {ps : List (O × O)} (h : UniqK ps) (k : O) : UniqK (dropK ps k) := h.sublist (dropK_sub ps k)
theorem get_set (ps : List (O × O)) (k v q : O) : getK (setK ps k v) q = if sameO k q = true then some v else getK ps q := by
  induction ps with
  | nil => simp [setK, getK]
  | cons p ps ih =>
    unfold setK
    by_cases h : sameO p.1 k = true
    · rw [if_pos h]
      simp only [getK, same_trans h q]
      split <;> rfl
    · rw [if_neg h]
      simp only [getK, ih]
      by_cases h2 : sameO p.1 q = true
      · rw [if_pos h2, if_pos h2, if_neg]
        intro h3
        rw [same_comm] at h2 h3
        exact h (by rw [same_comm, ← same_trans h3, h2])
      · rw [if_neg h2, if_neg h2]
theorem get_none {ps : List (O × O)} {q : O} (h : ∀ p ∈ ps, sameO p.1 q = false) : getK ps q = none := by
  induction ps with
  | nil => rfl
  | cons p ps ih => simp only [getK, h p (List.mem_cons_self ..), Bool.false_eq_true, if_false]; exact ih fun x hx => h x (List.mem_cons_of_mem _ hx)
theorem get_drop {ps : List (O × O)} (hu : UniqK ps) (k q : O) : getK (dropK ps k) q = if sameO k q = true then none else getK ps q := by
  induction ps with
  | nil => simp [dropK, getK]
  | cons p ps ih =>
    unfold UniqK at hu ih
    rw [List.pairwise_cons] at hu
    unfold dropK
    by_cases h : sameO p.1 k = true
    · rw [if_pos h]
      simp only [getK, same_trans h q]
      by_cases h2 : sameO k q = true
      · rw [if_pos h2]
        refine get_none fun x hx => ?_
        have := hu.1 x hx
        rw [same_trans h, same_comm] at this
        rw [same_comm] at h2
        rw [same_comm, same_trans h2, same_comm, this]
      · rw [if_neg h2, if_neg h2]
    · rw [if_neg h]
      simp only [getK, ih hu.2]
      by_cases h2 : sameO p.1 q = true
      · rw [if_pos h2, if_pos h2, if_neg]
        intro h3
        rw [same_comm] at h2 h3
        exact h (by rw [same_comm, ← same_trans h3, h2])
      · rw [if_neg h2, if_neg h2]
end Go.Proofs.Ytpgkjgceldleaaa
/- dict.Set, Drop and Get, as what they make of a list of pairs. -/
namespace Go.Proofs.Ytpgkjgceldleaaa
open Go.RowKit
theorem DicAt.self {L : List C} {N : Nat} {c : C} (D : DicAt L N c) : L.set N c = L := by
  apply List.ext_getElem?
  intro j
  rw [List.getElem?_set]
  by_cases hj : N = j
  · subst hj; rw [if_pos rfl, if_pos D.lt]; exact D.cell.symm
  · rw [if_neg hj]
theorem at_dsetK {w0 w : World} {hp : Nat} {L : List C} {M : List (Nat × List C)} {K : List (Nat × Obj)} (A : Ats w0 w ((hp, L) :: M) K) (N : Nat) (ps : List (O × O)) (room : Nat) (D : DicAt L N (dcell ps room)) (h : ps.length < room) (hr : room ≤ 1000) (hf : ps.length < 256)
    (k v : O) {key : O} (hk : keyD L k = (key, 0)) (hmv : mayH L v = true) (hmk : mayH L key = true) :
    Calls Try.prog 27 #[ptr hp, (dicO N).val, k.val, v.val] w fun x w' => x = .returned (.int .i64 0) ∧ Ats w0 w' ((hp, L.set N (dcell (setK ps key v) room)) :: M) K := by
  obtain ⟨r, b, hP, hQ⟩ := place_at ps key v
  refine at_dset A N ps room D (by omega) hr hf k v hk hmv hmk r b hP ?_
  rcases hQ with ⟨rfl, kk, u, h1, h2, -, -⟩ | ⟨rfl, -, h2, -⟩
  · exact .inl ⟨rfl, rfl, kk, u, h1, by rw [h2]⟩
  · exact .inr (.inl ⟨rfl, h, rfl, by rw [h2]⟩)
theorem at_dgetK {lk : Bool} {w0 w : World} {hp : Nat} {L : List C} {M : List (Nat × List C)} {K : List (Nat × Obj)} (A : Ats w0 w M K) (hm : (hp, L) ∈ M) (N : Nat) (ps : List (O × O)) (room : Nat) (D : DicAt L N (dcellk lk ps room)) (h : ps.length ≤ room) (hr : room ≤ 1000) (hf : ps.length < 256)
    (k : O) {key : O} (hk : keyD L k = (key, 0)) (v : O) (e : Int) (hv : (getK ps key = some v ∧ e = 0) ∨ (getK ps key = none ∧ v = O.nil ∧ e = 9)) :
    Calls Try.prog 55 #[ptr hp, (dicO N).val, k.val] w fun x w' => x = .returned (.tuple #[v.val, .int .i64 e]) ∧ Ats w0 w' M K := by
  obtain ⟨r, b, hP, hQ⟩ := place_at ps key O.nil
  rcases hQ with ⟨rfl, kk, u, h1, -, -, h2⟩ | ⟨rfl, h2, -, -⟩
  · rcases hv with ⟨h3, rfl⟩ | ⟨h3, -⟩
    · obtain rfl : u = v := by rw [h2] at h3; exact Option.some.inj h3
      exact at_dgetSome A hm N ps room D h hr hf k hk r hP kk u h1
    · rw [h2] at h3; simp at h3
  · rcases hv with ⟨h3, -⟩ | ⟨-, rfl, rfl⟩
    · rw [h2] at h3; simp at h3
    · exact at_dgetNone A hm N ps room D h hr hf k hk r hP
end Go.Proofs.Ytpgkjgceldleaaa
