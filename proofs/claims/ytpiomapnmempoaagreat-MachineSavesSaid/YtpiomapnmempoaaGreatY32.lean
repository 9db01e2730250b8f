/- Parts of the proof: Ubp. -/
import Derived.Test.YtpiomapnmempoaaGreatY30
import Derived.Test.YtpiomapnmempoaaGreatY31
namespace Go.Proofs.YtpiomapnmempoaaGreat
open Go.RowKit
abbrev arX (N z : Int) : O := ⟨9, true, N, 0, z, ⟨#[]⟩⟩
theorem mayO_arX (N z : Int) (h0 : 0 ≤ N) (h1 : N ≤ 40000) (hz : 0 ≤ z) (hz' : z ≤ 40000) : mayO (arX N z) = true := by
 simp [mayO, eqO, bareO, O.nil]; omega
theorem mayH_app {L : List C} {o : O} (Y : List C) (h : mayH L o = true) : mayH (L ++ Y) o = true := by
 unfold mayH at h ⊢; rw [Bool.and_eq_true] at h ⊢; refine ⟨h.1, ?_⟩; have h2 := h.2
 cases hh : held o with
 | false => rfl
 | true =>
  rw [hh] at h2; simp only [Bool.not_true, Bool.false_or, Bool.and_eq_true, decide_eq_true_eq] at h2 ⊢; obtain ⟨h3, h4⟩ := h2
  cases hc : L[o.n.toNat]? with
  | none => rw [hc] at h4; simp at h4
  | some c =>
   rw [hc] at h4; have hl := (List.getElem?_eq_some_iff.1 hc).1; rw [List.getElem?_append_left hl, hc]; refine ⟨by rw [List.length_append]; omega, h4⟩
theorem may_arX {L : List C} {N : Nat} {is : List O} (hc : L[N]? = some (rowC is)) (hN : N ≤ 40000) (hs : is.length ≤ 40000) (z : Int) (hz : z = is.length) : mayH L (arX N z) = true := by
 have hl := (List.getElem?_eq_some_iff.1 hc).1; unfold mayH; rw [mayO_arX N z (by omega) (by omega) (by omega) (by omega)]; simp [held, hc, C.kind, C.size]
 omega
theorem setsB_row (L : List C) (xs : List O) (hL : L.length < 2000) (hx : xs.length ≤ 40000) (hm : ∀ x ∈ xs, mayH L x = true) : ∀ j, j ≤ xs.length → setsB (L ++ [rowC (List.replicate xs.length nullO)]) (arN L.length xs.length) xs j = L ++ [rowC (filled xs xs.length j)] := by
 intro j
 induction j with
 | zero => intro _; rw [filled_none]; rfl
 | succ j ih =>
  intro hj; rw [setsB_succ, ih (by omega)]
  have ho : xs[j]? = some (xs.getD j O.nil) := by rw [List.getD_eq_getElem?_getD, List.getElem?_eq_getElem (by omega)]; rfl
  have hf := filled_length xs xs.length j rfl (by omega); rw [set_a (L := L ++ [rowC (filled xs xs.length j)]) (N := L.length) (is := filled xs xs.length j) (by rw [List.getElem?_append_right (Nat.le_refl _), Nat.sub_self]; rfl) (by omega) (by omega) _ (by rw [hf]) j (by omega) _ (mayH_app _ (hm _ (List.mem_of_getElem? ho)))]; simp only; rw [set_last, filled_set xs xs.length j rfl _ ho]
theorem arrB_ok (L : List C) (xs : List O) (hL : L.length < 2000) (hu : used L + xs.length ≤ 40000) (hm : ∀ x ∈ xs, mayH L x = true) : arrB L xs = (L ++ [rowC xs], arX L.length xs.length, 0) := by
 unfold arrB; rw [array_a L xs.length hL hu]; simp only [if_true]; rw [setsB_row L xs hL (by omega) hm _ (Nat.le_refl _), filled_all _ _ rfl]
theorem used_row (L : List C) (xs : List O) : used (L ++ [rowC xs]) = used L + xs.length := by
 rw [used_cat']; simp [used, C.size]
theorem sysQ_used8 : used (hQ sysQ) = 726 := by
 have h1 : hQ sysQ = [dcellk true (sysK 162) 162] ++ [dcellk false [] 200] := by simp [hQ, sysQ]
 rw [h1, used_cat', used_dc _ _ _ (by rw [sysK_length]; decide), used_dc _ _ _ (by simp)]
theorem sysQ_len8 : (hQ sysQ).length = 2 := by rw [hQ, List.length_map]; rfl
def noF (_ : List C) (_ : ByteArray) : O × Int := (O.nil, 9)
theorem runO_app (F : List C → ByteArray → O × Int) (ts us : List Tok) : ∀ (i : Int) (s s' : OSt), runO F i ts s = .inl s' → runO F i (ts ++ us) s = runO F (i + ts.length) us s' := by
 induction ts with
 | nil =>
  intro i s s' h; simp only [runO, Sum.inl.injEq] at h; subst h; simp
 | cons t ts ih =>
  intro i s s' h; simp only [runO, List.cons_append] at h ⊢
  cases hs : stepO F i t s with
  | inr e => rw [hs] at h; simp at h
  | inl s2 =>
   rw [hs] at h; simp only at h ⊢; rw [ih _ _ _ h, List.length_cons]
   congr 1
   omega
end Go.Proofs.YtpiomapnmempoaaGreat
