/- tympanref12.Set, whatever is set: a dictionary of the same room is left. -/
import Derived.Test.YtpgkjgceldleaaaGreatZDictd
namespace Go.Proofs.YtpgkjgceldleaaaGreat
open Go.RowKit

theorem keyD_mayL {L : List C} {o key : O} (h : keyD L o = (key, 0)) : mayH L key = true := keyD_may h
/-- Set of the reference, whatever key and value. -/
theorem rset12_ex {J0 : List (Nat × Obj)} {w0 w : World} {M : List (Nat × List C)} {K : List (Nat × Obj)} {gp : Nat} {L : List C} (T : RS J0 w0 gp M K L w) (N : Nat) (ps : List (O × O)) (room : Nat) (D : DicAt L N (dcell ps room)) (h : ps.length ≤ room) (hr : room ≤ 1000) (k v : O) :
    ∃ (ps' : List (O × O)) (e : Int), ps'.length ≤ room ∧ Calls Tryz.prog 62 #[ptr gp, (dicO N).val, k.val, v.val] w fun x w' => x = .returned (.int .i64 e) ∧ RS J0 w0 gp M K (L.set N (dcell ps' room)) w' := by
  have hst : L.set N (dcell ps room) = L := by
    apply List.ext_getElem?
    intro j
    rw [List.getElem?_set]
    split
    · rename_i e; subst e
      rw [if_pos D.lt]; exact D.cell.symm
    · rfl
  obtain ⟨key, e, hk⟩ : ∃ key e, keyD L k = (key, e) := ⟨_, _, rfl⟩
  by_cases he : e = 0
  · subst he
    have hmk := keyD_may hk
    by_cases hv : mayH L v = true
    · obtain ⟨i, hF, hR⟩ := found_at ps key v
      rcases hR with ⟨hi, kk', u2, h3, -, -, -⟩ | ⟨hi, -, -, -⟩
      · exact ⟨ps.set i (kk', v), 0, by simpa using h, rset12_any T N ps room D h hr k v hk hv hmk i hF (.inl ⟨hi, rfl, kk', u2, h3, rfl⟩)⟩
      · by_cases hlt : ps.length < room
        · exact ⟨ps ++ [(key, v)], 0, by simp; omega, rset12_any T N ps room D h hr k v hk hv hmk i hF (.inr (.inl ⟨hi, hlt, rfl, rfl⟩))⟩
        · exact ⟨ps, 20, h, rset12_any T N ps room D h hr k v hk hv hmk i hF (.inr (.inr ⟨hi, by omega, rfl, hst⟩))⟩
    · have hv' : mayH L v = false := by simpa using hv
      exact ⟨ps, 1, h, by rw [hst]; exact rset12_bad T N ps room D h hr k v hk hv'⟩
  · exact ⟨ps, e, h, by rw [hst]; exact rset12_err T N ps room D h hr k v hk he⟩
end Go.Proofs.YtpgkjgceldleaaaGreat
