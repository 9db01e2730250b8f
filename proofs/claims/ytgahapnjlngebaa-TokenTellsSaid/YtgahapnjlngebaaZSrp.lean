/- What SayReads says and reads: say.Full at its five objects, the words read back. -/
import Derived.Test.YtgahapnjlngebaaZWhf
import Derived.Test.YtgahapnjlngebaaZHeapd
import Derived.Test.YtgahapnjlngebaaZTokc
namespace Go.Proofs.Ytgahapnjlngebaa
open Go.RowKit

theorem may_kind (t : Tok) (hm : mayT t = true) : t.kind ≠ 0 := by
  obtain ⟨k, n, s, p⟩ := t
  rintro rfl
  unfold mayT at hm
  simp [signL] at hm
theorem all_back (t : Tok) (hm : mayT t = true) (hl : (printL t).length ≤ 20000) : allF (printL t) = (0, [{ t with pos := 0 }], 0) := by
  have h1 := next_back t hm [] (.inl rfl)
  rw [List.append_nil] at h1
  have hk := may_kind t hm
  obtain ⟨c, u, h2, h3, h4⟩ := print_head t hm
  have hs : skipL false (printL t) = 0 := by rw [h2, skipL, if_neg h3, if_neg h4]
  have ht : tokAt 0 (printL t) = { t with pos := 0 } := by
    unfold tokAt
    rw [hs, List.drop_zero, h1, if_neg (by rw [h2]; simp)]
    rfl
  have a5 : nextF [] = (0, Tok.nil, 0, 0) := by decide +kernel
  have a6 : ∀ a, tokAt a [] = Tok.nil := fun a => by unfold tokAt; rw [if_pos (.inl (by simp))]
  unfold allF
  rw [if_neg (by omega), allW, h1, ht]
  simp only [ne_eq, not_true_eq_false, if_false]
  rw [if_neg hk, if_neg (by simp)]
  simp only [Nat.zero_add, List.drop_length, List.nil_append]
  rw [h2, List.length_cons, allW, a5, a6]
  rfl
theorem mayO_i (n : Int) (h0 : -2147483647 ≤ n) (h1 : n ≤ 2147483647) : mayO ⟨3, false, n, 0, 0, ⟨#[]⟩⟩ = true := by
  simp [mayO, eqO, bareO, O.nil]; omega
theorem mayO_n (ex : Bool) (s : ByteArray) (h : s.size ≤ 100) : mayO ⟨5, ex, 0, 0, 0, s⟩ = true := by
  simp [mayO, eqO, bareO, O.nil]; omega
end Go.Proofs.Ytgahapnjlngebaa
