/- What SayReads says and reads: say.Full at its five objects, the words read back. -/
import Derived.Test.YtpgkjgceldleaaaZWhf
import Derived.Test.YtpgkjgceldleaaaZHeapd
import Derived.Test.YtpgkjgceldleaaaZTokc
namespace Go.Proofs.Ytpgkjgceldleaaa
open Go.RowKit

theorem may_kind (t : Tok) (hm : mayT t = true) : t.kind ≠ 0 := by
  obtain ⟨k, n, s, p⟩ := t
  rintro rfl
  unfold mayT at hm
  simp [signL] at hm
theorem all_back (t : Tok) (hm : mayT t = true) (hl : (printL t).length ≤ 20000) : allF (printL t) = (0, [{ t with pos := 0 }], 0) := by
  have h1 := next_back t hm [] (.inl rfl)
  rw [List.append_nil] at h1
  have hk := may_kind t hm
  obtain ⟨c, u, h2, h3, h4⟩ := print_head t hm
  have hs : skipL false (printL t) = 0 := by rw [h2, skipL, if_neg h3, if_neg h4]
  have ht : tokAt 0 (printL t) = { t with pos := 0 } := by
    unfold tokAt
    rw [hs, List.drop_zero, h1, if_neg (by rw [h2]; simp)]
    rfl
  have a5 : nextF [] = (0, Tok.nil, 0, 0) := by decide +kernel
  have a6 : ∀ a, tokAt a [] = Tok.nil := fun a => by unfold tokAt; rw [if_pos (.inl (by simp))]
  unfold allF
  rw [if_neg (by omega), allW, h1, ht]
  simp only [ne_eq, not_true_eq_false, if_false]
  rw [if_neg hk, if_neg (by simp)]
  simp only [Nat.zero_add, List.drop_length, List.nil_append]
  rw [h2, List.length_cons, allW, a5, a6]
  rfl
theorem full_T {w0 w : World} {M : List (Nat × List C)} {K : List (Nat × Obj)} {hp : Nat} (A : Ats w0 w M K) (o : O) (T : List UInt8) (hT : T.length ≤ 1000) (HW : ∀ w K bt, Told w0 w M K hp bt [] → Calls Try.prog 39 #[ptr bt, o.val, .int .i64 0] w fun r w' => r = .returned (.bool (decide (([] ++ T).length < 1000))) ∧ Told w0 w' M K hp bt (([] ++ T).take 1000)) :
    Calls Try.prog 13 #[ptr hp, o.val] w fun r w' => r = .returned (.string (bytesB T)) ∧ Ats w0 w' M K := by
  have h := at_fullT A o T (fun w K bt B => (HW w K bt B).mono fun r w' ⟨h1, h2⟩ => ⟨_, h1, h2⟩)
  rw [List.take_of_length_le hT] at h
  exact h
theorem mayO_i (n : Int) (h0 : -2147483647 ≤ n) (h1 : n ≤ 2147483647) : mayO ⟨3, false, n, 0, 0, ⟨#[]⟩⟩ = true := by
  simp [mayO, eqO, bareO, O.nil]; omega
theorem mayO_n (ex : Bool) (s : ByteArray) (h : s.size ≤ 100) : mayO ⟨5, ex, 0, 0, 0, s⟩ = true := by
  simp [mayO, eqO, bareO, O.nil]; omega
theorem full_int {w0 w : World} {M : List (Nat × List C)} {K : List (Nat × Obj)} {hp : Nat} (A : Ats w0 w M K) (n : Int) (h0 : -2147483647 ≤ n) (h1 : n ≤ 2147483647) :
    Calls Try.prog 13 #[ptr hp, O.val ⟨3, false, n, 0, 0, ⟨#[]⟩⟩] w fun r w' => r = .returned (.string (bytesB (printL ⟨1, n, ⟨#[]⟩, 0⟩))) ∧ Ats w0 w' M K := by
  have e : printL ⟨1, n, ⟨#[]⟩, 0⟩ = intL n := rfl
  have hl := decL_short n h0 h1
  rw [e]
  refine full_T A _ _ (by omega) (fun w K bt B => ?_)
  have h := whole_leaf B (by simp) 0 ⟨3, false, n, 0, 0, ⟨#[]⟩⟩ (mayO_i n h0 h1) (.inr (.inl rfl))
  rw [show plainB ⟨3, false, n, 0, 0, ⟨#[]⟩⟩ = bytesB (intL n) from rfl, bytesB_lst] at h
  exact h
theorem full_fix {w0 w : World} {M : List (Nat × List C)} {K : List (Nat × Obj)} {hp : Nat} (A : Ats w0 w M K) (n : Int) (h0 : -1073741823 ≤ n) (h1 : n ≤ 1073741823) :
    Calls Try.prog 13 #[ptr hp, O.val ⟨4, false, n, 0, 0, ⟨#[]⟩⟩] w fun r w' => r = .returned (.string (bytesB (printL ⟨2, n, ⟨#[]⟩, 0⟩))) ∧ Ats w0 w' M K := by
  have e : printL ⟨2, n, ⟨#[]⟩, 0⟩ = fixL n := rfl
  have hl := fix_len n h0 h1
  rw [e]
  refine full_T A _ _ (by omega) (fun w K bt B => ?_)
  have h := whole_fix B (by simp) 0 n h0 h1
  rw [bytesB_lst] at h
  exact h
theorem full_name {w0 w : World} {M : List (Nat × List C)} {K : List (Nat × Obj)} {hp : Nat} (A : Ats w0 w M K) (s : ByteArray) (hs : s.size ≤ 100) :
    Calls Try.prog 13 #[ptr hp, O.val ⟨5, false, 0, 0, 0, s⟩] w fun r w' => r = .returned (.string (bytesB (printL ⟨4, 0, s, 0⟩))) ∧ Ats w0 w' M K := by
  have e : printL ⟨4, 0, s, 0⟩ = 47 :: s.toList := rfl
  have hl := size_lst s
  rw [e]
  exact full_T A _ _ (by rw [List.length_cons]; omega) (fun w K bt B => whole_name B (by simp) 0 0 0 0 s (mayO_n false s hs))
theorem full_exec {w0 w : World} {M : List (Nat × List C)} {K : List (Nat × Obj)} {hp : Nat} (A : Ats w0 w M K) (s : ByteArray) (hs : s.size ≤ 100) :
    Calls Try.prog 13 #[ptr hp, O.val ⟨5, true, 0, 0, 0, s⟩] w fun r w' => r = .returned (.string (bytesB (printL ⟨3, 0, s, 0⟩))) ∧ Ats w0 w' M K := by
  have e : printL ⟨3, 0, s, 0⟩ = s.toList := rfl
  have hl := size_lst s
  rw [e]
  exact full_T A _ _ (by omega) (fun w K bt B => whole_leaf B (by simp) 0 ⟨5, true, 0, 0, 0, s⟩ (mayO_n true s hs) (.inr (.inr (.inr ⟨rfl, rfl⟩))))
theorem full_str {w0 w : World} {M : List (Nat × List C)} {K : List (Nat × Obj)} {hp : Nat} (s : ByteArray) (hs : s.size ≤ 200) (hM : (hp, [txt s.toList]) ∈ M) (A : Ats w0 w M K) :
    Calls Try.prog 13 #[ptr hp, O.val ⟨8, false, 0, 0, s.size, ⟨#[]⟩⟩] w fun r w' => r = .returned (.string (bytesB (printL ⟨6, 0, s, 0⟩))) ∧ Ats w0 w' M K := by
  have e : printL ⟨6, 0, s, 0⟩ = parenL s.toList := rfl
  have hl := size_lst s
  have hq := quote_len s.toList
  have hx := bytes_all s.toList [] (s.size : Int) (by rw [hl]) (by omega)
  rw [ofList] at hx
  rw [e]
  refine full_T A _ _ ?_ (fun w K bt B => ?_)
  · show (40 :: (quoteQ s.toList ++ [41])).length ≤ 1000
    simp; omega
  · have h := whole_str B (by simp) 0 hM false 0 0 s.size ⟨#[]⟩ s 0 hx (by omega)
    rw [bytesB_lst] at h
    exact h
end Go.Proofs.Ytpgkjgceldleaaa
