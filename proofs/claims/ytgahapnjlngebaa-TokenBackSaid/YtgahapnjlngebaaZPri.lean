/- Walk: token.Print where all words may be (the first loop, and more than 4000 words). -/
import Derived.Test.YtgahapnjlngebaaZPrh
namespace Go.Proofs.Ytgahapnjlngebaa
open Go.RowKit

set_option maxRecDepth 100000 in
set_option maxHeartbeats 1000000 in
theorem print_many {w : World} {v : Value} {l : List Tok} (hv : ToksAt w v l) (hn : l.length ≤ 9223372036854775807) (h4 : 4000 < l.length) (hm : ∀ t ∈ l, mayT t = true)
    (HMAY : ∀ t ∈ l, ∀ w, Calls Try.prog 16 #[t.val] w fun r w' => r = .returned (.bool (mayT t)) ∧ Chg NoB w w') :
    Calls Try.prog 15 #[v] w fun r w' => r = .returned (.tuple #[.string ⟨#[]⟩, .int .i64 5]) ∧ Chg NoB w w' := by
  obtain ⟨a, c, rfl, hc, hv⟩ := hv
  obtain ⟨b, off, rfl, hbl, hv⟩ := hv (by omega)
  have HV := hid' hv
  have HM := hid' (fun t ht w => by have := HMAY t ht w; rwa [hm t ht] at this : ∀ t ∈ l, ∀ w, Calls Try.prog 16 #[t.val] w fun r w' => r = .returned (.bool true) ∧ Chg NoB w w')
  have h4' : 4000 < (l.length : Int) := by omega
  clear hv HMAY hm
  go_enter Try.func15, Try.ntmps15
  go_wp2_with fail
  go_loopw [11] (fun iv wr => ∃ j : Nat, j ≤ l.length ∧ iv = .int .i64 j ∧ Chg NoB w wr) (fun iv _ => l.length - (intOf iv).toNat)
  case atStart => exact ⟨0, Nat.zero_le _, rfl, Chg.refl _ _⟩
  case round =>
    obtain ⟨j, hj, rfl, X⟩ := hrel
    by_cases hlt : j < l.length
    · have hlt' : (j : Int) < l.length := by omega
      have h0j : (0 : Int) ≤ j := by omega
      obtain ⟨x, hx⟩ : ∃ x, l[j]? = some x := ⟨l[j]'(by omega), List.getElem?_eq_getElem _⟩
      have HX := hid' (HM.out x (List.mem_of_getElem? hx))
      obtain ⟨c1, c2, c3, c4⟩ := (HV.out j x hx).pure X
      have bl : b < wr.heap.size := Nat.lt_of_lt_of_le hbl X.size
      have X1 := X.alloc (tokBox x.kind x.n x.s x.pos)
      obtain ⟨xk, xn, xs, xp⟩ := x
      simp only at c1 c2 c3 c4 X1
      clear hx
      go_wp2_with fail
      refine (HX.out _).mono ?_
      rintro r w2 ⟨rfl, X2⟩
      have X3 := X1.trans X2
      clear X X1 X2 c1 c2 c3 c4
      go_wp2_with fail
      go_roundw
      case rel => exact ⟨j + 1, by omega, by go_num, X3⟩
      case measure => simp [intOf]; omega
    · obtain rfl : j = l.length := by omega
      go_wp2_with fail
      exact bodyPost_ret (v := .tuple #[.string ⟨#[]⟩, .int .i64 5]) (by simp [results, Try.results15, go_sem]) rfl ⟨rfl, X⟩
end Go.Proofs.Ytgahapnjlngebaa
