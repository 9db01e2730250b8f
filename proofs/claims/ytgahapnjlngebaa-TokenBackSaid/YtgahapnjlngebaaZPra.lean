/- Walk: token.Print. -/
import Derived.Test.YtgahapnjlngebaaZPrg
import Derived.Test.YtgahapnjlngebaaZTeq
import Derived.Test.YtgahapnjlngebaaZTxw
namespace Go.Proofs.Ytgahapnjlngebaa
open Go.RowKit

set_option maxRecDepth 100000 in
set_option maxHeartbeats 1000000 in
/-- Where a word that may not be stands among them. -/
theorem print_bad {w : World} {v : Value} {l : List Tok} (hv : ToksAt w v l) (hn : l.length ≤ 9223372036854775807) (i : Nat) (t : Tok) (hi : l[i]? = some t) (hm : mayT t = false) (hb : ∀ j u, j < i → l[j]? = some u → mayT u = true)
    (HMAY : ∀ t ∈ l, ∀ w, Calls Try.prog 16 #[t.val] w fun r w' => r = .returned (.bool (mayT t)) ∧ Chg NoB w w') :
    Calls Try.prog 15 #[v] w fun r w' => r = .returned (.tuple #[.string ⟨#[]⟩, .int .i64 1]) ∧ Chg NoB w w' := by
  obtain ⟨a, c, rfl, hc, hv⟩ := hv
  obtain ⟨hlt, hi'⟩ := List.getElem?_eq_some_iff.1 hi
  obtain ⟨b, off, rfl, hbl, hv⟩ := hv (by omega)
  have HV := hid' hv
  have HB := hid' hb
  have HM := hid' HMAY
  have HI := hid' hi
  have HT := hid' hm
  clear hv hb HMAY hi hi' hm
  go_enter Try.func15, Try.ntmps15
  go_wp2_with fail
  go_loopw [11] (fun iv wr => ∃ j : Nat, j ≤ i ∧ iv = .int .i64 j ∧ Chg NoB w wr) (fun iv _ => i + 1 - (intOf iv).toNat)
  case atStart => exact ⟨0, Nat.zero_le _, rfl, Chg.refl _ _⟩
  case round =>
    obtain ⟨j, hj, rfl, X⟩ := hrel
    have hlt' : (j : Int) < l.length := by omega
    have h0j : (0 : Int) ≤ j := by omega
    obtain ⟨x, hx⟩ : ∃ x, l[j]? = some x := ⟨l[j]'(by omega), List.getElem?_eq_getElem _⟩
    have hxm := HM.out x (List.mem_of_getElem? hx)
    obtain ⟨c1, c2, c3, c4⟩ := (HV.out j x hx).pure X
    have bl : b < wr.heap.size := Nat.lt_of_lt_of_le hbl X.size
    obtain ⟨xv, hxv⟩ : ∃ xv, mayT x = xv := ⟨_, rfl⟩
    rw [hxv] at hxm
    have hcase : xv = true ∧ j < i ∨ xv = false ∧ j = i := by
      by_cases e : j < i
      · exact .inl ⟨by rw [← hxv]; exact HB.out j x e hx, e⟩
      · obtain rfl : j = i := by omega
        have := HI.out.symm.trans hx
        injection this with this
        subst this
        exact .inr ⟨by rw [← hxv]; exact HT.out, rfl⟩
    have HX := hid' hxm
    have X1 := X.alloc (tokBox x.kind x.n x.s x.pos)
    obtain ⟨xk, xn, xs, xp⟩ := x
    simp only at c1 c2 c3 c4 X1
    clear hx hxm hxv
    go_wp2_with fail
    refine (HX.out _).mono ?_
    rintro r w2 ⟨rfl, X2⟩
    have X3 := X1.trans X2
    clear X X1 X2 c1 c2 c3 c4
    rcases hcase with ⟨rfl, e⟩ | ⟨rfl, rfl⟩
    · go_wp2_with fail
      go_roundw
      case rel => exact ⟨j + 1, by omega, by go_num, X3⟩
      case measure => simp [intOf]; omega
    · go_wp2_with fail
      exact bodyPost_ret (v := .tuple #[.string ⟨#[]⟩, .int .i64 1]) (by simp [results, Try.results15, go_sem]) rfl ⟨rfl, X3⟩
end Go.Proofs.Ytgahapnjlngebaa
