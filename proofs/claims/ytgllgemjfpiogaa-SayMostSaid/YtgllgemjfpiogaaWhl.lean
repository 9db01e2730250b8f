/- say's (*teller).whole: by induction on how deep it may still go. -/
import Derived.Test.YtgllgemjfpiogaaWat
namespace Go.Proofs.Ytgllgemjfpiogaa
open Go.RowKit

/-- The uncut text; d: how many arrays deeper. -/
def sayT (H : List C) : Nat → O → List UInt8
  | 0, o => leafT o
  | d + 1, o => if o.kind = 9 then arrT o.exec (sayT H d) (itemsH H o).1 else leafT o
/-- Objects whose text is told whole. -/
def SayG (H : List C) : Nat → O → Prop
  | 0, o => mayO o = true ∧ plainK o ∧ (o.kind = 9 → (itemsH H o).2 = 0 ∧ 0 < (itemsH H o).1.length)
  | d + 1, o => mayO o = true ∧ plainK o ∧ (o.kind = 9 → (itemsH H o).2 = 0 ∧ 0 < (itemsH H o).1.length ∧ (itemsH H o).1.length ≤ 100000 ∧ ∀ x ∈ (itemsH H o).1, SayG H d x)
theorem whole_no9 {w0 w : World} {M : List (Nat × List C)} {K : List (Nat × Obj)} {hp bt : Nat} {b : List UInt8} (A : Told w0 w M K hp bt b) (hb : b.length ≤ 1000) (deep : Int) (o : O) (hm : mayO o = true) (hk : plainK o) (h9 : ¬ o.kind = 9) :
    Calls Try.prog 50 #[ptr bt, o.val, .int .i64 deep] w fun r w' => r = .returned (.bool (decide ((b ++ leafT o).length < 1000))) ∧ Told w0 w' M K hp bt ((b ++ leafT o).take 1000) := by
  unfold leafT
  by_cases c : o.kind = 5 ∧ o.exec = false
  · rw [if_pos c]
    obtain ⟨k, ex, n, a, l, s⟩ := o
    obtain ⟨c1, c2⟩ := c
    simp only at c1 c2
    subst c1 c2
    exact whole_name A hb deep n a l s hm
  · rw [if_neg c]
    refine whole_leaf A hb deep o hm ?_
    rcases hk with h | h | h | h | h
    · exact .inl h
    · exact .inr (.inl h)
    · refine .inr (.inr (.inr ⟨h, ?_⟩))
      cases he : o.exec with
      | true => rfl
      | false => exact absurd ⟨h, he⟩ c
    · exact .inr (.inr (.inl h))
    · exact absurd h h9
theorem whole_any {w0 : World} {M : List (Nat × List C)} {hp bt : Nat} {H : List C} (hM : (hp, H) ∈ M) : ∀ (d : Nat), d ≤ 20 → ∀ (o : O), SayG H d o → ∀ (w : World) (K : List (Nat × Obj)) (b : List UInt8), Told w0 w M K hp bt b → b.length ≤ 1000 →
    Calls Try.prog 50 #[ptr bt, o.val, .int .i64 (20 - (d : Int))] w fun r w' => r = .returned (.bool (decide ((b ++ sayT H d o).length < 1000))) ∧ Told w0 w' M K hp bt ((b ++ sayT H d o).take 1000)
  | 0, _, o, hg, w, K, b, A, hb => by
    obtain ⟨hm, hk, h9⟩ := hg
    by_cases c : o.kind = 9
    · obtain ⟨e1, e2⟩ := h9 c
      have e3 : sayT H 0 o = (plainB o).toList := by
        unfold sayT leafT
        rw [if_neg (fun e => by have := e.1; omega)]
      rw [e3]
      obtain ⟨k, ex, n, a, l, s⟩ := o
      simp only at c
      subst c
      exact whole_deep A hb hM ex n a l s hm (Prod.ext rfl e1) e2
    · exact whole_no9 A hb _ o hm hk c
  | d + 1, hd, o, hg, w, K, b, A, hb => by
    obtain ⟨hm, hk, h9⟩ := hg
    by_cases c : o.kind = 9
    · obtain ⟨e1, e2, e3, e4⟩ := h9 c
      have e5 : sayT H (d + 1) o = arrT o.exec (sayT H d) (itemsH H o).1 := by rw [sayT, if_pos c]
      rw [e5]
      have ih := fun x hx => whole_any (w0 := w0) (bt := bt) hM d (by omega) x (e4 x hx)
      rw [show (20 : Int) - (d : Int) = 20 - ((d + 1 : Nat) : Int) + 1 by omega] at ih
      obtain ⟨k, ex, n, a, l, s⟩ := o
      simp only at c
      subst c
      cases ex with
      | true => exact whole_arr_true A hb hM _ (by omega) (by omega) n a l s (Prod.ext rfl e1) e2 e3 (sayT H d) ih
      | false => exact whole_arr_false A hb hM _ (by omega) (by omega) n a l s (Prod.ext rfl e1) e2 e3 (sayT H d) ih
    · have e5 : sayT H (d + 1) o = leafT o := by rw [sayT, if_neg c]
      rw [e5]
      exact whole_no9 A hb _ o hm hk c
end Go.Proofs.Ytgllgemjfpiogaa
