/- Wat, Whl, Ful -/
import Derived.Test.YtgahapnjlngebaaZSayb
/- Walk: say's (*teller).whole at an array that can be run. -/
namespace Go.Proofs.Ytgahapnjlngebaa
open Go.RowKit
end Go.Proofs.Ytgahapnjlngebaa
/- say's (*teller).whole: by induction on how deep it may still go. -/
namespace Go.Proofs.Ytgahapnjlngebaa
open Go.RowKit

/-- The uncut text; d: how many arrays deeper. -/
def sayT (H : List C) : Nat → O → List UInt8
  | 0, o => leafT o
  | d + 1, o => if o.kind = 9 then arrT o.exec (sayT H d) (itemsH H o).1 else leafT o
/-- Objects whose text is told whole. -/
def SayG (H : List C) : Nat → O → Prop
  | 0, o => mayO o = true ∧ plainK o ∧ (o.kind = 9 → (itemsH H o).2 = 0 ∧ 0 < (itemsH H o).1.length)
  | d + 1, o => mayO o = true ∧ plainK o ∧ (o.kind = 9 → (itemsH H o).2 = 0 ∧ 0 < (itemsH H o).1.length ∧ (itemsH H o).1.length ≤ 100000 ∧ ∀ x ∈ (itemsH H o).1, SayG H d x)
end Go.Proofs.Ytgahapnjlngebaa
/- Walk: say.Full. -/
namespace Go.Proofs.Ytgahapnjlngebaa
open Go.RowKit

theorem own_strF {w : World} {B : Nat} {v : Value} {b : List UInt8} (h : w.ownsRow B 5 1 v b.length (b.map vu8)) : (convert 35 9 v).run Try.prog w = .ok (.string ⟨b.toArray⟩) w := by
  have hc : (convert 35 9 v).run Try.prog w = (Conv.bytesToString v).run Try.prog w := by
    obtain ⟨a, c, rfl, -⟩ := own_val h
    cases a <;> simp only [convert, Sem.run_bind, run_underlying nt_underStr, run_underlying nt_under, run_underlying nt_underByte, Result.andThen_ok]
  rw [hc]
  rcases h.2 with ⟨rfl, h0⟩ | ⟨g, cap, cur, rfl, h1, h2, h3, h4, h5, h6⟩
  · obtain rfl : b = [] := List.eq_nil_of_length_eq_zero h0
    simp [Conv.bytesToString]; rfl
  · exact bytesToString_T Try.prog w ⟨g, 0, none⟩ b cap (fun i hi => by
      rw [add_z, cells_of h2 i, ← Array.getElem?_toList]
      have : cur.toList[i]? = (cur.toList.take (b.length * 1))[i]? := by rw [List.getElem?_take, if_pos (by omega)]
      rw [this, h6]
      simp [hi])
end Go.Proofs.Ytgahapnjlngebaa
