/- Bytes in memory, made a string. -/
import Derived.Test.YtgllgemjfpiogaaTq
namespace Go.Proofs.Ytgllgemjfpiogaa
open Go.RowKit

theorem loadCells_T (P : Program) (w : World) (a : Addr) (bs : List UInt8) (h : ∀ i (hi : i < bs.length), w.cell? (a.add i) = some (u8V bs[i])) :
    (loadCells a bs.length).run P w = .ok (bs.map u8V).toArray w := by
  have key : ∀ (n i : Nat) (acc : Array Value), i + n = bs.length → (loadCellsFrom a i n acc).run P w = .ok (acc ++ ((bs.drop i).map u8V).toArray) w := by
    intro n
    induction n with
    | zero => intro i acc hi; simp [loadCellsFrom, show bs.drop i = [] from List.drop_eq_nil_of_le (by omega)]
    | succ n ih =>
      intro i acc hi
      have hlt : i < bs.length := by omega
      simp only [loadCellsFrom, Sem.run_bind, run_load, h i hlt, Result.andThen_ok]
      rw [ih (i + 1) _ (by omega), List.drop_eq_getElem_cons hlt]
      refine congrArg (fun x => Result.ok x w) ?_
      apply Array.ext'
      simp only [Array.toList_append, Array.toList_push, List.append_assoc, List.singleton_append, List.map_cons]
  have := key bs.length 0 #[] (by omega)
  simpa [loadCells] using this
theorem forIn_T (P : Program) (w : World) (f : Value → ByteArray → Sem (ForInStep ByteArray)) (hf : ∀ n s, f (.int .u8 n) s = pure (.yield (s.push (UInt8.ofNat n.toNat)))) :
    ∀ (l acc : List UInt8), (forIn (m := Sem) (l.map u8V) (⟨acc.toArray⟩ : ByteArray) f).run P w = .ok ⟨(acc ++ l).toArray⟩ w
  | [], acc => by simp
  | b :: l, acc => by
    simp only [List.map_cons, List.forIn_cons, hf, Sem.run_bind, Sem.run_pure, Result.andThen_ok]
    have e : (⟨acc.toArray⟩ : ByteArray).push (UInt8.ofNat ((b.toNat : Int)).toNat) = ⟨(acc ++ [b]).toArray⟩ := by
      simp [ByteArray.push]
    rw [e, forIn_T P w f hf l (acc ++ [b])]
    simp
theorem bytesToString_T (P : Program) (w : World) (a : Addr) (bs : List UInt8) (c : Nat) (h : ∀ i (hi : i < bs.length), w.cell? (a.add i) = some (u8V bs[i])) :
    (Conv.bytesToString (.slice (some a) bs.length c)).run P w = .ok (.string ⟨bs.toArray⟩) w := by
  have hl := loadCells_T P w a bs h
  simp only [Conv.bytesToString, Sem.run_bind, hl, Result.andThen_ok, List.forIn_toArray]
  have e0 : (ByteArray.empty : ByteArray) = ⟨([] : List UInt8).toArray⟩ := rfl
  rw [e0]
  have hk := fun f hf => forIn_T P w f hf bs []
  simp only [List.nil_append] at hk
  refine (congrArg (fun r => Result.andThen r fun a w' => (Pure.pure (Value.string a) : Sem Value).run P w') (hk _ (fun n s => rfl))).trans ?_
  simp
end Go.Proofs.Ytgllgemjfpiogaa
