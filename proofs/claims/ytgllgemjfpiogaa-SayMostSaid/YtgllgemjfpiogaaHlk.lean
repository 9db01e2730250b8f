/- Walks: Lock, Bytes. -/
import Derived.Test.YtgllgemjfpiogaaHpt
namespace Go.Proofs.Ytgllgemjfpiogaa
open Go.RowKit

def lockH (L : List C) (o : O) : List C × Int :=
  if findE L o ≠ 0 then (L, findE L o) else match L[o.n.toNat]? with
    | none => (L, 0)
    | some c => (L.set o.n.toNat { c with locked := true }, 0)

theorem Next.lock {w w' : World} {hp : Nat} {slv : Value} {L : List PC} (H : HeapRep w ⟨hp, slv, L⟩) (X : Chg NoB w w') {N : Nat} (hN : N < L.length) :
    Next w ⟨hp, slv, L⟩ (w'.setCell ⟨L[N].p, 0, none⟩ (.bool true)) ((L.map PC.c).set N { L[N].c with locked := true }) := by
  have H' := H.pure X
  have hg : L[N].p ∈ L[N].foot := by simp [PC.foot]
  have hc : Chg (· ∈ L[N].foot) w' (w'.setCell ⟨L[N].p, 0, none⟩ (.bool true)) := (Chg.refl _ _).one hg _
  have hin : ∀ b ∈ L[N].foot, b ∈ HS.foot ⟨hp, slv, L⟩ := fun b hb => by simp only [HS.foot, List.mem_cons, List.mem_append, List.mem_flatMap]; exact .inr (.inr ⟨_, List.getElem_mem hN, hb⟩)
  refine ⟨⟨hp, slv, L.set N { L[N] with c := { L[N].c with locked := true } }⟩, rfl, by simp [HS.l], H'.update hN _ hc ?_ rfl rfl rfl (by simp [C.size]),
    (X.mono (fun _ _ e => e.elim)).trans (hc.mono (fun i _ hi => hin i hi)), fun i hb => .inl ?_⟩
  · have hok := H'.cell _ (List.getElem_mem hN)
    have h2 : ∀ b ∈ L[N].sl.ownBlock.toList, b ≠ L[N].p := by
      have := H.apart
      simp only [HS.foot, List.nodup_cons, List.nodup_append] at this
      have h2 := (List.pairwise_flatMap.1 this.2.2.1).1 _ (List.getElem_mem hN)
      simp only [PC.foot, List.pairwise_cons] at h2
      exact fun b hb e => h2.1 b hb e.symm
    have hcp := (Chg.refl (fun b => b = L[N].p) w').one (p := ⟨L[N].p, 0, none⟩) rfl (.bool true)
    unfold PC.ok at hok ⊢
    by_cases ht : L[N].c.text = true
    · simp only [ht, if_true] at hok ⊢
      refine ⟨by have := blk_set hok.1 0 (.bool true); simpa using this, hok.2.1.chg hcp h2, hok.2.2⟩
    · simp only [ht, if_false, Bool.false_eq_true] at hok ⊢
      refine ⟨by have := blk_set hok.1 0 (.bool true); simpa using this, hok.2.1.chg hcp h2, hok.2.2⟩
  · rw [foot_set hp slv L N { L[N] with c := { L[N].c with locked := true } } hN rfl rfl] at hb; exact hb

/-! ### A piece of a list of bytes, as a string -/
theorem loadCells_bytes (P : Program) (w : World) (a : Addr) (bs : List UInt8) (h : ∀ i (hi : i < bs.length), w.cell? (a.add i) = some (vu8 bs[i])) :
    (loadCells a bs.length).run P w = .ok (bs.map vu8).toArray w := by
  have key : ∀ (n i : Nat) (acc : Array Value), i + n = bs.length → (loadCellsFrom a i n acc).run P w = .ok (acc ++ ((bs.drop i).map vu8).toArray) w := by
    intro n
    induction n with
    | zero => intro i acc hi; simp [loadCellsFrom, show bs.drop i = [] from List.drop_eq_nil_of_le (by omega)]
    | succ n ih =>
      intro i acc hi
      have hlt : i < bs.length := by omega
      simp only [loadCellsFrom, Sem.run_bind, run_load, h i hlt, Result.andThen_ok]
      rw [ih (i + 1) _ (by omega), List.drop_eq_getElem_cons hlt]
      refine congrArg (fun x => Result.ok x w) ?_
      apply Array.ext'
      simp only [Array.toList_append, Array.toList_push, List.append_assoc, List.singleton_append, List.map_cons]
  have := key bs.length 0 #[] (by omega)
  simpa [loadCells] using this
theorem forIn_push (P : Program) (w : World) (f : Value → ByteArray → Sem (ForInStep ByteArray)) (hf : ∀ n s, f (.int .u8 n) s = pure (.yield (s.push (UInt8.ofNat n.toNat)))) :
    ∀ (l acc : List UInt8), (forIn (m := Sem) (l.map vu8) (⟨acc.toArray⟩ : ByteArray) f).run P w = .ok ⟨(acc ++ l).toArray⟩ w
  | [], acc => by simp
  | b :: l, acc => by
    simp only [List.map_cons, List.forIn_cons, hf, Sem.run_bind, Sem.run_pure, Result.andThen_ok]
    have e : (⟨acc.toArray⟩ : ByteArray).push (UInt8.ofNat ((b.toNat : Int)).toNat) = ⟨(acc ++ [b]).toArray⟩ := by
      simp [ByteArray.push]
    rw [e, forIn_push P w f hf l (acc ++ [b])]
    simp
theorem bytesToString_run (P : Program) (w : World) (a : Addr) (bs : List UInt8) (c : Nat) (h : ∀ i (hi : i < bs.length), w.cell? (a.add i) = some (vu8 bs[i])) :
    (Conv.bytesToString (.slice (some a) bs.length c)).run P w = .ok (.string ⟨bs.toArray⟩) w := by
  have hl := loadCells_bytes P w a bs h
  simp only [Conv.bytesToString, Sem.run_bind, hl, Result.andThen_ok, List.forIn_toArray]
  have e0 : (ByteArray.empty : ByteArray) = ⟨([] : List UInt8).toArray⟩ := rfl
  rw [e0]
  have hk := fun f hf => forIn_push P w f hf bs []
  simp only [List.nil_append] at hk
  refine (congrArg (fun r => Result.andThen r fun a w' => (Pure.pure (Value.string a) : Sem Value).run P w') (hk _ (fun n s => rfl))).trans ?_
  simp
end Go.Proofs.Ytgllgemjfpiogaa
