/- Walks: Lock, Bytes. -/
import Derived.Test.YtenlpkkeljhdeaaHpt
namespace Go.Proofs.Ytenlpkkeljhdeaa
open Go.RowKit

def lockH (L : List C) (o : O) : List C × Int :=
  if findE L o ≠ 0 then (L, findE L o) else match L[o.n.toNat]? with
    | none => (L, 0)
    | some c => (L.set o.n.toNat { c with locked := true }, 0)

theorem Next.lock {w w' : World} {hp : Nat} {slv : Value} {L : List PC} (H : HeapRep w ⟨hp, slv, L⟩) (X : Chg NoB w w') {N : Nat} (hN : N < L.length) :
    Next w ⟨hp, slv, L⟩ (w'.setCell ⟨L[N].p, 0, none⟩ (.bool true)) ((L.map PC.c).set N { L[N].c with locked := true }) := by
  have H' := H.pure X
  have hg : L[N].p ∈ L[N].foot := by simp [PC.foot]
  have hc : Chg (· ∈ L[N].foot) w' (w'.setCell ⟨L[N].p, 0, none⟩ (.bool true)) := (Chg.refl _ _).one hg _
  have hin : ∀ b ∈ L[N].foot, b ∈ HS.foot ⟨hp, slv, L⟩ := fun b hb => by simp only [HS.foot, List.mem_cons, List.mem_append, List.mem_flatMap]; exact .inr (.inr ⟨_, List.getElem_mem hN, hb⟩)
  refine ⟨⟨hp, slv, L.set N { L[N] with c := { L[N].c with locked := true } }⟩, rfl, by simp [HS.l], H'.update hN _ hc ?_ rfl rfl rfl (by simp [C.size]),
    (X.mono (fun _ _ e => e.elim)).trans (hc.mono (fun i _ hi => hin i hi)), fun i hb => .inl ?_⟩
  · have hok := H'.cell _ (List.getElem_mem hN)
    have h2 : ∀ b ∈ L[N].sl.ownBlock.toList, b ≠ L[N].p := by
      have := H.apart
      simp only [HS.foot, List.nodup_cons, List.nodup_append] at this
      have h2 := (List.pairwise_flatMap.1 this.2.2.1).1 _ (List.getElem_mem hN)
      simp only [PC.foot, List.pairwise_cons] at h2
      exact fun b hb e => h2.1 b hb e.symm
    have hcp := (Chg.refl (fun b => b = L[N].p) w').one (p := ⟨L[N].p, 0, none⟩) rfl (.bool true)
    unfold PC.ok at hok ⊢
    by_cases ht : L[N].c.text = true
    · simp only [ht, if_true] at hok ⊢
      refine ⟨by have := blk_set hok.1 0 (.bool true); simpa using this, hok.2.1.chg hcp h2, hok.2.2⟩
    · simp only [ht, if_false, Bool.false_eq_true] at hok ⊢
      refine ⟨by have := blk_set hok.1 0 (.bool true); simpa using this, hok.2.1.chg hcp h2, hok.2.2⟩
  · rw [foot_set hp slv L N { L[N] with c := { L[N].c with locked := true } } hN rfl rfl] at hb; exact hb

theorem headlock (p : Nat) (v : Value) (w : World) (hc : w.cell? ⟨p, 0, none⟩ = some v) (hf : w.frozen? ⟨p, 0, none⟩ = false) :
   Calls Try.prog 49 #[.pointer (some ⟨p, 0, none⟩)] w fun e w' => e = .returned (.tuple #[]) ∧ w.setCell ⟨p, 0, none⟩ (.bool true) = w' := by
  go_enter Try.func49, Try.ntmps49
  go_wp2
  go_end0
  exact ⟨rfl, rfl⟩

set_option maxHeartbeats 1000000 in
theorem lock_any (h : HS) (o : O) (w : World) (H : HeapRep w h) :
   Calls Try.prog 31 #[ptr h.hp, o.val] w fun e w' => e = .returned (.int .i64 (lockH h.l o).2) ∧ Next w h w' (lockH h.l o).1 := by
  obtain ⟨hp, slv, L⟩ := h
  obtain ⟨k, ex, N, a, l, s⟩ := o
  by_cases hE : findE (HS.l ⟨hp, slv, L⟩) ⟨k, ex, N, a, l, s⟩ ≠ 0
  · have hs : lockH (HS.l ⟨hp, slv, L⟩) ⟨k, ex, N, a, l, s⟩ = (HS.l ⟨hp, slv, L⟩, findE (HS.l ⟨hp, slv, L⟩) ⟨k, ex, N, a, l, s⟩) := by simp [lockH, hE]
    rw [hs]
    have hb : (findE (HS.l ⟨hp, slv, L⟩) ⟨k, ex, N, a, l, s⟩ != 0) = true := by simpa using hE
    have FB := fun w' (H' : HeapRep w' ⟨hp, slv, L⟩) => find_bad ⟨hp, slv, L⟩ ⟨k, ex, N, a, l, s⟩ w' H' hE
    generalize findE (HS.l ⟨hp, slv, L⟩) ⟨k, ex, N, a, l, s⟩ = fe at *
    go_enter Try.func31, Try.ntmps31
    go_wp2_with fail
    refine (FB _ (H.pure ((Chg.refl NoB w).alloc _))).mono ?_
    rintro e w1 ⟨rfl, hb1⟩
    have hB0 := hb1.blk (blk_new w _) id
    have H1 := (H.pure ((Chg.refl NoB w).alloc _)).pure hb1
    have XW := ((Chg.refl NoB w).alloc _).pure hb1
    clear hb1
    clear FB
    go_wp2
    go_ret
    refine ⟨rfl, Next.same H ?_⟩
    (repeat' (first | with_reducible assumption | with_reducible refine Chg.alloc ?_ _ | with_reducible refine Chg.drew ?_ | with_reducible refine Chg.drewN ?_ _ | with_reducible refine Chg.setCell ?_ (Or.inr ?_) _ | exact Nat.le_refl _ | exact Nat.le_add_right _ _ | (simp; done) | (simp; omega)))
  simp only [ne_eq, Decidable.not_not] at hE
  obtain ⟨hn, hok, hx, hc, -⟩ := findE_good H hE
  have FG := fun w' (H' : HeapRep w' ⟨hp, slv, L⟩) => find_good ⟨hp, slv, L⟩ ⟨k, ex, N, a, l, s⟩ w' H' hE hn
  simp only at FG hn hc hx
  have hs : lockH (HS.l ⟨hp, slv, L⟩) ⟨k, ex, N, a, l, s⟩ = ((L.map PC.c).set N.toNat { L[N.toNat].c with locked := true }, 0) := by
    simp [lockH, hE, hc]
  rw [hs]
  have NL := fun w' (X : Chg NoB w w') => Next.lock H X hn
  clear hs hE hc hok
  generalize lenOf L[N.toNat].c ⟨k, ex, N, a, l, s⟩ = z at *
  generalize L[N.toNat] = x at *
  generalize atOf ⟨k, ex, N, a, l, s⟩ = p at *
  have HNL := Hid.mk' NL
  clear NL
  by_cases ht : x.c.text = true
  · have hval : x.val = .agg #[.pointer none, ptr x.p] := by simp [PC.val, PC.ptrs, ht]
    rw [hval] at FG
    clear hval
    go_enter Try.func31, Try.ntmps31
    go_wp2_with fail
    refine (FG _ (H.pure ((Chg.refl NoB w).alloc _))).mono ?_
    rintro e w1 ⟨rfl, hb1⟩
    have hB0 := hb1.blk (blk_new w _) id
    have H1 := (H.pure ((Chg.refl NoB w).alloc _)).pure hb1
    have XW := ((Chg.refl NoB w).alloc _).pure hb1
    clear hb1
    have hhd := (H1.cell x hx).head.1 ht
    clear FG
    have R := cells_of hhd
    have l1 := blk_lt hhd
    go_wp2_with fail
    refine (headlock x.p (.bool x.c.locked) _ (by simp [go_sem, l1, R]) (by simp [go_sem, l1, free_of hhd])).mono ?_
    rintro e w2 ⟨rfl, rfl⟩
    go_wp2
    go_ret
    refine ⟨rfl, Next.pure (w' := w1.setCell ⟨x.p, 0, none⟩ (.bool true)) ?_ ((Chg.refl _ _).alloc _)⟩
    have := HNL.out _ XW
    first | exact this | (simp only [ht] at this; exact this)
  · have htf : x.c.text = false := by simpa using ht
    have hval : x.val = .agg #[ptr x.p, .pointer none] := by simp [PC.val, PC.ptrs, htf]
    rw [hval] at FG
    clear hval
    go_enter Try.func31, Try.ntmps31
    go_wp2_with fail
    refine (FG _ (H.pure ((Chg.refl NoB w).alloc _))).mono ?_
    rintro e w1 ⟨rfl, hb1⟩
    have hB0 := hb1.blk (blk_new w _) id
    have H1 := (H.pure ((Chg.refl NoB w).alloc _)).pure hb1
    have XW := ((Chg.refl NoB w).alloc _).pure hb1
    clear hb1
    have hhd := (H1.cell x hx).head.2 htf
    clear FG
    have R := cells_of hhd
    have l1 := blk_lt hhd
    go_wp2_with fail
    refine (headlock x.p (.bool x.c.locked) _ (by simp [go_sem, l1, R]) (by simp [go_sem, l1, free_of hhd])).mono ?_
    rintro e w2 ⟨rfl, rfl⟩
    go_wp2
    go_ret
    refine ⟨rfl, Next.pure (w' := w1.setCell ⟨x.p, 0, none⟩ (.bool true)) ?_ ((Chg.refl _ _).alloc _)⟩
    have := HNL.out _ XW
    first | exact this | (simp only [htf] at this; exact this)

/-! ### A piece of a list of bytes, as a string -/
theorem loadCells_bytes (P : Program) (w : World) (a : Addr) (bs : List UInt8) (h : ∀ i (hi : i < bs.length), w.cell? (a.add i) = some (vu8 bs[i])) :
    (loadCells a bs.length).run P w = .ok (bs.map vu8).toArray w := by
  have key : ∀ (n i : Nat) (acc : Array Value), i + n = bs.length → (loadCellsFrom a i n acc).run P w = .ok (acc ++ ((bs.drop i).map vu8).toArray) w := by
    intro n
    induction n with
    | zero => intro i acc hi; simp [loadCellsFrom, show bs.drop i = [] from List.drop_eq_nil_of_le (by omega)]
    | succ n ih =>
      intro i acc hi
      have hlt : i < bs.length := by omega
      simp only [loadCellsFrom, Sem.run_bind, run_load, h i hlt, Result.andThen_ok]
      rw [ih (i + 1) _ (by omega), List.drop_eq_getElem_cons hlt]
      refine congrArg (fun x => Result.ok x w) ?_
      apply Array.ext'
      simp only [Array.toList_append, Array.toList_push, List.append_assoc, List.singleton_append, List.map_cons]
  have := key bs.length 0 #[] (by omega)
  simpa [loadCells] using this
theorem forIn_push (P : Program) (w : World) (f : Value → ByteArray → Sem (ForInStep ByteArray)) (hf : ∀ n s, f (.int .u8 n) s = pure (.yield (s.push (UInt8.ofNat n.toNat)))) :
    ∀ (l acc : List UInt8), (forIn (m := Sem) (l.map vu8) (⟨acc.toArray⟩ : ByteArray) f).run P w = .ok ⟨(acc ++ l).toArray⟩ w
  | [], acc => by simp
  | b :: l, acc => by
    simp only [List.map_cons, List.forIn_cons, hf, Sem.run_bind, Sem.run_pure, Result.andThen_ok]
    have e : (⟨acc.toArray⟩ : ByteArray).push (UInt8.ofNat ((b.toNat : Int)).toNat) = ⟨(acc ++ [b]).toArray⟩ := by
      simp [ByteArray.push]
    rw [e, forIn_push P w f hf l (acc ++ [b])]
    simp
theorem bytesToString_run (P : Program) (w : World) (a : Addr) (bs : List UInt8) (c : Nat) (h : ∀ i (hi : i < bs.length), w.cell? (a.add i) = some (vu8 bs[i])) :
    (Conv.bytesToString (.slice (some a) bs.length c)).run P w = .ok (.string ⟨bs.toArray⟩) w := by
  have hl := loadCells_bytes P w a bs h
  simp only [Conv.bytesToString, Sem.run_bind, hl, Result.andThen_ok, List.forIn_toArray]
  have e0 : (ByteArray.empty : ByteArray) = ⟨([] : List UInt8).toArray⟩ := rfl
  rw [e0]
  have hk := fun f hf => forIn_push P w f hf bs []
  simp only [List.nil_append] at hk
  refine (congrArg (fun r => Result.andThen r fun a w' => (Pure.pure (Value.string a) : Sem Value).run P w') (hk _ (fun n s => rfl))).trans ?_
  simp
end Go.Proofs.Ytenlpkkeljhdeaa
