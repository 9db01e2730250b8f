/- Hlk, Hby, Hit, Hbec, Hbw, Lat, Obx, Row, Lkn, Lpl -/
import Derived.Test.YtpgkjgceldleaaaZHeapb
import Derived.Laws.AppendOwnNone
import Derived.Test.YtpgkjgceldleaaaZHeapa
/- Walks: Lock, Bytes. -/
namespace Go.Proofs.Ytpgkjgceldleaaa
open Go.RowKit

def lockH (L : List C) (o : O) : List C × Int :=
  if findE L o ≠ 0 then (L, findE L o) else match L[o.n.toNat]? with
    | none => (L, 0)
    | some c => (L.set o.n.toNat { c with locked := true }, 0)

theorem Next.lock {w w' : World} {hp : Nat} {slv : Value} {L : List PC} (H : HeapRep w ⟨hp, slv, L⟩) (X : Chg NoB w w') {N : Nat} (hN : N < L.length) :
    Next w ⟨hp, slv, L⟩ (w'.setCell ⟨L[N].p, 0, none⟩ (.bool true)) ((L.map PC.c).set N { L[N].c with locked := true }) := by
  have H' := H.pure X
  have hg : L[N].p ∈ L[N].foot := by simp [PC.foot]
  have hc : Chg (· ∈ L[N].foot) w' (w'.setCell ⟨L[N].p, 0, none⟩ (.bool true)) := (Chg.refl _ _).one hg _
  have hin : ∀ b ∈ L[N].foot, b ∈ HS.foot ⟨hp, slv, L⟩ := fun b hb => by simp only [HS.foot, List.mem_cons, List.mem_append, List.mem_flatMap]; exact .inr (.inr ⟨_, List.getElem_mem hN, hb⟩)
  refine ⟨⟨hp, slv, L.set N { L[N] with c := { L[N].c with locked := true } }⟩, rfl, by simp [HS.l], H'.update hN _ hc ?_ rfl rfl rfl (by simp [C.size]),
    (X.mono (fun _ _ e => e.elim)).trans (hc.mono (fun i _ hi => hin i hi)), fun i hb => .inl ?_⟩
  · have hok := H'.cell _ (List.getElem_mem hN)
    have h2 : ∀ b ∈ L[N].sl.ownBlock.toList, b ≠ L[N].p := by
      have := H.apart
      simp only [HS.foot, List.nodup_cons, List.nodup_append] at this
      have h2 := (List.pairwise_flatMap.1 this.2.2.1).1 _ (List.getElem_mem hN)
      simp only [PC.foot, List.pairwise_cons] at h2
      exact fun b hb e => h2.1 b hb e.symm
    have hcp := (Chg.refl (fun b => b = L[N].p) w').one (p := ⟨L[N].p, 0, none⟩) rfl (.bool true)
    unfold PC.ok at hok ⊢
    by_cases ht : L[N].c.text = true
    · simp only [ht, if_true] at hok ⊢
      refine ⟨by have := blk_set hok.1 0 (.bool true); simpa using this, hok.2.1.chg hcp h2, hok.2.2⟩
    · simp only [ht, if_false, Bool.false_eq_true] at hok ⊢
      refine ⟨by have := blk_set hok.1 0 (.bool true); simpa using this, hok.2.1.chg hcp h2, hok.2.2⟩
  · rw [foot_set hp slv L N { L[N] with c := { L[N].c with locked := true } } hN rfl rfl] at hb; exact hb

theorem headlock (p : Nat) (v : Value) (w : World) (hc : w.cell? ⟨p, 0, none⟩ = some v) (hf : w.frozen? ⟨p, 0, none⟩ = false) :
   Calls Try.prog 52 #[.pointer (some ⟨p, 0, none⟩)] w fun e w' => e = .returned (.tuple #[]) ∧ w.setCell ⟨p, 0, none⟩ (.bool true) = w' := by
  go_enter Try.func52, Try.ntmps52
  go_wp2
  go_end0
  exact ⟨rfl, rfl⟩

set_option maxHeartbeats 1000000 in
theorem lock_any (h : HS) (o : O) (w : World) (H : HeapRep w h) :
   Calls Try.prog 28 #[ptr h.hp, o.val] w fun e w' => e = .returned (.int .i64 (lockH h.l o).2) ∧ Next w h w' (lockH h.l o).1 := by
  obtain ⟨hp, slv, L⟩ := h
  obtain ⟨k, ex, N, a, l, s⟩ := o
  by_cases hE : findE (HS.l ⟨hp, slv, L⟩) ⟨k, ex, N, a, l, s⟩ ≠ 0
  · have hs : lockH (HS.l ⟨hp, slv, L⟩) ⟨k, ex, N, a, l, s⟩ = (HS.l ⟨hp, slv, L⟩, findE (HS.l ⟨hp, slv, L⟩) ⟨k, ex, N, a, l, s⟩) := by simp [lockH, hE]
    rw [hs]
    have hb : (findE (HS.l ⟨hp, slv, L⟩) ⟨k, ex, N, a, l, s⟩ != 0) = true := by simpa using hE
    have FB := fun w' (H' : HeapRep w' ⟨hp, slv, L⟩) => find_bad ⟨hp, slv, L⟩ ⟨k, ex, N, a, l, s⟩ w' H' hE
    generalize findE (HS.l ⟨hp, slv, L⟩) ⟨k, ex, N, a, l, s⟩ = fe at *
    go_enter Try.func28, Try.ntmps28
    go_wp2_with fail
    refine (FB _ (H.pure ((Chg.refl NoB w).alloc _))).mono ?_
    rintro e w1 ⟨rfl, hb1⟩
    have hB0 := hb1.blk (blk_new w _) id
    have H1 := (H.pure ((Chg.refl NoB w).alloc _)).pure hb1
    have XW := ((Chg.refl NoB w).alloc _).pure hb1
    clear hb1
    clear FB
    go_wp2
    go_ret
    refine ⟨rfl, Next.same H ?_⟩
    (repeat' (first | with_reducible assumption | with_reducible refine Chg.alloc ?_ _ | with_reducible refine Chg.drew ?_ | with_reducible refine Chg.drewN ?_ _ | with_reducible refine Chg.setCell ?_ (Or.inr ?_) _ | exact Nat.le_refl _ | exact Nat.le_add_right _ _ | (simp; done) | (simp; omega)))
  simp only [ne_eq, Decidable.not_not] at hE
  obtain ⟨hn, hok, hx, hc, -⟩ := findE_good H hE
  have FG := fun w' (H' : HeapRep w' ⟨hp, slv, L⟩) => find_good ⟨hp, slv, L⟩ ⟨k, ex, N, a, l, s⟩ w' H' hE hn
  simp only at FG hn hc hx
  have hs : lockH (HS.l ⟨hp, slv, L⟩) ⟨k, ex, N, a, l, s⟩ = ((L.map PC.c).set N.toNat { L[N.toNat].c with locked := true }, 0) := by
    simp [lockH, hE, hc]
  rw [hs]
  have NL := fun w' (X : Chg NoB w w') => Next.lock H X hn
  clear hs hE hc hok
  generalize lenOf L[N.toNat].c ⟨k, ex, N, a, l, s⟩ = z at *
  generalize L[N.toNat] = x at *
  generalize atOf ⟨k, ex, N, a, l, s⟩ = p at *
  have HNL := Hid.mk' NL
  clear NL
  by_cases ht : x.c.text = true
  · have hval : x.val = .agg #[.pointer none, ptr x.p] := by simp [PC.val, PC.ptrs, ht]
    rw [hval] at FG
    clear hval
    go_enter Try.func28, Try.ntmps28
    go_wp2_with fail
    refine (FG _ (H.pure ((Chg.refl NoB w).alloc _))).mono ?_
    rintro e w1 ⟨rfl, hb1⟩
    have hB0 := hb1.blk (blk_new w _) id
    have H1 := (H.pure ((Chg.refl NoB w).alloc _)).pure hb1
    have XW := ((Chg.refl NoB w).alloc _).pure hb1
    clear hb1
    have hhd := (H1.cell x hx).head.1 ht
    clear FG
    have R := cells_of hhd
    have l1 := blk_lt hhd
    go_wp2_with fail
    refine (headlock x.p (.bool x.c.locked) _ (by simp [go_sem, l1, R]) (by simp [go_sem, l1, free_of hhd])).mono ?_
    rintro e w2 ⟨rfl, rfl⟩
    go_wp2
    go_ret
    refine ⟨rfl, Next.pure (w' := w1.setCell ⟨x.p, 0, none⟩ (.bool true)) ?_ ((Chg.refl _ _).alloc _)⟩
    have := HNL.out _ XW
    first | exact this | (simp only [ht] at this; exact this)
  · have htf : x.c.text = false := by simpa using ht
    have hval : x.val = .agg #[ptr x.p, .pointer none] := by simp [PC.val, PC.ptrs, htf]
    rw [hval] at FG
    clear hval
    go_enter Try.func28, Try.ntmps28
    go_wp2_with fail
    refine (FG _ (H.pure ((Chg.refl NoB w).alloc _))).mono ?_
    rintro e w1 ⟨rfl, hb1⟩
    have hB0 := hb1.blk (blk_new w _) id
    have H1 := (H.pure ((Chg.refl NoB w).alloc _)).pure hb1
    have XW := ((Chg.refl NoB w).alloc _).pure hb1
    clear hb1
    have hhd := (H1.cell x hx).head.2 htf
    clear FG
    have R := cells_of hhd
    have l1 := blk_lt hhd
    go_wp2_with fail
    refine (headlock x.p (.bool x.c.locked) _ (by simp [go_sem, l1, R]) (by simp [go_sem, l1, free_of hhd])).mono ?_
    rintro e w2 ⟨rfl, rfl⟩
    go_wp2
    go_ret
    refine ⟨rfl, Next.pure (w' := w1.setCell ⟨x.p, 0, none⟩ (.bool true)) ?_ ((Chg.refl _ _).alloc _)⟩
    have := HNL.out _ XW
    first | exact this | (simp only [htf] at this; exact this)

/-! ### A piece of a list of bytes, as a string -/
theorem loadCells_bytes (P : Program) (w : World) (a : Addr) (bs : List UInt8) (h : ∀ i (hi : i < bs.length), w.cell? (a.add i) = some (vu8 bs[i])) :
    (loadCells a bs.length).run P w = .ok (bs.map vu8).toArray w := by
  have key : ∀ (n i : Nat) (acc : Array Value), i + n = bs.length → (loadCellsFrom a i n acc).run P w = .ok (acc ++ ((bs.drop i).map vu8).toArray) w := by
    intro n
    induction n with
    | zero => intro i acc hi; simp [loadCellsFrom, show bs.drop i = [] from List.drop_eq_nil_of_le (by omega)]
    | succ n ih =>
      intro i acc hi
      have hlt : i < bs.length := by omega
      simp only [loadCellsFrom, Sem.run_bind, run_load, h i hlt, Result.andThen_ok]
      rw [ih (i + 1) _ (by omega), List.drop_eq_getElem_cons hlt]
      refine congrArg (fun x => Result.ok x w) ?_
      apply Array.ext'
      simp only [Array.toList_append, Array.toList_push, List.append_assoc, List.singleton_append, List.map_cons]
  have := key bs.length 0 #[] (by omega)
  simpa [loadCells] using this
theorem forIn_push (P : Program) (w : World) (f : Value → ByteArray → Sem (ForInStep ByteArray)) (hf : ∀ n s, f (.int .u8 n) s = pure (.yield (s.push (UInt8.ofNat n.toNat)))) :
    ∀ (l acc : List UInt8), (forIn (m := Sem) (l.map vu8) (⟨acc.toArray⟩ : ByteArray) f).run P w = .ok ⟨(acc ++ l).toArray⟩ w
  | [], acc => by simp
  | b :: l, acc => by
    simp only [List.map_cons, List.forIn_cons, hf, Sem.run_bind, Sem.run_pure, Result.andThen_ok]
    have e : (⟨acc.toArray⟩ : ByteArray).push (UInt8.ofNat ((b.toNat : Int)).toNat) = ⟨(acc ++ [b]).toArray⟩ := by
      simp [ByteArray.push]
    rw [e, forIn_push P w f hf l (acc ++ [b])]
    simp
theorem bytesToString_run (P : Program) (w : World) (a : Addr) (bs : List UInt8) (c : Nat) (h : ∀ i (hi : i < bs.length), w.cell? (a.add i) = some (vu8 bs[i])) :
    (Conv.bytesToString (.slice (some a) bs.length c)).run P w = .ok (.string ⟨bs.toArray⟩) w := by
  have hl := loadCells_bytes P w a bs h
  simp only [Conv.bytesToString, Sem.run_bind, hl, Result.andThen_ok, List.forIn_toArray]
  have e0 : (ByteArray.empty : ByteArray) = ⟨([] : List UInt8).toArray⟩ := rfl
  rw [e0]
  have hk := fun f hf => forIn_push P w f hf bs []
  simp only [List.nil_append] at hk
  refine (congrArg (fun r => Result.andThen r fun a w' => (Pure.pure (Value.string a) : Sem Value).run P w') (hk _ (fun n s => rfl))).trans ?_
  simp
end Go.Proofs.Ytpgkjgceldleaaa
/- Walk: Bytes. -/
namespace Go.Proofs.Ytpgkjgceldleaaa
open Go.RowKit

theorem sizeOf_byte (w : World) : (sizeOf 5).run Try.prog w = .ok 1 w := by kernel_rfl
theorem sizeOf_obj (w : World) : (sizeOf 36).run Try.prog w = .ok 6 w := by kernel_rfl
theorem Try.elemBytes : Try.prog.elem 46 = 5 := by kernel_rfl
theorem Try.elemObjs : Try.prog.elem 32 = 36 := by kernel_rfl
theorem add_add (g i j : Nat) : ((⟨g, 0, none⟩ : Addr).add i).add j = ⟨g, i + j, none⟩ := by
  unfold Addr.add; split <;> split <;> simp_all
theorem add_one (g i : Nat) : (⟨g, 0, none⟩ : Addr).add i = ⟨g, i, none⟩ := by
  unfold Addr.add; split <;> simp_all

theorem run_conv_bytes (w : World) (x : Value) (h : ∃ a n c, x = .slice a n c) : (convert 46 9 x).run Try.prog w = (Conv.bytesToString x).run Try.prog w := by
  obtain ⟨a, n, c, rfl⟩ := h
  cases a <;> simp only [convert, Sem.run_bind, run_underlying Try.underStr, run_underlying Try.underBytes, run_underlying Try.underByte, Result.andThen_ok]

/-- A piece of a row of bytes, and the string of it. -/
theorem cut_bytes {w1 : World} {v : Value} {bs : List UInt8} (h : Row w1 5 1 v bs.length (bs.map vu8)) (p z : Int) (hp : 0 ≤ p) (hz : 0 ≤ z) (hpz : p + z ≤ bs.length) :
    ∃ A c', (∀ W, (Instr.slice 46 v (some (.int .i64 p)) (some (.int .i64 (p + z))) none).run Try.prog W = .ok (.slice A z.toNat c') W) ∧
      ∀ W, Chg NoB w1 W → (convert 46 9 (.slice A z.toNat c')).run Try.prog W = .ok (.string ⟨((bs.drop p.toNat).take z.toNat).toArray⟩) W := by
  have hzl : ((bs.drop p.toNat).take z.toNat).length = z.toNat := by simp; omega
  rcases h.2 with ⟨rfl, hn⟩ | ⟨g, cap, cur, fz, rfl, hcur, hfz, hnc, hcm, hcs, htk⟩
  · have hp0 : p = 0 := by omega
    have hz0 : z = 0 := by omega
    subst hp0; subst hz0
    refine ⟨none, 0, fun W => ?_, fun W _ => ?_⟩
    · rw [run_slice_lh (w := W) 46 none 0 0 (by rw [Try.elemBytes]; exact Try.underBytes) .i64 .i64 0 (0 + 0) (by omega) (by omega) (by omega), Try.elemBytes, sizeOf_byte]
      simp [sliced]
    · rw [run_conv_bytes W _ ⟨_, _, _, rfl⟩]
      simp [Conv.bytesToString]; rfl
  · refine ⟨if cap = p.toNat then some ⟨g, 0, none⟩ else some ((⟨g, 0, none⟩ : Addr).add p.toNat), cap - p.toNat, fun W => ?_, fun W hW => ?_⟩
    · rw [run_slice_lh (w := W) 46 (some ⟨g, 0, none⟩) _ cap (by rw [Try.elemBytes]; exact Try.underBytes) .i64 .i64 p (p + z) hp (by omega) (by omega), Try.elemBytes, sizeOf_byte]
      simp only [Result.andThen_ok, sliced, Nat.mul_one, Option.map_some]
      rw [show (p + z).toNat - p.toNat = z.toNat by omega]
    · have hc' := hW.blk hcur id
      have hcell : ∀ i, i < bs.length → W.cell? ⟨g, i, none⟩ = some (vu8 (bs.getD i 0)) := fun i hi => by
        rw [cells_of hc' i, ← Array.getElem?_toList]
        have : cur.toList[i]? = (cur.toList.take (bs.length * 1))[i]? := by rw [List.getElem?_take, if_pos (by omega)]
        rw [this, htk]; simp [hi]
      rw [run_conv_bytes W _ ⟨_, _, _, rfl⟩]
      by_cases hz0 : z = 0
      · subst hz0
        have := fun a => bytesToString_run Try.prog W a [] (cap - p.toNat) (fun i hi => by simp at hi)
        split <;> simpa using this _
      · rw [if_neg (by omega)]
        have := bytesToString_run Try.prog W ((⟨g, 0, none⟩ : Addr).add p.toNat) ((bs.drop p.toNat).take z.toNat) (cap - p.toNat) (fun i hi => by
          rw [add_add, hcell _ (by omega)]
          have : p.toNat + i < bs.length := by omega
          simp [this])
        rw [hzl] at this
        exact this

def bytesH (L : List C) (o : O) : ByteArray × Int :=
  if findE L o ≠ 0 then (⟨#[]⟩, findE L o) else match L[o.n.toNat]? with
    | none => (⟨#[]⟩, 0)
    | some c => if c.text then (⟨((c.bytes.drop (atOf o).toNat).take (lenOf c o).toNat).toArray⟩, 0) else (⟨#[]⟩, 6)

theorem PC.ok.textRow {w : World} {x : PC} (h : x.ok w) (ht : x.c.text = true) : Row w 5 1 x.sl x.c.bytes.length (x.c.bytes.map vu8) := by
  unfold PC.ok at h; simp only [ht, if_true] at h; exact h.2.1
theorem PC.ok.itemRow {w : World} {x : PC} (h : x.ok w) (ht : x.c.text = false) : Row w 36 6 x.sl x.c.items.length (x.c.items.flatMap O.cells) := by
  unfold PC.ok at h; simp only [ht, if_false, Bool.false_eq_true] at h; exact h.2.1

set_option maxHeartbeats 1000000 in
theorem bytes_any (h : HS) (o : O) (w : World) (H : HeapRep w h) :
   Calls Try.prog 74 #[ptr h.hp, o.val] w fun e w' => e = .returned (.tuple #[.string (bytesH h.l o).1, .int .i64 (bytesH h.l o).2]) ∧ Chg NoB w w' := by
  obtain ⟨hp, slv, L⟩ := h
  obtain ⟨k, ex, N, a, l, s⟩ := o
  by_cases hE : findE (HS.l ⟨hp, slv, L⟩) ⟨k, ex, N, a, l, s⟩ ≠ 0
  · have hs : bytesH (HS.l ⟨hp, slv, L⟩) ⟨k, ex, N, a, l, s⟩ = (⟨#[]⟩, findE (HS.l ⟨hp, slv, L⟩) ⟨k, ex, N, a, l, s⟩) := by simp [bytesH, hE]
    rw [hs]
    have hb : (findE (HS.l ⟨hp, slv, L⟩) ⟨k, ex, N, a, l, s⟩ != 0) = true := by simpa using hE
    have FB := fun w' (H' : HeapRep w' ⟨hp, slv, L⟩) => find_bad ⟨hp, slv, L⟩ ⟨k, ex, N, a, l, s⟩ w' H' hE
    generalize findE (HS.l ⟨hp, slv, L⟩) ⟨k, ex, N, a, l, s⟩ = fe at *
    go_enter Try.func74, Try.ntmps74
    go_wp2_with fail
    refine (FB _ (H.pure ((Chg.refl NoB w).alloc _))).mono ?_
    rintro e w1 ⟨rfl, hb1⟩
    have hB0 := hb1.blk (blk_new w _) id
    have H1 := (H.pure ((Chg.refl NoB w).alloc _)).pure hb1
    have XW := ((Chg.refl NoB w).alloc _).pure hb1
    clear hb1
    clear FB
    go_wp2
    go_ret2
    refine ⟨rfl, ?_⟩
    (repeat' (first | with_reducible assumption | with_reducible refine Chg.alloc ?_ _ | with_reducible refine Chg.drew ?_ | with_reducible refine Chg.drewN ?_ _ | with_reducible refine Chg.setCell ?_ (Or.inr ?_) _ | exact Nat.le_refl _ | exact Nat.le_add_right _ _ | (simp; done) | (simp; omega)))
  simp only [ne_eq, Decidable.not_not] at hE
  obtain ⟨hn, hok, hx, hc, hk, hat, hle, hsz, -⟩ := findE_good H hE
  have hsm := cell_small H hx
  have FG := fun w' (H' : HeapRep w' ⟨hp, slv, L⟩) => find_good ⟨hp, slv, L⟩ ⟨k, ex, N, a, l, s⟩ w' H' hE hn
  simp only at FG hn hc hx hat hle hsz hsm
  have hs : bytesH (HS.l ⟨hp, slv, L⟩) ⟨k, ex, N, a, l, s⟩ = (if L[N.toNat].c.text then (⟨((L[N.toNat].c.bytes.drop (atOf ⟨k, ex, N, a, l, s⟩).toNat).take (lenOf L[N.toNat].c ⟨k, ex, N, a, l, s⟩).toNat).toArray⟩, 0) else (⟨#[]⟩, 6)) := by
    simp [bytesH, hE, hc]
  rw [hs]
  clear hs hE hc hok hk
  generalize lenOf L[N.toNat].c ⟨k, ex, N, a, l, s⟩ = z at *
  generalize L[N.toNat] = x at *
  generalize atOf ⟨k, ex, N, a, l, s⟩ = p at *
  by_cases ht : x.c.text = true
  · rw [if_pos ht]
    have hval : x.val = .agg #[.pointer none, ptr x.p] := by simp [PC.val, PC.ptrs, ht]
    rw [hval] at FG
    clear hval
    have hA : IntKind.i64.wrap (p + z) = p + z := IntWalk.i64_in _ (by omega)
    have hsz2 : p + z ≤ (x.c.bytes.length : Int) := by simpa [C.size, ht] using hsz
    obtain ⟨b, hb⟩ : ∃ b : ByteArray, b = ⟨((x.c.bytes.drop p.toNat).take z.toNat).toArray⟩ := ⟨_, rfl⟩
    rw [← hb]
    go_enter Try.func74, Try.ntmps74
    go_wp2_with fail
    refine (FG _ (H.pure ((Chg.refl NoB w).alloc _))).mono ?_
    rintro e w1 ⟨rfl, hb1⟩
    have hB0 := hb1.blk (blk_new w _) id
    have H1 := (H.pure ((Chg.refl NoB w).alloc _)).pure hb1
    have XW := ((Chg.refl NoB w).alloc _).pure hb1
    clear hb1
    have hok1 := H1.cell x hx
    have hhd := hok1.head.1 ht
    obtain ⟨A, c', e1, e2⟩ := cut_bytes (hok1.textRow ht) p z hat hle hsz2
    rw [← hb] at e2
    clear FG hb
    have Rx := Chg.cells (S := NoB) hhd id
    have lx := blk_lt hhd
    have X := Chg.refl NoB w1
    go_wp2
    go_ret2
    refine ⟨rfl, ?_⟩
    (repeat' (first | with_reducible assumption | with_reducible refine Chg.alloc ?_ _ | with_reducible refine Chg.drew ?_ | with_reducible refine Chg.drewN ?_ _ | with_reducible refine Chg.setCell ?_ (Or.inr ?_) _ | exact Nat.le_refl _ | exact Nat.le_add_right _ _ | (simp; done) | (simp; omega)))
  · have htf : x.c.text = false := by simpa using ht
    rw [if_neg ht]
    have hval : x.val = .agg #[ptr x.p, .pointer none] := by simp [PC.val, PC.ptrs, htf]
    rw [hval] at FG
    clear hval
    go_enter Try.func74, Try.ntmps74
    go_wp2_with fail
    refine (FG _ (H.pure ((Chg.refl NoB w).alloc _))).mono ?_
    rintro e w1 ⟨rfl, hb1⟩
    have hB0 := hb1.blk (blk_new w _) id
    have H1 := (H.pure ((Chg.refl NoB w).alloc _)).pure hb1
    have XW := ((Chg.refl NoB w).alloc _).pure hb1
    clear hb1
    clear FG
    go_wp2
    go_ret2
    refine ⟨rfl, ?_⟩
    (repeat' (first | with_reducible assumption | with_reducible refine Chg.alloc ?_ _ | with_reducible refine Chg.drew ?_ | with_reducible refine Chg.drewN ?_ _ | with_reducible refine Chg.setCell ?_ (Or.inr ?_) _ | exact Nat.le_refl _ | exact Nat.le_add_right _ _ | (simp; done) | (simp; omega)))
end Go.Proofs.Ytpgkjgceldleaaa
/- Walk: Items. -/
namespace Go.Proofs.Ytpgkjgceldleaaa
open Go.RowKit

theorem flat_drop_take (L : List O) (p z : Nat) : ((L.drop p).take z).flatMap O.cells = ((L.flatMap O.cells).drop (p * 6)).take (z * 6) := by
  have hd : ∀ (L : List O) (p : Nat), (L.drop p).flatMap O.cells = (L.flatMap O.cells).drop (p * 6) := by
    intro L
    induction L with
    | nil => intro p; simp
    | cons x L ih =>
      intro p
      cases p with
      | zero => simp
      | succ p =>
        rw [List.drop_succ_cons, ih, List.flatMap_cons, List.drop_append, show O.cells x = O.cells x from rfl]
        rw [@List.drop_eq_nil_of_le _ (O.cells x) _ (by rw [cells_length]; omega), List.nil_append, cells_length]
        congr 1; omega
  have ht : ∀ (L : List O) (z : Nat), (L.take z).flatMap O.cells = (L.flatMap O.cells).take (z * 6) := by
    intro L
    induction L with
    | nil => intro z; simp
    | cons x L ih =>
      intro z
      cases z with
      | zero => simp
      | succ z =>
        rw [List.take_succ_cons, List.flatMap_cons, ih, List.flatMap_cons, List.take_append]
        rw [List.take_of_length_le (l := O.cells x) (by rw [cells_length]; omega), cells_length]
        congr 2; omega
  rw [ht, hd]

/-- A piece of a row of objects. -/
theorem cut_items {w1 : World} {v : Value} {L : List O} (h : Row w1 36 6 v L.length (L.flatMap O.cells)) (p z : Int) (hp : 0 ≤ p) (hz : 0 ≤ z) (hpz : p + z ≤ L.length) :
    ∃ A c', (∀ W, (Instr.slice 32 v (some (.int .i64 p)) (some (.int .i64 (p + z))) none).run Try.prog W = .ok (.slice A z.toNat c') W) ∧
      ((A = none ∧ z = 0 ∧ c' = 0 ∧ p = 0) ∨ ∃ ad, A = some ad ∧ ∀ W, Chg NoB w1 W → ∀ j u, (((L.drop p.toNat).take z.toNat).flatMap O.cells)[j]? = some u → W.cell? (ad.add j) = some u) := by
  rcases h.2 with ⟨rfl, hn⟩ | ⟨g, cap, cur, fz, rfl, hcur, hfz, hnc, hcm, hcs, htk⟩
  · have hp0 : p = 0 := by omega
    have hz0 : z = 0 := by omega
    subst hp0; subst hz0
    refine ⟨none, 0, fun W => ?_, .inl ⟨rfl, rfl, rfl, rfl⟩⟩
    rw [run_slice_lh (w := W) 32 none 0 0 (by rw [Try.elemObjs]; exact Try.underObjs) .i64 .i64 0 (0 + 0) (by omega) (by omega) (by omega), Try.elemObjs, sizeOf_obj]
    simp [sliced]
  · refine ⟨if cap = p.toNat then some ⟨g, 0, none⟩ else some ((⟨g, 0, none⟩ : Addr).add (p.toNat * 6)), cap - p.toNat, fun W => ?_, .inr ⟨if cap = p.toNat then ⟨g, 0, none⟩ else (⟨g, 0, none⟩ : Addr).add (p.toNat * 6), by split <;> rfl, fun W hW j u hj => ?_⟩⟩
    · rw [run_slice_lh (w := W) 32 (some ⟨g, 0, none⟩) _ cap (by rw [Try.elemObjs]; exact Try.underObjs) .i64 .i64 p (p + z) hp (by omega) (by omega), Try.elemObjs, sizeOf_obj]
      simp only [Result.andThen_ok, sliced, Option.map_some]
      rw [show (p + z).toNat - p.toNat = z.toNat by omega]
    · have hc' := hW.blk hcur id
      rw [flat_drop_take, List.getElem?_take] at hj
      split at hj
      · rename_i hjz
        rw [List.getElem?_drop] at hj
        have hlt : p.toNat * 6 + j < L.length * 6 := by omega
        rw [if_neg (by omega), add_add, cells_of hc', ← Array.getElem?_toList]
        have : cur.toList[p.toNat * 6 + j]? = (cur.toList.take (L.length * 6))[p.toNat * 6 + j]? := by rw [List.getElem?_take, if_pos hlt]
        rw [this, htk]; exact hj
      · simp at hj

theorem cells_one (o : O) : ∀ u ∈ o.cells, u.oneCell' = true := by
  intro u hu; simp only [O.cells, List.mem_cons, List.not_mem_nil, or_false] at hu
  rcases hu with rfl | rfl | rfl | rfl | rfl | rfl <;> rfl
theorem flat_one (L : List O) : ∀ u ∈ L.flatMap O.cells, u.oneCell' = true := by
  intro u hu
  obtain ⟨o, _, ho⟩ := List.mem_flatMap.1 hu
  exact cells_one o u ho

def itemsH (L : List C) (o : O) : List O × Int :=
  if findE L o ≠ 0 then ([], findE L o) else match L[o.n.toNat]? with
    | none => ([], 0)
    | some c => if c.text then ([], 6) else ((c.items.drop (atOf o).toNat).take (lenOf c o).toNat, 0)

set_option maxRecDepth 100000 in
set_option maxHeartbeats 1000000 in
theorem items_any (h : HS) (o : O) (w : World) (H : HeapRep w h) :
   Calls Try.prog 48 #[ptr h.hp, o.val] w fun e w' => ∃ v, e = .returned (.tuple #[v, .int .i64 (itemsH h.l o).2]) ∧ Chg NoB w w' ∧
     w'.ownsRow w.heap.size 36 6 v (itemsH h.l o).1.length ((itemsH h.l o).1.flatMap O.cells) := by
  obtain ⟨hp, slv, L⟩ := h
  obtain ⟨k, ex, N, a, l, s⟩ := o
  by_cases hE : findE (HS.l ⟨hp, slv, L⟩) ⟨k, ex, N, a, l, s⟩ ≠ 0
  · have hs : itemsH (HS.l ⟨hp, slv, L⟩) ⟨k, ex, N, a, l, s⟩ = ([], findE (HS.l ⟨hp, slv, L⟩) ⟨k, ex, N, a, l, s⟩) := by simp [itemsH, hE]
    rw [hs]
    have hb : (findE (HS.l ⟨hp, slv, L⟩) ⟨k, ex, N, a, l, s⟩ != 0) = true := by simpa using hE
    have FB := fun w' (H' : HeapRep w' ⟨hp, slv, L⟩) => find_bad ⟨hp, slv, L⟩ ⟨k, ex, N, a, l, s⟩ w' H' hE
    generalize findE (HS.l ⟨hp, slv, L⟩) ⟨k, ex, N, a, l, s⟩ = fe at *
    go_enter Try.func48, Try.ntmps48
    go_wp2_with fail
    refine (FB _ (H.pure ((Chg.refl NoB w).alloc _))).mono ?_
    rintro e w1 ⟨rfl, hb1⟩
    have hB0 := hb1.blk (blk_new w _) id
    have H1 := (H.pure ((Chg.refl NoB w).alloc _)).pure hb1
    have XW := ((Chg.refl NoB w).alloc _).pure hb1
    clear hb1
    clear FB
    go_wp2
    go_ret2
    refine ⟨_, rfl, ?_, World.ownsRow_nil _ _ _ _⟩
    (repeat' (first | with_reducible assumption | with_reducible refine Chg.alloc ?_ _ | with_reducible refine Chg.drew ?_ | with_reducible refine Chg.drewN ?_ _ | with_reducible refine Chg.setCell ?_ (Or.inr ?_) _ | exact Nat.le_refl _ | exact Nat.le_add_right _ _ | (simp; done) | (simp; omega)))
  simp only [ne_eq, Decidable.not_not] at hE
  obtain ⟨hn, hok, hx, hc, hk, hat, hle, hsz, -⟩ := findE_good H hE
  have hsm := cell_small H hx
  have FG := fun w' (H' : HeapRep w' ⟨hp, slv, L⟩) => find_good ⟨hp, slv, L⟩ ⟨k, ex, N, a, l, s⟩ w' H' hE hn
  simp only at FG hn hc hx hat hle hsz hsm
  have hs : itemsH (HS.l ⟨hp, slv, L⟩) ⟨k, ex, N, a, l, s⟩ = (if L[N.toNat].c.text then ([], 6) else ((L[N.toNat].c.items.drop (atOf ⟨k, ex, N, a, l, s⟩).toNat).take (lenOf L[N.toNat].c ⟨k, ex, N, a, l, s⟩).toNat, 0)) := by
    simp [itemsH, hE, hc]
  rw [hs]
  clear hs hE hc hok hk
  generalize lenOf L[N.toNat].c ⟨k, ex, N, a, l, s⟩ = z at *
  generalize L[N.toNat] = x at *
  generalize atOf ⟨k, ex, N, a, l, s⟩ = p at *
  by_cases ht : x.c.text = true
  · rw [if_pos ht]
    have hval : x.val = .agg #[.pointer none, ptr x.p] := by simp [PC.val, PC.ptrs, ht]
    rw [hval] at FG
    clear hval
    go_enter Try.func48, Try.ntmps48
    go_wp2_with fail
    refine (FG _ (H.pure ((Chg.refl NoB w).alloc _))).mono ?_
    rintro e w1 ⟨rfl, hb1⟩
    have hB0 := hb1.blk (blk_new w _) id
    have H1 := (H.pure ((Chg.refl NoB w).alloc _)).pure hb1
    have XW := ((Chg.refl NoB w).alloc _).pure hb1
    clear hb1
    clear FG
    go_wp2
    go_ret2
    refine ⟨_, rfl, ?_, World.ownsRow_nil _ _ _ _⟩
    (repeat' (first | with_reducible assumption | with_reducible refine Chg.alloc ?_ _ | with_reducible refine Chg.drew ?_ | with_reducible refine Chg.drewN ?_ _ | with_reducible refine Chg.setCell ?_ (Or.inr ?_) _ | exact Nat.le_refl _ | exact Nat.le_add_right _ _ | (simp; done) | (simp; omega)))
  · have htf : x.c.text = false := by simpa using ht
    rw [if_neg ht]
    have hval : x.val = .agg #[ptr x.p, .pointer none] := by simp [PC.val, PC.ptrs, htf]
    rw [hval] at FG
    clear hval
    have hA : IntKind.i64.wrap (p + z) = p + z := IntWalk.i64_in _ (by omega)
    have hsz2 : p + z ≤ (x.c.items.length : Int) := by simpa [C.size, htf] using hsz
    obtain ⟨b, hb⟩ : ∃ b : List O, b = (x.c.items.drop p.toNat).take z.toNat := ⟨_, rfl⟩
    have hbl : b.length = z.toNat := by rw [hb]; simp; omega
    rw [← hb]
    go_enter Try.func48, Try.ntmps48
    go_wp2_with fail
    refine (FG _ (H.pure ((Chg.refl NoB w).alloc _))).mono ?_
    rintro e w1 ⟨rfl, hb1⟩
    have hB0 := hb1.blk (blk_new w _) id
    have H1 := (H.pure ((Chg.refl NoB w).alloc _)).pure hb1
    have XW := ((Chg.refl NoB w).alloc _).pure hb1
    clear hb1
    have hok1 := H1.cell x hx
    have hhd := hok1.head.2 htf
    obtain ⟨A, c', e1, e2⟩ := cut_items (hok1.itemRow htf) p z hat hle hsz2
    rw [← hb] at e2
    have HBL := Hid.mk' hbl
    clear FG hb hbl
    have Rx := Chg.cells (S := NoB) hhd id
    have lx := blk_lt hhd
    have X := Chg.refl NoB w1
    obtain ⟨i0, hi, hz0, hz1, hz2⟩ := info_parts Try.infoObj
    have wsz : w.heap.size ≤ w1.heap.size := XW.size
    rcases e2 with ⟨rfl, rfl, rfl, rfl⟩ | ⟨ad, rfl, hnews⟩
    · simp only [Int.add_zero, Int.toNat_zero] at e1 hA
      go_wp2_with (at_builtin; refine wpList_append_own_none rfl _ _ 32 rfl w.heap.size 36 i0 6 Try.underObjs hi (.slice none 0 0) 0 [] rfl (World.ownsRow_nil _ _ _ _) rfl ?_)
      go_ret2
      refine ⟨_, rfl, ?_, ?_⟩
      · (repeat' (first | with_reducible assumption | with_reducible refine Chg.alloc ?_ _ | with_reducible refine Chg.drew ?_ | with_reducible refine Chg.drewN ?_ _ | with_reducible refine Chg.setCell ?_ (Or.inr ?_) _ | exact Nat.le_refl _ | exact Nat.le_add_right _ _ | (simp; done) | (simp; omega)))
      · have : b = [] := List.eq_nil_of_length_eq_zero (by rw [HBL.out]; rfl)
        subst this
        exact World.ownsRow_nil _ _ _ _
    · have HN := Hid.mk' hnews
      clear hnews
      go_wp2_with (at_builtin; refine wpList_append_own _ rfl _ _ 32 rfl w.heap.size 36 i0 O.nil.val 6 56 Try.underObjs hi hz0 hz1 hz2 rfl (by decide) (.slice none 0 0) 0 [] rfl (World.ownsRow_nil _ _ _ _) ad z.toNat c' (b.flatMap O.cells) rfl (by rw [flat_length O.cells 6 cells_length, HBL.out]) (fun j u hj => HN.out _ (X.alloc _) j u hj) (flat_one b) ?_ ?_ ?_ ?_; (unfold maxLen; omega); omega; (simp; omega); intro v' w2 hown hgr _)
      have XG : Chg NoB w w2 := Chg.grown (XW.alloc _) hgr (fun k hk => by simp [Value.ownBlock] at hk)
      go_ret2
      refine ⟨_, rfl, XG, ?_⟩
      rw [HBL.out]
      simpa using hown
end Go.Proofs.Ytpgkjgceldleaaa
/- Become: plain facts. -/
namespace Go.Proofs.Ytpgkjgceldleaaa
open Go.RowKit

theorem owns_base {w : World} {B B' : Nat} {T : TypeId} {size : Nat} {v : Value} {n : Nat} {xs : List Value} (h : w.ownsRow B T size v n xs) (hB : B' ≤ B) : w.ownsRow B' T size v n xs := by
  refine ⟨h.1, ?_⟩
  rcases h.2 with hn | ⟨g, cap, cur, h1, h2, rest⟩
  · exact .inl hn
  · exact .inr ⟨g, cap, cur, h1, Nat.le_trans hB h2, rest⟩
theorem owns_chgB {w w' : World} {S : Nat → Prop} {B : Nat} {T : TypeId} {size : Nat} {v : Value} {n : Nat} {xs : List Value} (h : w.ownsRow B T size v n xs) (hc : Chg S w w') (hS : ∀ b ∈ v.ownBlock.toList, ¬ S b) : w'.ownsRow B T size v n xs := by
  refine ⟨h.1, ?_⟩
  rcases h.2 with hn | ⟨g, cap, cur, rfl, h1, h2, rest⟩
  · exact .inl hn
  · exact .inr ⟨g, cap, cur, rfl, h1, hc.blk h2 (hS g (by simp [Value.ownBlock])), rest⟩
theorem owns_ge {w : World} {B : Nat} {T : TypeId} {size : Nat} {v : Value} {n : Nat} {xs : List Value} (h : w.ownsRow B T size v n xs) : ∀ b ∈ v.ownBlock.toList, B ≤ b ∧ b < w.heap.size := by
  intro b hb
  have := h.lt b (by simpa using hb)
  exact this

/-- After k rounds of Become: v owns the new cells M. -/
def BecInv (w : World) (G : List C) (k : Nat) (v : Value) (wr : World) : Prop :=
  ∃ M : List PC, M.map PC.c = G.take k ∧ M.length = k ∧ wr.ownsRow w.heap.size 96 2 v k (M.flatMap PC.ptrs) ∧ (∀ x ∈ M, x.ok wr) ∧
    (v.ownBlock.toList ++ M.flatMap PC.foot).Nodup ∧ (∀ b ∈ M.flatMap PC.foot, w.heap.size ≤ b) ∧ Chg NoB w wr

theorem BecInv.start (w : World) (G : List C) : BecInv w G 0 (.slice none 0 0) w :=
  ⟨[], by simp, rfl, World.ownsRow_nil _ _ _ _, by simp, by simp [Value.ownBlock], by simp, Chg.refl _ _⟩

theorem BecInv.step {w wr w' : World} {G : List C} {k : Nat} {v v' : Value} {M : List PC} {x : PC}
    (h1 : M.map PC.c = G.take k) (h2 : M.length = k) (hk : k < G.length) (h3 : wr.ownsRow w.heap.size 96 2 v k (M.flatMap PC.ptrs)) (h4 : ∀ x ∈ M, x.ok wr)
    (h5 : (v.ownBlock.toList ++ M.flatMap PC.foot).Nodup) (h6 : ∀ b ∈ M.flatMap PC.foot, w.heap.size ≤ b) (h7 : Chg NoB w wr)
    (c : Chg (· ∈ v.ownBlock.toList) wr w') (hx : x.ok w') (hxc : x.c = G[k]) (hxf : ∀ b ∈ x.foot, wr.heap.size ≤ b) (hxn : x.foot.Nodup)
    (hown : w'.ownsRow w.heap.size 96 2 v' (k + 1) (M.flatMap PC.ptrs ++ x.ptrs)) (hv : v'.ownBlock = v.ownBlock ∨ ∃ n, v'.ownBlock = some n ∧ wr.heap.size ≤ n ∧ n ∉ x.foot) : BecInv w G (k + 1) v' w' := by
  have hlt : ∀ y ∈ M, ∀ b ∈ y.foot, b < wr.heap.size := fun y hy b hb => (h4 y hy).lt b hb
  have hvl := owns_ge h3
  simp only [List.nodup_append, List.mem_flatMap] at h5
  obtain ⟨n1, n2, n3⟩ := h5
  refine ⟨M ++ [x], ?_, by simp [h2], by simpa using hown, ?_, ?_, ?_, (h7.trans' c (fun i hi e => by have := (hvl i e).1; omega))⟩
  · rw [List.map_append, h1, List.take_add_one, List.getElem?_eq_getElem hk, ← hxc]; rfl
  · intro y hy
    rcases List.mem_append.1 hy with hy | hy
    · exact (h4 y hy).chg c (fun b hb e => n3 b e b ⟨y, hy, hb⟩ rfl)
    · simp only [List.mem_singleton] at hy; subst hy; exact hx
  · simp only [List.flatMap_append, List.flatMap_cons, List.flatMap_nil, List.append_nil, List.nodup_append, List.mem_append, List.mem_flatMap]
    refine ⟨?_, ⟨n2, hxn, ?_⟩, ?_⟩
    · rcases hv with hv | ⟨n, hv, _⟩
      · rw [hv]; exact n1
      · rw [hv]; simp
    · rintro b ⟨y, hy, hb⟩ b' hb' rfl
      have := hlt y hy b hb; have := hxf b hb'; omega
    · rintro b hb b' hb' rfl
      rcases hv with hv | ⟨n, hv, hn1, hn2⟩
      · rw [hv] at hb
        rcases hb' with ⟨y, hy, hb'⟩ | hb'
        · exact n3 b hb b ⟨y, hy, hb'⟩ rfl
        · have := (hvl b hb).2; have := hxf b hb'; omega
      · rw [hv] at hb
        simp only [Option.toList, List.mem_singleton] at hb
        subst hb
        rcases hb' with ⟨y, hy, hb'⟩ | hb'
        · have := hlt y hy b hb'; omega
        · exact hn2 hb'
  · intro b hb
    simp only [List.flatMap_append, List.flatMap_cons, List.flatMap_nil, List.append_nil, List.mem_append] at hb
    rcases hb with hb | hb
    · exact h6 b hb
    · have := hxf b hb; have := h7.size; omega
end Go.Proofs.Ytpgkjgceldleaaa
/- Walk: Become, Copy. -/
namespace Go.Proofs.Ytpgkjgceldleaaa
open Go.RowKit

theorem Try.infoByte : (Try.prog.info? 5).map (fun i => (i.zero, i.size, i.bytes)) = some (some (.int .u8 0), 1, 1) := by kernel_rfl
theorem vu8_one (l : List UInt8) : ∀ u ∈ l.map vu8, u.oneCell' = true := by
  intro u hu
  obtain ⟨b, _, rfl⟩ := List.mem_map.1 hu
  rfl
theorem cells_newS (w : World) (a : Addr) (v : Value) (cs : List Value) (t : TypeId) : ∀ j u, cs[j]? = some u → ((w.setCell a v).alloc (.cells cs.toArray t)).cell? ((⟨w.heap.size, 0, none⟩ : Addr).add j) = some u := by
  have := cells_new (w.setCell a v) cs t
  rw [World.size_setCell] at this
  exact this
theorem cells_new2 (w : World) (o o' : Obj) (cs : List Value) (t : TypeId) : ∀ j u, cs[j]? = some u → (((w.alloc o).alloc o').alloc (.cells cs.toArray t)).cell? ((⟨w.heap.size + 1 + 1, 0, none⟩ : Addr).add j) = some u := by
  have := cells_new ((w.alloc o).alloc o') cs t
  simpa using this
theorem Row.of_nil {w w' : World} {T : TypeId} {size n : Nat} {xs : List Value} (h : Row w T size (.slice none 0 0) n xs) : Row w' T size (.slice none 0 0) n xs := by
  refine ⟨h.1, ?_⟩
  rcases h.2 with h | ⟨g, cap, cur, fz, e, _⟩
  · exact .inl h
  · simp at e
/-- What a slice's source holds, at every world to come. -/
theorem Row.src {w1 : World} {T : TypeId} {size : Nat} {v : Value} {n : Nat} {xs : List Value} (h : Row w1 T size v n xs) :
    (v = .slice none 0 0 ∧ n = 0) ∨ ∃ ad cap, v = .slice (some ad) n cap ∧ ∀ W, Chg NoB w1 W → ∀ j u, xs[j]? = some u → W.cell? (ad.add j) = some u := by
  rcases h.2 with ⟨rfl, hn⟩ | ⟨g, cap, cur, fz, rfl, hcur, hfz, hnc, hcm, hcs, htk⟩
  · exact .inl ⟨rfl, hn⟩
  · refine .inr ⟨_, _, rfl, fun W hW j u hj => ?_⟩
    have hlt : j < n * size := by rw [← h.1]; exact (List.getElem?_eq_some_iff.1 hj).1
    rw [add_one, cells_of (hW.blk hcur id), ← Array.getElem?_toList]
    have : cur.toList[j]? = (cur.toList.take (n * size))[j]? := by rw [List.getElem?_take, if_pos hlt]
    rw [this, htk]; exact hj

set_option maxRecDepth 100000 in
set_option maxHeartbeats 4000000 in
theorem become_any (hp : Nat) (g : HS) (w : World) (H : HeapRep w g) (x0 x1 : Value) (hh : w.heap[hp]? = some (.cells #[x0, x1] 61 (0, 0))) (hhg : hp ∉ g.foot) :
   Calls Try.prog 26 #[ptr hp, ptr g.hp] w fun e w' => e = .returned (.tuple #[]) ∧
     ∃ h' : HS, h'.hp = hp ∧ h'.l = g.l ∧ HeapRep w' h' ∧ HeapRep w' g ∧ Chg (· = hp) w w' ∧ ∀ b ∈ h'.foot, b = hp ∨ w.heap.size ≤ b := by
  obtain ⟨gp, slv, L⟩ := g
  obtain ⟨sa, cap, rfl, -⟩ := H.shape
  have hgl := blk_lt H.head
  have hhl := blk_lt hh
  have hm := H.most
  simp only at hm
  have R0 := cells_of H.head
  go_enter Try.func26, Try.ntmps26
  go_wp2
  go_loopw [4, 20] (fun v i wr => ∃ k : Nat, k ≤ L.length ∧ i = .int .i64 k ∧ BecInv w (L.map PC.c) k v wr) (fun _ i _ => L.length - (intOf i).toNat)
  case atStart => exact ⟨0, Nat.zero_le _, rfl, BecInv.start _ _⟩
  case round =>
    obtain ⟨k, hk, rfl, hB⟩ := hrel
    obtain ⟨M, m1, m2, m3, m4, m5, m6, X⟩ := hB
    have G1 := H.pure X
    clear R0
    by_cases hlt : k < L.length
    · obtain ⟨gb, cap', cur, fz, u, v', hsl, hcur, hu, hv, huv, hgb⟩ := G1.at' hlt
      simp only [Value.slice.injEq] at hsl
      obtain ⟨rfl, -, rfl⟩ := hsl
      have hok := G1.cell _ (List.getElem_mem hlt)
      have hGk : (L.map PC.c)[k]? = some L[k].c := by simp [hlt]
      have hkG : k < (L.map PC.c).length := by simpa using hlt
      have hGk' : L[k].c = (L.map PC.c)[k] := by simp
      have ST := Hid.mk' (fun (w' : World) (v' : Value) (x : PC) => BecInv.step (w' := w') (v' := v') (x := x) m1 m2 hkG m3 m4 m5 m6 X)
      have HG := Hid.mk' hGk'
      have hvl := owns_ge m3
      have hsm := cell_small G1 (List.getElem_mem hlt)
      have HM := Hid.mk' m3
      have wsz := X.size
      clear hGk hGk' m1 m3 m4 m5 m6
      have HU := Hid.mk' huv
      clear huv
      generalize hxe : L[k] = x at *
      clear hxe
      have Rg := Chg.cells (S := NoB) hcur id
      have lg := blk_lt hcur
      have X := Chg.refl NoB wr
      by_cases ht : x.c.text = true
      · have hp2 := HU.out
        simp only [PC.ptrs, ht, if_true, List.cons.injEq, Value.pointer.injEq] at hp2
        obtain ⟨rfl, rfl, -⟩ := hp2
        have hhd := hok.head.1 ht
        have hrow := hok.textRow ht
        have Rx := Chg.cells (S := NoB) hhd id
        have lx := blk_lt hhd
        have hsm2 : x.c.bytes.length ≤ 40000 := by simpa [C.size, ht] using hsm
        rcases hrow.src with ⟨hsl, hn0⟩ | ⟨ad, c1, hsl, hsrc⟩
        · rw [hsl] at hhd Rx
          have HSL := Hid.mk' hsl
          have HN0 := Hid.mk' hn0
          clear hsl hn0
          obtain ⟨i5, hi5, hz50, hz51, hz52⟩ := info_parts Try.infoByte
          obtain ⟨i0, hi, hz0, hz1, hz2⟩ := info_parts Try.infoCell
          go_wp2_with (first
            | (at_builtin; refine wpList_append_own_none rfl (.const (.slice none 0 0)) (.tmp 32) 46 rfl wr.heap.size 5 i5 1 Try.underBytes hi5 (.slice none 0 0) 0 [] rfl (World.ownsRow_nil _ _ _ _) rfl ?_)
            | (at_builtin; refine wpList_append_own_at _ rfl (.tmp 35) (.tmp 37) 59 rfl w.heap.size 96 i0 (.agg #[.pointer none, .pointer none]) 2 16 Try.underCells hi hz0 hz1 hz2 rfl (by decide) u4 k (M.flatMap PC.ptrs) rfl (owns_chgB HM.out (((X.alloc _).alloc _).alloc _) (fun _ _ e => e)) _ 1 1 [.pointer none, ptr (wr.heap.size + 1)] rfl rfl (fun j u hj => cells_new2 _ _ _ [.pointer none, ptr (wr.heap.size + 1)] 96 j u hj) (one2 _ _) ?_ ?_ ?_ ?_; (unfold maxLen; omega); omega; (simp <;> omega); intro v5 w5 hown5 hgr5 _ hob5))
          have C5a : Chg (· ∈ u4.ownBlock.toList) (((wr.alloc (.cells #[.pointer none, ptr x.p] 96)).alloc (.cells #[.bool x.c.locked, .slice none 0 0] 100)).alloc (.cells #[.pointer none, ptr (wr.heap.size + 1)] 96)) w5 := Chg.grown (Chg.refl _ _) hgr5 (fun n hn => .inl (by simp [hn]))
          have C5 : Chg (· ∈ u4.ownBlock.toList) wr w5 := ((((Chg.refl _ wr).alloc _).alloc _).alloc _).trans C5a
          have hq5 := C5a.blk (blk_alloc (blk_new1 wr _ _) _) (fun hb => by have := (hvl _ hb).2; omega)
          have HX : PC.ok w5 ⟨wr.heap.size + 1, .slice none 0 0, x.c⟩ := by
            unfold PC.ok
            simp only [ht, if_true]
            have hok2 := hok
            unfold PC.ok at hok2
            simp only [ht, if_true] at hok2
            refine ⟨hq5, ?_, hok2.2.2⟩
            have hr := hok2.2.1
            rw [HSL.out] at hr
            exact hr.of_nil
          go_roundw
          case rel =>
            refine ⟨k + 1, by omega, by go_num, ST.out w5 v5 ⟨wr.heap.size + 1, .slice none 0 0, x.c⟩ C5 HX HG.out ?_ ?_ ?_ ?_⟩
            · intro b hb
              simp only [PC.foot, Value.ownBlock, Option.toList, List.mem_cons, List.not_mem_nil, or_false] at hb
              omega
            · simp [PC.foot, Value.ownBlock]
            · have e : PC.ptrs ⟨wr.heap.size + 1, .slice none 0 0, x.c⟩ = [.pointer none, ptr (wr.heap.size + 1)] := by simp [PC.ptrs, ht]
              rw [e]; exact hown5
            · rcases hob5 with h | h
              · exact .inl h
              · refine .inr ⟨_, h, by simp; omega, fun hb => ?_⟩
                simp only [PC.foot, Value.ownBlock, Option.toList, List.mem_cons, List.not_mem_nil, or_false, World.size_alloc] at hb
                omega
          case measure => simp [intOf]; omega
        · rw [hsl] at hhd Rx
          have HS1 := Hid.mk' hsrc
          clear hsrc hsl
          obtain ⟨i5, hi5, hz50, hz51, hz52⟩ := info_parts Try.infoByte
          obtain ⟨i0, hi, hz0, hz1, hz2⟩ := info_parts Try.infoCell
          go_wp2_with (first
            | (at_builtin; refine wpList_append_own_at _ rfl (.const (.slice none 0 0)) (.tmp 32) 46 rfl wr.heap.size 5 i5 (.int .u8 0) 1 1 Try.underBytes hi5 hz50 hz51 hz52 rfl (by decide) (.slice none 0 0) 0 [] rfl (World.ownsRow_nil _ _ _ _) ad x.c.bytes.length c1 (x.c.bytes.map vu8) rfl (by simp) (fun j u hj => HS1.out _ ((X.alloc _).alloc _) j u hj) (vu8_one _) ?_ ?_ ?_ ?_; (unfold maxLen; omega); omega; (simp; omega); intro v2 w3 hown2 hgr2 _ hob2; have C3 : Chg NoB wr w3 := Chg.grown ((X.alloc _).alloc _) hgr2 (fun k hk => by simp [Value.ownBlock] at hk); have hq7 := (Chg.grown (Chg.refl NoB _) hgr2 (fun k hk => by simp [Value.ownBlock] at hk)).blk (blk_new1 wr _ _) id; obtain ⟨a2, cap2, rfl, _⟩ := (Row.of_owns (owns_base hown2 (Nat.zero_le _))).shape; have R7 := cells_of hq7; have Z7 := free_of hq7; have l7 := blk_lt hq7; have HW2 := Hid.mk' hown2; have HB2 := Hid.mk' hob2; clear hown2 hob2)
            | (at_builtin; refine wpList_append_own_at _ rfl (.tmp 35) (.tmp 37) 59 rfl w.heap.size 96 i0 (.agg #[.pointer none, .pointer none]) 2 16 Try.underCells hi hz0 hz1 hz2 rfl (by decide) u4 k (M.flatMap PC.ptrs) rfl (owns_chgB HM.out (Chg.alloc (Chg.setCell C3 (.inr (Nat.le_add_right _ _)) _) _) (fun _ _ e => e)) _ 1 1 [.pointer none, ptr (wr.heap.size + 1)] rfl rfl (fun j u hj => cells_newS _ _ _ [.pointer none, ptr (wr.heap.size + 1)] 96 j u hj) (one2 _ _) ?_ ?_ ?_ ?_; (unfold maxLen; omega); omega; (simp <;> omega); intro v5 w5 hown5 hgr5 _ hob5))
          have hown2 := HW2.out
          simp only [Nat.zero_add, List.nil_append] at hown2
          have hv2b : ∀ b ∈ (Value.slice a2 x.c.bytes.length cap2).ownBlock.toList, b = wr.heap.size + 1 + 1 := fun b hb => by
            have := HB2.out
            simp only [Nat.zero_add] at this
            rcases this with this | this
            · rw [this] at hb; simp [Value.ownBlock] at hb
            · rw [this] at hb; simp at hb; omega
          have C5a : Chg (· ∈ u4.ownBlock.toList) ((w3.setCell ⟨wr.heap.size + 1, 1, none⟩ (.slice a2 x.c.bytes.length cap2)).alloc (.cells #[.pointer none, ptr (wr.heap.size + 1)] 96)) w5 := Chg.grown (Chg.refl _ _) hgr5 (fun n hn => .inl (by simp [hn]))
          have C5 : Chg (· ∈ u4.ownBlock.toList) wr w5 := (((C3.mono (fun _ _ e => e.elim)).setCell (p := ⟨wr.heap.size + 1, 1, none⟩) (.inr (Nat.le_add_right _ _)) _).alloc _).trans C5a
          have hq5 := C5a.blk (blk_alloc (blk_set hq7 1 (.slice a2 x.c.bytes.length cap2)) _) (fun hb => by have := (hvl _ hb).2; omega)
          simp only [List.setIfInBounds_toArray, List.set_cons_zero, List.set_cons_succ] at hq5
          have hrow5 := (Row.of_owns (owns_base hown2 (Nat.zero_le _))).chg ((Chg.refl (fun b => b = wr.heap.size + 1) w3).one (p := ⟨wr.heap.size + 1, 1, none⟩) rfl (.slice a2 x.c.bytes.length cap2)) (fun b hb e => by have := hv2b b hb; omega)
          have hrow6 := (hrow5.chg ((Chg.refl NoB _).alloc (.cells #[.pointer none, ptr (wr.heap.size + 1)] 96)) (fun _ _ e => e)).chg C5a (fun b hb e => by have := hv2b b hb; have := (hvl _ e).2; omega)
          have hsz5 := C3.size
          have HX : PC.ok w5 ⟨wr.heap.size + 1, .slice a2 x.c.bytes.length cap2, x.c⟩ := by
            unfold PC.ok
            simp only [ht, if_true]
            have hok2 := hok
            unfold PC.ok at hok2
            simp only [ht, if_true] at hok2
            exact ⟨hq5, hrow6, hok2.2.2⟩
          go_roundw
          case rel =>
            refine ⟨k + 1, by omega, by go_num, ST.out w5 v5 ⟨wr.heap.size + 1, .slice a2 x.c.bytes.length cap2, x.c⟩ C5 HX HG.out ?_ ?_ ?_ ?_⟩
            · intro b hb
              simp only [PC.foot, List.mem_cons] at hb
              rcases hb with rfl | hb
              · omega
              · have := hv2b b hb; omega
            · simp only [PC.foot, List.nodup_cons]
              refine ⟨fun hb => by have := hv2b _ hb; omega, ?_⟩
              cases (Value.slice a2 x.c.bytes.length cap2).ownBlock <;> simp
            · have e : PC.ptrs ⟨wr.heap.size + 1, .slice a2 x.c.bytes.length cap2, x.c⟩ = [.pointer none, ptr (wr.heap.size + 1)] := by simp [PC.ptrs, ht]
              rw [e]; exact hown5
            · rcases hob5 with h | h
              · exact .inl h
              · refine .inr ⟨_, h, by simp; omega, fun hb => ?_⟩
                simp only [PC.foot, List.mem_cons, World.size_alloc, World.size_setCell] at hb
                rcases hb with hb | hb
                · omega
                · have := hv2b _ hb; omega
          case measure => simp [intOf]; omega
      · have htf : x.c.text = false := by simpa using ht
        have hp2 := HU.out
        simp only [PC.ptrs, htf, if_false, Bool.false_eq_true, List.cons.injEq, Value.pointer.injEq] at hp2
        obtain ⟨rfl, rfl, -⟩ := hp2
        have hhd := hok.head.2 htf
        have hrow := hok.itemRow htf
        have Rx := Chg.cells (S := NoB) hhd id
        have lx := blk_lt hhd
        have hsm2 : x.c.items.length ≤ 40000 := by simpa [C.size, htf] using hsm
        rcases hrow.src with ⟨hsl, hn0⟩ | ⟨ad, c1, hsl, hsrc⟩
        · rw [hsl] at hhd Rx
          have HSL := Hid.mk' hsl
          have HN0 := Hid.mk' hn0
          clear hsl hn0
          obtain ⟨i5, hi5, hz50, hz51, hz52⟩ := info_parts Try.infoObj
          obtain ⟨i0, hi, hz0, hz1, hz2⟩ := info_parts Try.infoCell
          go_wp2_with (first
            | (at_builtin; refine wpList_append_own_none rfl (.const (.slice none 0 0)) (.tmp 44) 32 rfl wr.heap.size 36 i5 6 Try.underObjs hi5 (.slice none 0 0) 0 [] rfl (World.ownsRow_nil _ _ _ _) rfl ?_)
            | (at_builtin; refine wpList_append_own_at _ rfl (.tmp 47) (.tmp 49) 59 rfl w.heap.size 96 i0 (.agg #[.pointer none, .pointer none]) 2 16 Try.underCells hi hz0 hz1 hz2 rfl (by decide) u4 k (M.flatMap PC.ptrs) rfl (owns_chgB HM.out (((X.alloc _).alloc _).alloc _) (fun _ _ e => e)) _ 1 1 [ptr (wr.heap.size + 1), .pointer none] rfl rfl (fun j u hj => cells_new2 _ _ _ [ptr (wr.heap.size + 1), .pointer none] 96 j u hj) (one2 _ _) ?_ ?_ ?_ ?_; (unfold maxLen; omega); omega; (simp <;> omega); intro v5 w5 hown5 hgr5 _ hob5))
          have C5a : Chg (· ∈ u4.ownBlock.toList) (((wr.alloc (.cells #[ptr x.p, .pointer none] 96)).alloc (.cells #[.bool x.c.locked, .bool x.c.dict, .slice none 0 0] 93)).alloc (.cells #[ptr (wr.heap.size + 1), .pointer none] 96)) w5 := Chg.grown (Chg.refl _ _) hgr5 (fun n hn => .inl (by simp [hn]))
          have C5 : Chg (· ∈ u4.ownBlock.toList) wr w5 := ((((Chg.refl _ wr).alloc _).alloc _).alloc _).trans C5a
          have hq5 := C5a.blk (blk_alloc (blk_new1 wr _ _) _) (fun hb => by have := (hvl _ hb).2; omega)
          have HX : PC.ok w5 ⟨wr.heap.size + 1, .slice none 0 0, x.c⟩ := by
            unfold PC.ok
            simp only [htf, if_false, Bool.false_eq_true]
            have hok2 := hok
            unfold PC.ok at hok2
            simp only [htf, if_false, Bool.false_eq_true] at hok2
            refine ⟨hq5, ?_, hok2.2.2⟩
            have hr := hok2.2.1
            rw [HSL.out] at hr
            exact hr.of_nil
          go_roundw
          case rel =>
            refine ⟨k + 1, by omega, by go_num, ST.out w5 v5 ⟨wr.heap.size + 1, .slice none 0 0, x.c⟩ C5 HX HG.out ?_ ?_ ?_ ?_⟩
            · intro b hb
              simp only [PC.foot, Value.ownBlock, Option.toList, List.mem_cons, List.not_mem_nil, or_false] at hb
              omega
            · simp [PC.foot, Value.ownBlock]
            · have e : PC.ptrs ⟨wr.heap.size + 1, .slice none 0 0, x.c⟩ = [ptr (wr.heap.size + 1), .pointer none] := by simp [PC.ptrs, htf]
              rw [e]; exact hown5
            · rcases hob5 with h | h
              · exact .inl h
              · refine .inr ⟨_, h, by simp; omega, fun hb => ?_⟩
                simp only [PC.foot, Value.ownBlock, Option.toList, List.mem_cons, List.not_mem_nil, or_false, World.size_alloc] at hb
                omega
          case measure => simp [intOf]; omega
        · rw [hsl] at hhd Rx
          have HS1 := Hid.mk' hsrc
          clear hsrc hsl
          obtain ⟨i5, hi5, hz50, hz51, hz52⟩ := info_parts Try.infoObj
          obtain ⟨i0, hi, hz0, hz1, hz2⟩ := info_parts Try.infoCell
          go_wp2_with (first
            | (at_builtin; refine wpList_append_own_at _ rfl (.const (.slice none 0 0)) (.tmp 44) 32 rfl wr.heap.size 36 i5 O.nil.val 6 56 Try.underObjs hi5 hz50 hz51 hz52 rfl (by decide) (.slice none 0 0) 0 [] rfl (World.ownsRow_nil _ _ _ _) ad x.c.items.length c1 (x.c.items.flatMap O.cells) rfl (flat_length O.cells 6 cells_length _) (fun j u hj => HS1.out _ ((X.alloc _).alloc _) j u hj) (flat_one _) ?_ ?_ ?_ ?_; (unfold maxLen; omega); omega; (simp; omega); intro v2 w3 hown2 hgr2 _ hob2; have C3 : Chg NoB wr w3 := Chg.grown ((X.alloc _).alloc _) hgr2 (fun k hk => by simp [Value.ownBlock] at hk); have hq7 := (Chg.grown (Chg.refl NoB _) hgr2 (fun k hk => by simp [Value.ownBlock] at hk)).blk (blk_new1 wr _ _) id; obtain ⟨a2, cap2, rfl, _⟩ := (Row.of_owns (owns_base hown2 (Nat.zero_le _))).shape; have R7 := cells_of hq7; have Z7 := free_of hq7; have l7 := blk_lt hq7; have HW2 := Hid.mk' hown2; have HB2 := Hid.mk' hob2; clear hown2 hob2)
            | (at_builtin; refine wpList_append_own_at _ rfl (.tmp 47) (.tmp 49) 59 rfl w.heap.size 96 i0 (.agg #[.pointer none, .pointer none]) 2 16 Try.underCells hi hz0 hz1 hz2 rfl (by decide) u4 k (M.flatMap PC.ptrs) rfl (owns_chgB HM.out (Chg.alloc (Chg.setCell C3 (.inr (Nat.le_add_right _ _)) _) _) (fun _ _ e => e)) _ 1 1 [ptr (wr.heap.size + 1), .pointer none] rfl rfl (fun j u hj => cells_newS _ _ _ [ptr (wr.heap.size + 1), .pointer none] 96 j u hj) (one2 _ _) ?_ ?_ ?_ ?_; (unfold maxLen; omega); omega; (simp <;> omega); intro v5 w5 hown5 hgr5 _ hob5))
          have hown2 := HW2.out
          simp only [Nat.zero_add, List.nil_append] at hown2
          have hv2b : ∀ b ∈ (Value.slice a2 x.c.items.length cap2).ownBlock.toList, b = wr.heap.size + 1 + 1 := fun b hb => by
            have := HB2.out
            simp only [Nat.zero_add] at this
            rcases this with this | this
            · rw [this] at hb; simp [Value.ownBlock] at hb
            · rw [this] at hb; simp at hb; omega
          have C5a : Chg (· ∈ u4.ownBlock.toList) ((w3.setCell ⟨wr.heap.size + 1, 2, none⟩ (.slice a2 x.c.items.length cap2)).alloc (.cells #[ptr (wr.heap.size + 1), .pointer none] 96)) w5 := Chg.grown (Chg.refl _ _) hgr5 (fun n hn => .inl (by simp [hn]))
          have C5 : Chg (· ∈ u4.ownBlock.toList) wr w5 := (((C3.mono (fun _ _ e => e.elim)).setCell (p := ⟨wr.heap.size + 1, 2, none⟩) (.inr (Nat.le_add_right _ _)) _).alloc _).trans C5a
          have hq5 := C5a.blk (blk_alloc (blk_set hq7 2 (.slice a2 x.c.items.length cap2)) _) (fun hb => by have := (hvl _ hb).2; omega)
          simp only [List.setIfInBounds_toArray, List.set_cons_zero, List.set_cons_succ] at hq5
          have hrow5 := (Row.of_owns (owns_base hown2 (Nat.zero_le _))).chg ((Chg.refl (fun b => b = wr.heap.size + 1) w3).one (p := ⟨wr.heap.size + 1, 2, none⟩) rfl (.slice a2 x.c.items.length cap2)) (fun b hb e => by have := hv2b b hb; omega)
          have hrow6 := (hrow5.chg ((Chg.refl NoB _).alloc (.cells #[ptr (wr.heap.size + 1), .pointer none] 96)) (fun _ _ e => e)).chg C5a (fun b hb e => by have := hv2b b hb; have := (hvl _ e).2; omega)
          have hsz5 := C3.size
          have HX : PC.ok w5 ⟨wr.heap.size + 1, .slice a2 x.c.items.length cap2, x.c⟩ := by
            unfold PC.ok
            simp only [htf, if_false, Bool.false_eq_true]
            have hok2 := hok
            unfold PC.ok at hok2
            simp only [htf, if_false, Bool.false_eq_true] at hok2
            exact ⟨hq5, hrow6, hok2.2.2⟩
          go_roundw
          case rel =>
            refine ⟨k + 1, by omega, by go_num, ST.out w5 v5 ⟨wr.heap.size + 1, .slice a2 x.c.items.length cap2, x.c⟩ C5 HX HG.out ?_ ?_ ?_ ?_⟩
            · intro b hb
              simp only [PC.foot, List.mem_cons] at hb
              rcases hb with rfl | hb
              · omega
              · have := hv2b b hb; omega
            · simp only [PC.foot, List.nodup_cons]
              refine ⟨fun hb => by have := hv2b _ hb; omega, ?_⟩
              cases (Value.slice a2 x.c.items.length cap2).ownBlock <;> simp
            · have e : PC.ptrs ⟨wr.heap.size + 1, .slice a2 x.c.items.length cap2, x.c⟩ = [ptr (wr.heap.size + 1), .pointer none] := by simp [PC.ptrs, htf]
              rw [e]; exact hown5
            · rcases hob5 with h | h
              · exact .inl h
              · refine .inr ⟨_, h, by simp; omega, fun hb => ?_⟩
                simp only [PC.foot, List.mem_cons, World.size_alloc, World.size_setCell] at hb
                rcases hb with hb | hb
                · omega
                · have := hv2b _ hb; omega
          case measure => simp [intOf]; omega
    · have hkn : k = L.length := by omega
      subst hkn
      obtain ⟨a4, c4, rfl, -⟩ := (Row.of_owns (owns_base m3 (Nat.zero_le _))).shape
      have hh2 := X.blk hh id
      have hg2 := G1.head
      simp only [HS.l] at hg2
      have m1' : M.map PC.c = L.map PC.c := by rw [m1]; exact List.take_of_length_le (by simp)
      have HM1 := Hid.mk' m1'
      have HM2 := Hid.mk' m2
      clear m1 m1' m2
      have Rh := cells_of hh2
      have Zh := free_of hh2
      have Rg := cells_of hg2
      have lh := blk_lt hh2
      have lg := blk_lt hg2
      have hst := blk_set (blk_set hh2 0 (.slice a4 L.length c4)) 1 (.int .i64 (used (L.map PC.c) : Nat))
      simp only [List.setIfInBounds_toArray, List.set_cons_zero, List.set_cons_succ] at hst
      have cS := ((Chg.refl (fun b => b = hp) wr).one (p := ⟨hp, 0, none⟩) rfl (.slice a4 L.length c4)).one (p := ⟨hp, 1, none⟩) rfl (.int .i64 (used (L.map PC.c) : Nat))
      have hvl := owns_ge m3
      go_wp2
      go_end0
      refine ⟨rfl, ⟨hp, .slice a4 L.length c4, M⟩, rfl, HM1.out, ⟨?_, ?_, ?_, ?_, ?_, ?_⟩, G1.chg cS (fun b hb e => hhg (by rw [← e]; exact hb)), (X.mono (fun _ _ e => e.elim)).trans cS, ?_⟩
      · simp only [HS.l, HM1.out]; exact hst
      · have := owns_chgB m3 cS (fun b hb e => by have := (hvl b hb).1; omega)
        simp only [HM2.out]
        exact owns_base this (Nat.zero_le _)
      · intro y hy
        exact (m4 y hy).chg cS (fun b hb e => by have := m6 b (List.mem_flatMap.2 ⟨y, hy, hb⟩); omega)
      · simp only [HS.foot, List.nodup_cons]
        refine ⟨fun hb => ?_, m5⟩
        rcases List.mem_append.1 hb with hb | hb
        · have := (hvl _ hb).1; omega
        · have := m6 _ hb; omega
      · simp only [HM2.out]; exact hm
      · simp only [HS.l, HM1.out]; exact H.room
      · intro b hb
        simp only [HS.foot, List.mem_cons, List.mem_append] at hb
        rcases hb with rfl | hb | hb
        · exact .inl rfl
        · exact .inr (hvl b hb).1
        · exact .inr (m6 b hb)

theorem copy_any (h : HS) (w : World) (H : HeapRep w h) :
   Calls Try.prog 24 #[ptr h.hp] w fun e w' => e = .returned (ptr w.heap.size) ∧
     ∃ h' : HS, h'.hp = w.heap.size ∧ h'.l = h.l ∧ HeapRep w' h' ∧ Chg NoB w w' ∧ ∀ b ∈ h'.foot, w.heap.size ≤ b := by
  have hlt := H.lt
  go_enter Try.func24, Try.ntmps24
  go_wp2_with fail
  refine (new_any _).mono ?_
  rintro e w1 ⟨rfl, rfl⟩
  go_wp2_with fail
  refine (become_any w.heap.size h _ (H.pure ((Chg.refl _ _).alloc _)) _ _ (blk_new w _) (fun hb => by have := hlt _ hb; omega)).mono ?_
  rintro e w2 ⟨rfl, h', e1, e2, H2, -, X2, F2⟩
  go_wp2
  go_ret
  refine ⟨rfl, h', e1, e2, H2, ((Chg.refl NoB w).alloc _).trans' X2 (fun i hi e => by omega), fun b hb => ?_⟩
  rcases F2 b hb with e | e
  · omega
  · simp at e; omega
end Go.Proofs.Ytpgkjgceldleaaa
/- A heap that a law made, and its boxes: what the law's walk carries along. -/
namespace Go.Proofs.Ytpgkjgceldleaaa
open Go.RowKit

/-- Since w0 only new blocks were written; heaps lie at M's places and hold M's lists, apart; K: boxes of the law's own that stay. -/
def Ats (w0 w : World) (M : List (Nat × List C)) (K : List (Nat × Obj)) : Prop :=
  ∃ hs : List HS, hs.map (fun h => (h.hp, h.l)) = M ∧ (∀ h ∈ hs, HeapRep w h) ∧ Chg NoB w0 w ∧ (hs.flatMap HS.foot).Nodup ∧ (∀ b ∈ hs.flatMap HS.foot, w0.heap.size ≤ b) ∧
    (∀ q ∈ K, w.heap[q.1]? = some q.2 ∧ q.1 ∉ hs.flatMap HS.foot ∧ w0.heap.size ≤ q.1) ∧ (K.map Prod.fst).Nodup
/-- One heap. -/
abbrev At (w0 w : World) (hp : Nat) (L : List C) (K : List (Nat × Obj)) : Prop := Ats w0 w [(hp, L)] K

theorem reps_lt {w : World} {hs : List HS} (H : ∀ h ∈ hs, HeapRep w h) : ∀ b ∈ hs.flatMap HS.foot, b < w.heap.size := fun b hb => by
  obtain ⟨h, hh, hb⟩ := List.mem_flatMap.1 hb
  exact (H h hh).lt b hb
theorem Ats.start {w0 w : World} (X : Chg NoB w0 w) : Ats w0 w [] [] :=
  ⟨[], rfl, fun h hh => by simp at hh, X, by simp, fun b hb => by simp at hb, fun q hq => by simp at hq, by simp⟩
/-- One more heap, of new blocks. -/
theorem Ats.more {w0 w w' : World} {M : List (Nat × List C)} {K : List (Nat × Obj)} (A : Ats w0 w M K) (h' : HS) (H' : HeapRep w' h') (X : Chg NoB w w') (F : ∀ b ∈ h'.foot, w.heap.size ≤ b) :
    Ats w0 w' ((h'.hp, h'.l) :: M) K := by
  obtain ⟨hs, rfl, H, X0, D, G, k, n⟩ := A
  have lt := reps_lt H
  refine ⟨h' :: hs, rfl, fun h hh => ?_, X0.pure X, ?_, fun b hb => ?_, fun q hq => ⟨X.blk (k q hq).1 id, fun hb => ?_, (k q hq).2.2⟩, n⟩
  · rcases List.mem_cons.1 hh with rfl | hh
    · exact H'
    · exact (H h hh).pure X
  · rw [List.flatMap_cons, List.nodup_append]
    exact ⟨H'.apart, D, fun a ha b hb e => by have := F a ha; have := lt b hb; omega⟩
  · rw [List.flatMap_cons, List.mem_append] at hb
    rcases hb with hb | hb
    · have := F b hb; have := X0.size; omega
    · exact G b hb
  · rw [List.flatMap_cons, List.mem_append] at hb
    rcases hb with hb | hb
    · have := F _ hb; have := blk_lt (k q hq).1; omega
    · exact (k q hq).2.1 hb
theorem Ats.new {w0 w : World} {M : List (Nat × List C)} {K : List (Nat × Obj)} (A : Ats w0 w M K) :
    Ats w0 (w.alloc (.cells #[.slice none 0 0, .int .i64 0] 61)) ((w.heap.size, []) :: M) K :=
  A.more ⟨w.heap.size, .slice none 0 0, []⟩ (HeapRep.new w) ((Chg.refl _ _).alloc _) fun b hb => by simp [HS.foot, Value.ownBlock] at hb; omega
theorem At.new {w0 w : World} (X : Chg NoB w0 w) : At w0 (w.alloc (.cells #[.slice none 0 0, .int .i64 0] 61)) w.heap.size [] [] := (Ats.start X).new
theorem Ats.chg {w0 w : World} {M : List (Nat × List C)} {K : List (Nat × Obj)} (A : Ats w0 w M K) : Chg NoB w0 w := by
  obtain ⟨h, -, -, X, -⟩ := A; exact X
theorem Ats.box {w0 w : World} {M : List (Nat × List C)} {K : List (Nat × Obj)} (A : Ats w0 w M K) (q : Nat × Obj) (hq : q ∈ K) : w.heap[q.1]? = some q.2 := by
  obtain ⟨h, -, -, -, -, -, k, -⟩ := A; exact (k q hq).1
theorem Ats.box_ge {w0 w : World} {M : List (Nat × List C)} {K : List (Nat × Obj)} (A : Ats w0 w M K) (q : Nat × Obj) (hq : q ∈ K) : w0.heap.size ≤ q.1 := by
  obtain ⟨h, -, -, -, -, -, k, -⟩ := A; exact (k q hq).2.2
theorem Ats.pure {w0 w w' : World} {M : List (Nat × List C)} {K : List (Nat × Obj)} (A : Ats w0 w M K) (X : Chg NoB w w') : Ats w0 w' M K := by
  obtain ⟨h, h1, H, X0, D, F, k, n⟩ := A
  exact ⟨h, h1, fun h hh => (H h hh).pure X, X0.pure X, D, F, fun q hq => ⟨X.blk (k q hq).1 id, (k q hq).2⟩, n⟩
/-- One more box, of a new block. -/
theorem Ats.got {w0 w w' : World} {M : List (Nat × List C)} {K : List (Nat × Obj)} (A : Ats w0 w M K) (X : Chg NoB w w') {b : Nat} {o : Obj} (hb : w'.heap[b]? = some o) (hn : w.heap.size ≤ b) : Ats w0 w' M ((b, o) :: K) := by
  obtain ⟨h, h1, H, X0, D, F, k, n⟩ := A
  have lt := reps_lt H
  refine ⟨h, h1, fun h hh => (H h hh).pure X, X0.pure X, D, F, fun q hq => ?_, ?_⟩
  · rcases List.mem_cons.1 hq with rfl | hq
    · exact ⟨hb, fun h' => by have := lt _ h'; simp only at this; omega, Nat.le_trans X0.size hn⟩
    · exact ⟨X.blk (k q hq).1 id, (k q hq).2⟩
  · rw [List.map_cons, List.nodup_cons]
    refine ⟨fun hm => ?_, n⟩
    obtain ⟨q, hq, e⟩ := List.mem_map.1 hm
    have := blk_lt (k q hq).1
    simp only at e; omega
theorem Ats.alloc {w0 w : World} {M : List (Nat × List C)} {K : List (Nat × Obj)} (A : Ats w0 w M K) (o : Obj) : Ats w0 (w.alloc o) M ((w.heap.size, o) :: K) :=
  A.got ((Chg.refl _ _).alloc _) (blk_new w o) (Nat.le_refl _)
/-- A box is written. -/
theorem Ats.put {w0 w : World} {M : List (Nat × List C)} {K : List (Nat × Obj)} {b : Nat} {cs : Array Value} {T : TypeId} {fz : Nat × Nat} (A : Ats w0 w M ((b, .cells cs T fz) :: K)) (i : Nat) (v : Value) :
    Ats w0 (w.setCell ⟨b, i, none⟩ v) M ((b, .cells (cs.setIfInBounds i v) T fz) :: K) := by
  obtain ⟨h, h1, H, X0, D, F, k, n⟩ := A
  obtain ⟨kb, kn, kg⟩ := k _ (List.mem_cons_self ..)
  have X : Chg (· = b) w (w.setCell ⟨b, i, none⟩ v) := (Chg.refl (· = b) w).setCell (p := ⟨b, i, none⟩) (.inl rfl) v
  refine ⟨h, h1, fun x hx => (H x hx).chg X fun c hc e => kn (List.mem_flatMap.2 ⟨x, hx, e ▸ hc⟩), X0.setCell (.inr kg) v, D, F, fun q hq => ?_, n⟩
  rcases List.mem_cons.1 hq with rfl | hq
  · exact ⟨blk_set kb i v, kn, kg⟩
  · refine ⟨X.blk (k q (List.mem_cons_of_mem _ hq)).1 fun e => ?_, (k q (List.mem_cons_of_mem _ hq)).2⟩
    rw [List.map_cons, List.nodup_cons] at n
    exact n.1 (List.mem_map.2 ⟨q, hq, e⟩)
theorem Ats.perm {w0 w : World} {M : List (Nat × List C)} {K K' : List (Nat × Obj)} (A : Ats w0 w M K) (hK : K.Perm K') : Ats w0 w M K' := by
  obtain ⟨h, h1, H, X0, D, F, k, n⟩ := A
  exact ⟨h, h1, H, X0, D, F, fun q hq => k q (hK.mem_iff.2 hq), (hK.map _).nodup_iff.1 n⟩
theorem Ats.keep {w0 w : World} {M : List (Nat × List C)} {K K' : List (Nat × Obj)} (A : Ats w0 w M K) (hK : K'.Sublist K) : Ats w0 w M K' := by
  obtain ⟨h, h1, H, X0, D, F, k, n⟩ := A
  exact ⟨h, h1, H, X0, D, F, fun q hq => k q (hK.subset hq), (hK.map _).nodup n⟩
theorem Ats.forget {w0 w : World} {M : List (Nat × List C)} {K : List (Nat × Obj)} (A : Ats w0 w M K) : Ats w0 w M [] := A.keep (List.nil_sublist _)
/-- Another order of the heaps. -/
theorem Ats.order {w0 w : World} {M M' : List (Nat × List C)} {K : List (Nat × Obj)} (A : Ats w0 w M K) (hM : M.Perm M') : Ats w0 w M' K := by
  obtain ⟨hs, h1, H, X0, D, F, k, n⟩ := A
  obtain ⟨hs', hp, h2⟩ : ∃ hs', hs.Perm hs' ∧ hs'.map (fun h => (h.hp, h.l)) = M' := by
    subst h1
    clear H D F k
    generalize hm : hs.map (fun h : HS => (h.hp, h.l)) = M at hM
    induction hM generalizing hs with
    | nil => exact ⟨[], by simp at hm; simp [hm], rfl⟩
    | cons x _ ih =>
      obtain ⟨a, t, rfl, rfl, rfl⟩ := List.map_eq_cons_iff.1 hm
      obtain ⟨t', p, e⟩ := ih t rfl
      exact ⟨a :: t', p.cons a, by simp [e]⟩
    | swap x y l =>
      obtain ⟨a, t, rfl, rfl, hm'⟩ := List.map_eq_cons_iff.1 hm
      obtain ⟨b, t', rfl, rfl, rfl⟩ := List.map_eq_cons_iff.1 hm'
      exact ⟨b :: a :: t', List.Perm.swap .., rfl⟩
    | trans _ _ ih1 ih2 =>
      obtain ⟨t, p, e⟩ := ih1 hs hm
      obtain ⟨t', p', e'⟩ := ih2 t e
      exact ⟨t', p.trans p', e'⟩
  have hf := hp.flatMap_right HS.foot
  exact ⟨hs', h2, fun h hh => H h (hp.mem_iff.2 hh), X0, hf.nodup_iff.1 D, fun b hb => F b (hf.mem_iff.2 hb), fun q hq => ⟨(k q hq).1, fun hb => (k q hq).2.1 (hf.mem_iff.2 hb), (k q hq).2.2⟩, n⟩
/-- Fewer heaps. -/
theorem Ats.drop {w0 w : World} {x : Nat × List C} {M : List (Nat × List C)} {K : List (Nat × Obj)} (A : Ats w0 w (x :: M) K) : Ats w0 w M K := by
  obtain ⟨hs, h1, H, X0, D, F, k, n⟩ := A
  obtain ⟨h, t, rfl, -, rfl⟩ := List.map_eq_cons_iff.1 h1
  rw [List.flatMap_cons] at D
  exact ⟨t, rfl, fun x hx => H x (List.mem_cons_of_mem _ hx), X0, (List.nodup_append.1 D).2.1, fun b hb => F b (by rw [List.flatMap_cons, List.mem_append]; exact .inr hb),
    fun q hq => ⟨(k q hq).1, fun hb => (k q hq).2.1 (by rw [List.flatMap_cons, List.mem_append]; exact .inr hb), (k q hq).2.2⟩, n⟩
/-- A method that changes the first heap. -/
theorem Ats.does {w0 w : World} {hp : Nat} {L L' : List C} {M : List (Nat × List C)} {K : List (Nat × Obj)} {f : Nat} {args : Array Value} {r : Value} (A : Ats w0 w ((hp, L) :: M) K)
    (hc : ∀ h : HS, h.hp = hp → h.l = L → HeapRep w h → Calls Try.prog f args w fun e w' => e = .returned r ∧ Next w h w' L') :
    Calls Try.prog f args w fun e w' => e = .returned r ∧ Ats w0 w' ((hp, L') :: M) K := by
  obtain ⟨hs, h1, H, X0, D, F, k, n⟩ := A
  obtain ⟨h, t, rfl, h2, rfl⟩ := List.map_eq_cons_iff.1 h1
  obtain ⟨h2, h3⟩ := Prod.mk.injEq .. ▸ h2
  refine (hc h h2 h3 (H h (List.mem_cons_self ..))).mono fun e w' ⟨he, hn⟩ => ⟨he, ?_⟩
  obtain ⟨h', e1, e2, H', X, F'⟩ := hn
  rw [List.flatMap_cons, List.nodup_append] at D
  obtain ⟨D1, D2, D3⟩ := D
  have Ht : ∀ x ∈ t, HeapRep w x := fun x hx => H x (List.mem_cons_of_mem _ hx)
  have lt := reps_lt Ht
  have F0 : ∀ b ∈ h.foot, w0.heap.size ≤ b := fun b hb => F b (by rw [List.flatMap_cons, List.mem_append]; exact .inl hb)
  have Ft : ∀ b ∈ t.flatMap HS.foot, w0.heap.size ≤ b := fun b hb => F b (by rw [List.flatMap_cons, List.mem_append]; exact .inr hb)
  have kn : ∀ q ∈ K, q.1 ∉ h.foot ∧ q.1 ∉ t.flatMap HS.foot := fun q hq => by
    have := (k q hq).2.1
    rw [List.flatMap_cons, List.mem_append] at this
    exact ⟨fun z => this (.inl z), fun z => this (.inr z)⟩
  refine ⟨h' :: t, by simp [e1, e2, h2], fun x hx => ?_, X0.trans' X (fun i hi hb => by have := F0 i hb; omega), ?_, fun b hb => ?_, fun q hq => ⟨X.blk (k q hq).1 (kn q hq).1, fun hb => ?_, (k q hq).2.2⟩, n⟩
  · rcases List.mem_cons.1 hx with rfl | hx
    · exact H'
    · exact (Ht x hx).chg X fun b hb hb' => D3 b hb' b (List.mem_flatMap.2 ⟨x, hx, hb⟩) rfl
  · rw [List.flatMap_cons, List.nodup_append]
    refine ⟨H'.apart, D2, fun a ha b hb e => ?_⟩
    rcases F' a ha with q | q
    · exact D3 a q b hb e
    · have := lt b hb; omega
  · rw [List.flatMap_cons, List.mem_append] at hb
    rcases hb with hb | hb
    · have := X0.size
      rcases F' b hb with q | q
      · exact F0 b q
      · omega
    · exact Ft b hb
  · rw [List.flatMap_cons, List.mem_append] at hb
    rcases hb with hb | hb
    · rcases F' _ hb with e | e
      · exact (kn q hq).1 e
      · have := blk_lt (k q hq).1; omega
    · exact (kn q hq).2 hb
/-- What a heap among them tells. -/
theorem Ats.rep {w0 w : World} {hp : Nat} {L : List C} {M : List (Nat × List C)} {K : List (Nat × Obj)} (A : Ats w0 w M K) (hm : (hp, L) ∈ M) : ∃ h : HS, h.hp = hp ∧ h.l = L ∧ HeapRep w h := by
  obtain ⟨hs, rfl, H, -⟩ := A
  obtain ⟨h, hh, e⟩ := List.mem_map.1 hm
  obtain ⟨e1, e2⟩ := Prod.mk.injEq .. ▸ e
  exact ⟨h, e1, e2, H h hh⟩
/-- A method that only asks one of the heaps. -/
theorem Ats.asks {w0 w : World} {hp : Nat} {L : List C} {M : List (Nat × List C)} {K : List (Nat × Obj)} {f : Nat} {args : Array Value} {r : Value} (A : Ats w0 w M K) (hm : (hp, L) ∈ M)
    (hc : ∀ h : HS, h.hp = hp → h.l = L → HeapRep w h → Calls Try.prog f args w fun e w' => e = .returned r ∧ Chg NoB w w') :
    Calls Try.prog f args w fun e w' => e = .returned r ∧ Ats w0 w' M K := by
  obtain ⟨h, h1, h2, H⟩ := A.rep hm
  exact (hc h h1 h2 H).mono fun e w' ⟨he, hn⟩ => ⟨he, A.pure hn⟩

theorem at_array {w0 w : World} {hp : Nat} {L : List C} {M : List (Nat × List C)} {K : List (Nat × Obj)} (A : Ats w0 w ((hp, L) :: M) K) (n : Int) {L' : List C} {o : O} {e : Int} (hr : arrayH L n = (L', o, e)) :
    Calls Try.prog 18 #[ptr hp, .int .i64 n] w fun r w' => r = .returned (.tuple #[o.val, .int .i64 e]) ∧ Ats w0 w' ((hp, L') :: M) K :=
  A.does fun h h1 h2 H => by subst h1 h2; have := array_any h n w H; rwa [hr] at this
theorem at_string {w0 w : World} {hp : Nat} {L : List C} {M : List (Nat × List C)} {K : List (Nat × Obj)} (A : Ats w0 w ((hp, L) :: M) K) (s : ByteArray) {L' : List C} {o : O} {e : Int} (hr : stringH L s = (L', o, e)) :
    Calls Try.prog 32 #[ptr hp, .string s] w fun r w' => r = .returned (.tuple #[o.val, .int .i64 e]) ∧ Ats w0 w' ((hp, L') :: M) K :=
  A.does fun h h1 h2 H => by subst h1 h2; have := string_any h s w H; rwa [hr] at this
theorem at_dict {w0 w : World} {hp : Nat} {L : List C} {M : List (Nat × List C)} {K : List (Nat × Obj)} (A : Ats w0 w ((hp, L) :: M) K) (n : Int) {L' : List C} {o : O} {e : Int} (hr : dictH L n = (L', o, e)) :
    Calls Try.prog 49 #[ptr hp, .int .i64 n] w fun r w' => r = .returned (.tuple #[o.val, .int .i64 e]) ∧ Ats w0 w' ((hp, L') :: M) K :=
  A.does fun h h1 h2 H => by subst h1 h2; have := hdict_any h n w H; rwa [hr] at this
theorem at_set {w0 w : World} {hp : Nat} {L : List C} {M : List (Nat × List C)} {K : List (Nat × Obj)} (A : Ats w0 w ((hp, L) :: M) K) (o : O) (i : Int) (x : O) {L' : List C} {e : Int} (hr : setH L o i x = (L', e)) :
    Calls Try.prog 19 #[ptr hp, o.val, .int .i64 i, x.val] w fun r w' => r = .returned (.int .i64 e) ∧ Ats w0 w' ((hp, L') :: M) K :=
  A.does fun h h1 h2 H => by subst h1 h2; have := set_any h o i x w H; rwa [hr] at this
theorem at_lock {w0 w : World} {hp : Nat} {L : List C} {M : List (Nat × List C)} {K : List (Nat × Obj)} (A : Ats w0 w ((hp, L) :: M) K) (o : O) {L' : List C} {e : Int} (hr : lockH L o = (L', e)) :
    Calls Try.prog 28 #[ptr hp, o.val] w fun r w' => r = .returned (.int .i64 e) ∧ Ats w0 w' ((hp, L') :: M) K :=
  A.does fun h h1 h2 H => by subst h1 h2; have := lock_any h o w H; rwa [hr] at this
theorem at_get {w0 w : World} {hp : Nat} {L : List C} {M : List (Nat × List C)} {K : List (Nat × Obj)} (A : Ats w0 w M K) (o : O) (i : Int) {o' : O} {e : Int} (hr : getH L o i = (o', e)) (hm : (hp, L) ∈ M := by first | exact List.mem_cons_self .. | exact List.mem_cons_of_mem _ (List.mem_cons_self ..) | assumption) :
    Calls Try.prog 22 #[ptr hp, o.val, .int .i64 i] w fun r w' => r = .returned (.tuple #[o'.val, .int .i64 e]) ∧ Ats w0 w' M K :=
  A.asks hm fun h h1 h2 H => by subst h1 h2; have := get_any h o i w H; rwa [hr] at this
theorem at_bytes {w0 w : World} {hp : Nat} {L : List C} {M : List (Nat × List C)} {K : List (Nat × Obj)} (A : Ats w0 w M K) (o : O) {b : ByteArray} {e : Int} (hr : bytesH L o = (b, e)) (hm : (hp, L) ∈ M := by first | exact List.mem_cons_self .. | exact List.mem_cons_of_mem _ (List.mem_cons_self ..) | assumption) :
    Calls Try.prog 74 #[ptr hp, o.val] w fun r w' => r = .returned (.tuple #[.string b, .int .i64 e]) ∧ Ats w0 w' M K :=
  A.asks hm fun h h1 h2 H => by subst h1 h2; have := bytes_any h o w H; rwa [hr] at this
/-- Items: the row that it makes is a box. -/
theorem at_items {w0 w : World} {hp : Nat} {L : List C} {M : List (Nat × List C)} {K : List (Nat × Obj)} (A : Ats w0 w M K) (o : O) {l : List O} {e : Int} (hr : itemsH L o = (l, e)) (hl : 0 < l.length) (hm : (hp, L) ∈ M := by first | exact List.mem_cons_self .. | exact List.mem_cons_of_mem _ (List.mem_cons_self ..) | assumption) :
    Calls Try.prog 48 #[ptr hp, o.val] w fun r w' => ∃ g cap cur fz, r = .returned (.tuple #[.slice (some ⟨g, 0, none⟩) l.length cap, .int .i64 e]) ∧ l.length ≤ cap ∧ Ats w0 w' M ((g, .cells cur 36 fz) :: K) ∧
      ∀ i, i < l.length * 6 → cur[i]? = (l.flatMap O.cells)[i]? := by
  obtain ⟨h, rfl, rfl, H⟩ := A.rep hm
  refine (items_any h o w H).mono ?_
  rintro r w' ⟨v, rfl, X, own⟩
  rw [hr] at own ⊢
  obtain ⟨g, cap, cur, fz, rfl, hg, -, hcap, -, -, hc⟩ := (Row.of_owns (owns_base own (Nat.zero_le _))).some' hl
  exact ⟨g, cap, cur, fz, rfl, hcap, A.got X hg (owns_ge own g (by simp [Value.ownBlock])).1, hc⟩
/-- A copy: one more heap. -/
theorem at_copy {w0 w : World} {hp : Nat} {L : List C} {M : List (Nat × List C)} {K : List (Nat × Obj)} (A : Ats w0 w M K) (hm : (hp, L) ∈ M := by first | exact List.mem_cons_self .. | exact List.mem_cons_of_mem _ (List.mem_cons_self ..) | assumption) :
    Calls Try.prog 24 #[ptr hp] w fun r w' => r = .returned (ptr w.heap.size) ∧ Ats w0 w' ((w.heap.size, L) :: M) K := by
  obtain ⟨h, rfl, rfl, H⟩ := A.rep hm
  refine (copy_any h w H).mono ?_
  rintro r w' ⟨rfl, h', e1, e2, H', X, F⟩
  have := A.more h' H' X F
  rw [e1, e2] at this
  exact ⟨rfl, this⟩
/-- The first heap becomes another one. -/
theorem at_become {w0 w : World} {hp gp : Nat} {L G : List C} {M : List (Nat × List C)} {K : List (Nat × Obj)} (A : Ats w0 w ((hp, L) :: M) K) (hm : (gp, G) ∈ M) :
    Calls Try.prog 26 #[ptr hp, ptr gp] w fun r w' => r = .returned (.tuple #[]) ∧ Ats w0 w' ((hp, G) :: M) K := by
  refine A.does fun h e1 e2 H => ?_
  obtain ⟨hs, h1, Hs, X0, D, -⟩ := A
  obtain ⟨h0, t, rfl, h2, rfl⟩ := List.map_eq_cons_iff.1 h1
  obtain ⟨h2, h3⟩ := Prod.mk.injEq .. ▸ h2
  obtain ⟨g, hg, e⟩ := List.mem_map.1 hm
  obtain ⟨rfl, rfl⟩ := Prod.mk.injEq .. ▸ e
  have hn : h.hp ∉ g.foot := fun hb => by
    rw [List.flatMap_cons, List.nodup_append] at D
    exact D.2.2 h0.hp (by simp [HS.foot]) _ (List.mem_flatMap.2 ⟨g, hg, hb⟩) (by rw [h2, e1])
  have := become_any h.hp g w (Hs g (List.mem_cons_of_mem _ hg)) _ _ H.head hn
  rw [e1] at this
  refine this.mono ?_
  rintro r w' ⟨rfl, h', i1, i2, H', -, X, F⟩
  exact ⟨rfl, h', i1.trans e1.symm, i2, H', X.mono (fun i _ e => e ▸ by rw [← e1]; simp [HS.foot]), fun b hb => (F b hb).imp (fun e => by rw [e, ← e1]; simp [HS.foot]) id⟩

theorem kn_1 : arrayH [] 2 = ([⟨false, false, false, [nullO, nullO], []⟩], ⟨9, false, 0, 0, 2, ⟨#[]⟩⟩, 0) := by
  simp [arrayH, makeH, addE, objOf, used, C.size, C.kind, List.replicate]
theorem kn_2 : partH [⟨false, false, false, [nullO, nullO], []⟩] ⟨9, false, 0, 0, 2, ⟨#[]⟩⟩ 1 1 = (⟨9, false, 0, 1, 1, ⟨#[]⟩⟩, 0) := by
  simp [partH, findE, held, mayH, mayO, eqO, bareO, O.nil, C.size, C.kind]
theorem kn_3 : setH [⟨false, false, false, [nullO, nullO], []⟩] ⟨9, false, 0, 1, 1, ⟨#[]⟩⟩ 0 ⟨3, false, 7, 0, 0, ⟨#[]⟩⟩ = ([⟨false, false, false, [nullO, ⟨3, false, 7, 0, 0, ⟨#[]⟩⟩], []⟩], 0) := by
  simp [setH, findE, held, mayH, mayO, eqO, bareO, O.nil, C.size, C.kind, lenOf, atOf]
theorem kn_4 : getH [⟨false, false, false, [nullO, ⟨3, false, 7, 0, 0, ⟨#[]⟩⟩], []⟩] ⟨9, false, 0, 0, 2, ⟨#[]⟩⟩ 1 = (⟨3, false, 7, 0, 0, ⟨#[]⟩⟩, 0) := by
  simp [getH, findE, held, mayH, mayO, eqO, bareO, O.nil, C.size, C.kind, lenOf, atOf]
theorem at_may {w0 w : World} {hp : Nat} {L : List C} {M : List (Nat × List C)} {K : List (Nat × Obj)} (A : Ats w0 w M K) (o : O) {b : Bool} (hr : mayH L o = b) (hm : (hp, L) ∈ M) :
    Calls Try.prog 47 #[ptr hp, o.val] w fun r w' => r = .returned (.bool b) ∧ Ats w0 w' M K :=
  A.asks hm fun h h1 h2 H => by subst h1 h2; have := hmay_any h o w H; rwa [hr] at this
theorem Ats.drew {w0 w : World} {M : List (Nat × List C)} {K : List (Nat × Obj)} (A : Ats w0 w M K) : Ats w0 w.drew M K := A.pure (Chg.refl NoB w).drew
theorem Ats.cellsOf {w0 : World} {M : List (Nat × List C)} {K : List (Nat × Obj)} {g : Nat} {cs : Array Value} {T : TypeId} {fz : Nat × Nat} (h : (g, Obj.cells cs T fz) ∈ K) : ∀ W, Ats w0 W M K → ∀ i, W.cell? ⟨g, i, none⟩ = cs[i]? :=
  fun _W A i => cells_of (A.box _ h) i
theorem at_hnew {w0 w : World} {M : List (Nat × List C)} {K : List (Nat × Obj)} (A : Ats w0 w M K) :
    Calls Try.prog 7 #[] w fun e w' => ∃ hp, e = .returned (ptr hp) ∧ Ats w0 w' ((hp, []) :: M) K :=
  (new_any w).mono fun _e _w' ⟨h1, h2⟩ => ⟨_, h1, h2 ▸ A.new⟩
end Go.Proofs.Ytpgkjgceldleaaa
/- The box of an object. -/
namespace Go.Proofs.Ytpgkjgceldleaaa
open Go.RowKit

abbrev obox (x : O) : Obj := .cells #[.int .i64 x.kind, .bool x.exec, .int .i64 x.n, .int .i64 x.pos, .int .i64 x.len, .string x.s] 36
/-- A name, a number, a fix, a bool. -/
abbrev nameO (s : ByteArray) : O := ⟨5, false, 0, 0, 0, s⟩
abbrev iO (v : Int) : O := ⟨3, false, v, 0, 0, ⟨#[]⟩⟩
abbrev fO (v : Int) : O := ⟨4, false, v, 0, 0, ⟨#[]⟩⟩
abbrev bO (b : Bool) : O := ⟨2, false, if b = true then 1 else 0, 0, 0, ⟨#[]⟩⟩
theorem m0 {α : Type} {a : α} {l : List α} : a ∈ a :: l := List.mem_cons_self ..
theorem m1 {α : Type} {a b : α} {l : List α} : a ∈ b :: a :: l := List.mem_cons_of_mem _ m0
theorem m2 {α : Type} {a b c : α} {l : List α} : a ∈ b :: c :: a :: l := List.mem_cons_of_mem _ m1
theorem m3 {α : Type} {a b c d : α} {l : List α} : a ∈ b :: c :: d :: a :: l := List.mem_cons_of_mem _ m2
theorem m4 {α : Type} {a b c d e : α} {l : List α} : a ∈ b :: c :: d :: e :: a :: l := List.mem_cons_of_mem _ m3
theorem m5 {α : Type} {a b c d e f : α} {l : List α} : a ∈ b :: c :: d :: e :: f :: a :: l := List.mem_cons_of_mem _ m4
theorem m6 {α : Type} {a b c d e f g : α} {l : List α} : a ∈ b :: c :: d :: e :: f :: g :: a :: l := List.mem_cons_of_mem _ m5
theorem m7 {α : Type} {a b c d e f g h : α} {l : List α} : a ∈ b :: c :: d :: e :: f :: g :: h :: a :: l := List.mem_cons_of_mem _ m6
theorem m8 {α : Type} {a b c d e f g h i : α} {l : List α} : a ∈ b :: c :: d :: e :: f :: g :: h :: i :: a :: l := List.mem_cons_of_mem _ m7
theorem m9 {α : Type} {a b c d e f g h i j : α} {l : List α} : a ∈ b :: c :: d :: e :: f :: g :: h :: i :: j :: a :: l := List.mem_cons_of_mem _ m8
end Go.Proofs.Ytpgkjgceldleaaa
/- A slice that a law made by appending, among the boxes. -/
namespace Go.Proofs.Ytpgkjgceldleaaa
open Go.RowKit

theorem Ats.renewG {w0 w w' : World} {M : List (Nat × List C)} {K : List (Nat × Obj)} {b b' : Nat} {o o' : Obj} (A : Ats w0 w M ((b, o) :: K)) (X : Chg (· = b) w w') (hb : w'.heap[b']? = some o') (hg : b' = b ∨ w.heap.size ≤ b') : Ats w0 w' M ((b', o') :: K) := by
  obtain ⟨h, h1, H, X0, D, F, k, n⟩ := A
  obtain ⟨kb, kn, kg⟩ := k _ (List.mem_cons_self ..)
  simp only at kb kn kg
  have lt := reps_lt H
  have lk : ∀ q ∈ K, q.1 < w.heap.size := fun q hq => blk_lt (k q (List.mem_cons_of_mem _ hq)).1
  rw [List.map_cons, List.nodup_cons] at n
  refine ⟨h, h1, fun x hx => (H x hx).chg X fun c hc e => kn (List.mem_flatMap.2 ⟨x, hx, e ▸ hc⟩), X0.trans' X (fun i hi e => by omega), D, F, fun q hq => ?_, ?_⟩
  · rcases List.mem_cons.1 hq with rfl | hq
    · refine ⟨hb, fun hf => ?_, ?_⟩
      · rcases hg with rfl | hg
        · exact kn hf
        · have := lt _ hf; simp only at this; omega
      · rcases hg with rfl | hg
        · exact kg
        · exact Nat.le_trans X0.size hg
    · refine ⟨X.blk (k q (List.mem_cons_of_mem _ hq)).1 fun e => n.1 (List.mem_map.2 ⟨q, hq, e⟩), (k q (List.mem_cons_of_mem _ hq)).2⟩
  · rw [List.map_cons, List.nodup_cons]
    refine ⟨fun hm => ?_, n.2⟩
    obtain ⟨q, hq, e⟩ := List.mem_map.1 hm
    rcases hg with rfl | hg
    · exact n.1 (List.mem_map.2 ⟨q, hq, e⟩)
    · have := lk q hq; simp only at e; omega

/-- A slice made by appending, and its block: R. -/
def RowG (T : TypeId) (sz : Nat) (R : List (Nat × Obj)) (v : Value) (n : Nat) (xs : List Value) : Prop :=
  (v = .slice none 0 0 ∧ n = 0 ∧ xs = [] ∧ R = []) ∨
  ∃ g cap cur, v = .slice (some ⟨g, 0, none⟩) n cap ∧ R = [(g, .cells cur T)] ∧ n ≤ cap ∧ cap ≤ maxLen ∧ cur.size = cap * sz ∧ cur.toList.take (n * sz) = xs ∧ xs.length = n * sz
theorem Ats.ownsG {w0 w : World} {M : List (Nat × List C)} {K R : List (Nat × Obj)} {T : TypeId} {sz : Nat} {v : Value} {n : Nat} {xs : List Value} (A : Ats w0 w M (R ++ K)) (h : RowG T sz R v n xs) : w.ownsRow w0.heap.size T sz v n xs := by
  rcases h with ⟨rfl, rfl, rfl, rfl⟩ | ⟨g, cap, cur, rfl, rfl, h1, h2, h3, h4, h5⟩
  · exact World.ownsRow_nil _ _ _ _
  · exact ⟨h5, .inr ⟨g, cap, cur, rfl, A.box_ge (g, .cells cur T) (List.mem_cons_self ..), A.box (g, .cells cur T) (List.mem_cons_self ..), h1, h2, h3, h4⟩⟩
theorem Ats.grownG {w0 w w' : World} {M : List (Nat × List C)} {K R : List (Nat × Obj)} {T : TypeId} {sz : Nat} {v v' : Value} {n m : Nat} {xs xs' : List Value} (A : Ats w0 w M (R ++ K)) (h : RowG T sz R v n xs)
    (hown : w'.ownsRow w0.heap.size T sz v' (n + m) xs') (hgr : w.grownBy w' v.ownBlock) (hob : v'.ownBlock = v.ownBlock ∨ v'.ownBlock = some w.heap.size) (hm : 0 < m) :
    ∃ R', RowG T sz R' v' (n + m) xs' ∧ Ats w0 w' M (R' ++ K) := by
  obtain ⟨hl, ⟨rfl, h0⟩ | ⟨g', cap', cur', rfl, hg0, hg', c1, c2, c3, c4⟩⟩ := hown
  · omega
  refine ⟨[(g', .cells cur' T)], .inr ⟨g', cap', cur', rfl, rfl, c1, c2, c3, c4, hl⟩, ?_⟩
  rcases h with ⟨rfl, rfl, rfl, rfl⟩ | ⟨g, cap, cur, rfl, rfl, -⟩
  · have C1 : Chg NoB w w' := Chg.grown (Chg.refl NoB w) hgr (fun k hk => by simp [Value.ownBlock] at hk)
    refine A.got C1 hg' ?_
    rcases hob with e | e
    · simp [Value.ownBlock] at e
    · simp [Value.ownBlock] at e; omega
  · have C1 : Chg (· = g) w w' := Chg.grown (Chg.refl (· = g) w) hgr (fun k hk => by simp [Value.ownBlock] at hk; exact .inl hk.symm)
    refine Ats.renewG A C1 hg' ?_
    rcases hob with e | e
    · simp [Value.ownBlock] at e; exact .inl e
    · simp [Value.ownBlock] at e; exact .inr (by omega)
theorem RowG.shape {T : TypeId} {sz : Nat} {R : List (Nat × Obj)} {v : Value} {n : Nat} {xs : List Value} (h : RowG T sz R v n xs) (hn : 0 < n) :
    ∃ g cap cur, v = .slice (some ⟨g, 0, none⟩) n cap ∧ R = [(g, .cells cur T)] ∧ ∀ i, i < n * sz → cur[i]? = xs[i]? := by
  rcases h with ⟨-, h0, -⟩ | ⟨g, cap, cur, h1, h2, -, -, -, h3, -⟩
  · omega
  · exact ⟨g, cap, cur, h1, h2, fun i hi => by rw [← h3, List.getElem?_take_of_lt hi, Array.getElem?_toList]⟩
end Go.Proofs.Ytpgkjgceldleaaa
/- tympanlaw11.known. -/
namespace Go.Proofs.Ytpgkjgceldleaaa
open Go.RowKit
end Go.Proofs.Ytpgkjgceldleaaa
/- Plain facts on what a heap answers, for the laws. -/
namespace Go.Proofs.Ytpgkjgceldleaaa
open Go.RowKit

theorem used_rep (c : C) (k : Nat) : used (List.replicate k c) = k * c.size := by
  induction k with
  | zero => simp [used]
  | succ k ih =>
    have : used (List.replicate (k + 1) c) = c.size + used (List.replicate k c) := by simp [used, List.replicate_succ]
    rw [this, ih, Nat.succ_mul, Nat.add_comm]
theorem empty_bytes : (⟨#[]⟩ : ByteArray).toList = [] := by
  unfold ByteArray.toList ByteArray.toList.loop
  rfl
theorem add_fits (L : List C) (c : C) (h1 : L.length < 2000) (h2 : used L + c.size ≤ 40000) : makeH L c = (L ++ [c], objOf L c, 0) := by
  have : addE L c = 0 := by unfold addE; rw [if_neg (by omega)]
  simp only [makeH, this, ne_eq, not_true_eq_false, if_false]
theorem add_not (L : List C) (c : C) (h : 2000 ≤ L.length ∨ 40000 - used L < c.size) : makeH L c = (L, O.nil, 5) := by
  have : addE L c = 5 := by unfold addE; rw [if_pos h]
  simp only [makeH, this, ne_eq]
  rw [if_pos (by decide)]
abbrev arr (k : Nat) : C := ⟨false, false, false, List.replicate k nullO, []⟩
theorem arr_size (k : Nat) : (arr k).size = k := by simp [C.size]
theorem room_1 (k : Int) (h0 : 0 ≤ k) (h1 : k ≤ 40000) : arrayH [] k = ([arr k.toNat], ⟨9, false, 0, 0, k, ⟨#[]⟩⟩, 0) := by
  unfold arrayH
  rw [if_neg (by omega), if_neg (by omega), add_fits _ _ (by simp) (by rw [arr_size]; simp [used]; omega)]
  simp [objOf, C.kind, C.size]
  omega
theorem row_item {cur : Array Value} {l : List O} (hc : ∀ i, i < l.length * 6 → cur[i]? = (l.flatMap O.cells)[i]?) {j : Nat} {o : O} (h : l[j]? = some o) :
    cur[j * 6]? = some (.int .i64 o.kind) ∧ cur[j * 6 + 1]? = some (.bool o.exec) ∧ cur[j * 6 + 2]? = some (.int .i64 o.n) ∧ cur[j * 6 + 3]? = some (.int .i64 o.pos) ∧ cur[j * 6 + 4]? = some (.int .i64 o.len) ∧ cur[j * 6 + 5]? = some (.string o.s) := by
  have hj : j < l.length := (List.getElem?_eq_some_iff.1 h).1
  have g : ∀ t, t < 6 → cur[j * 6 + t]? = o.cells[t]? := fun t ht => by
    rw [hc _ (by omega), flat_get O.cells 6 cells_length t ht, h]; rfl
  exact ⟨g 0 (by decide), g 1 (by decide), g 2 (by decide), g 3 (by decide), g 4 (by decide), g 5 (by decide)⟩
theorem rep_size (c : C) (hd : c.text = false) : c.size = c.items.length := by simp [C.size, hd]
/-- An array of one cell: any part within it is an object that may be. -/
theorem find_arr (c : C) (k p z : Int) (ht : c.text = false) (hd : c.dict = false) (hl : (c.items.length : Int) = k) (hk : k ≤ 40000) (hp : 0 ≤ p) (hz : 0 ≤ z) (h : p + z ≤ k) : findE [c] ⟨9, false, 0, p, z, ⟨#[]⟩⟩ = 0 := by
  have hs : c.size = c.items.length := by simp [C.size, ht]
  have hm : mayH [c] ⟨9, false, 0, p, z, ⟨#[]⟩⟩ = true := by
    simp [mayH, held, mayO, eqO, bareO, O.nil, hs, C.kind, ht, hd]
    omega
  simp [findE, hm, held]
theorem part_arr (c : C) (k i n : Int) (ht : c.text = false) (hd : c.dict = false) (hl : (c.items.length : Int) = k) (hk : k ≤ 40000) (h0 : 0 ≤ i) (h1 : 0 ≤ n) (h : n ≤ k - i) :
    partH [c] ⟨9, false, 0, 0, k, ⟨#[]⟩⟩ i n = (⟨9, false, 0, i, n, ⟨#[]⟩⟩, 0) := by
  unfold partH
  rw [find_arr c k 0 k ht hd hl hk (by omega) (by omega) (by omega)]
  simp only [ne_eq, not_true_eq_false, if_false]
  rw [if_neg (by decide), if_neg (by omega)]
  simp
theorem set_arr (c : C) (k p z i : Int) (x : O) (ht : c.text = false) (hd : c.dict = false) (hc : c.locked = false) (hl : (c.items.length : Int) = k) (hk : k ≤ 40000) (hp : 0 ≤ p) (hz : 0 ≤ z) (h : p + z ≤ k) (hi : 0 ≤ i) (hi' : i < z) (hx : mayH [c] x = true) :
    setH [c] ⟨9, false, 0, p, z, ⟨#[]⟩⟩ i x = ([{ c with items := c.items.set (p + i).toNat x }], 0) := by
  unfold setH
  rw [find_arr c k p z ht hd hl hk hp hz h]
  simp [lenOf, atOf, hc, ht, hx]
  omega
theorem items_arr (c : C) (k p z : Int) (ht : c.text = false) (hd : c.dict = false) (hl : (c.items.length : Int) = k) (hk : k ≤ 40000) (hp : 0 ≤ p) (hz : 0 ≤ z) (h : p + z ≤ k) :
    itemsH [c] ⟨9, false, 0, p, z, ⟨#[]⟩⟩ = ((c.items.drop p.toNat).take z.toNat, 0) := by
  unfold itemsH
  rw [find_arr c k p z ht hd hl hk hp hz h]
  simp [lenOf, atOf, ht]
end Go.Proofs.Ytpgkjgceldleaaa
