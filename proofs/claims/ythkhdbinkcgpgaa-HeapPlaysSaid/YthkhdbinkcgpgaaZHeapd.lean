/- Hcp, Hput, Lpt -/
import Derived.Test.YthkhdbinkcgpgaaZHeapc
import Derived.Laws.CopyOwn
import Derived.StillTailTactics
/- The builtin copy between two rows that are known: bytes or objects, overlapping or not. -/
namespace Go.Proofs.Ythkhdbinkcgpgaa
open Go.RowKit

theorem add_off (g o i : Nat) : (⟨g, o, none⟩ : Addr).add i = ⟨g, o + i, none⟩ := by unfold Addr.add; split <;> simp_all
theorem run_store_row (P : Program) (w : World) {g i : Nat} {v : Value} {cur : Array Value} {T : TypeId} {fz : Nat × Nat} (hg : w.heap[g]? = some (.cells cur T fz)) (hf : fz = (0, 0) ∨ cur.size ≤ fz.1) (hi : i < cur.size) (hv : v.oneCell' = true) :
    (store ⟨g, i, none⟩ v).run P w = .ok () (w.setCell ⟨g, i, none⟩ v) := by
  have hfro : w.frozen? ⟨g, i, none⟩ = false := free_at hg hf i hi w (Chg.refl NoB w)
  rw [run_store P w _ v _ hv, cells_of hg]
  simp [hi, hfro]
theorem run_storeCells_row (P : Program) (g o : Nat) (T : TypeId) (fz : Nat × Nat) : ∀ (vs : List Value) (i : Nat) (cur : Array Value) (w : World), w.heap[g]? = some (.cells cur T fz) → (fz = (0, 0) ∨ cur.size ≤ fz.1) → o + i + vs.length ≤ cur.size → (∀ v ∈ vs, v.oneCell' = true) →
    ∃ w', (storeCells ⟨g, o, none⟩ vs i).run P w = .ok () w' ∧ Chg (· = g) w w' ∧ w'.heap[g]? = some (.cells (splice cur.toList (o + i) vs).toArray T fz)
  | [], i, cur, w, hg, _, _, _ => ⟨w, by simp [storeCells], Chg.refl _ _, by simpa [splice] using hg⟩
  | v :: rest, i, cur, w, hg, hf, hl, h1 => by
    have hi : o + i < cur.size := by simp at hl; omega
    obtain ⟨w', r, X, hg'⟩ := run_storeCells_row P g o T fz rest (i + 1) (cur.setIfInBounds (o + i) v) (w.setCell ⟨g, o + i, none⟩ v) (blk_set hg (o + i) v) (by simpa using hf) (by simp at hl ⊢; omega) (fun x hx => h1 x (by simp [hx]))
    refine ⟨w', ?_, ((Chg.refl (· = g) w).setCell (p := ⟨g, o + i, none⟩) (.inl rfl) v).trans X, ?_⟩
    · simp only [storeCells, Sem.run_bind, add_off, run_store_row P w hg hf hi (h1 v (by simp)), Result.andThen_ok, r]
    · rw [hg']
      congr 3
      have e := list_seg_step cur.toList (o + i) v rest (by simp at hl ⊢; omega)
      simpa [splice, Array.toList_setIfInBounds, Nat.add_assoc] using e
/-- copy of as many elements as both have. -/
theorem run_copy_both (P : Program) (w : World) (dT sT ty elem : TypeId) (k g o n dCap : Nat) (a : Addr) (sCap : Nat) (cur : Array Value) (T : TypeId) (fz : Nat × Nat) (cs : List Value)
    (hu : P.underlying dT = some (.slice elem)) (hs : ∀ w, (sizeOf elem).run P w = .ok k w)
    (hg : w.heap[g]? = some (.cells cur T fz)) (hf : fz = (0, 0) ∨ cur.size ≤ fz.1) (hn : cs.length = n * k)
    (hsrc : ∀ j v, cs[j]? = some v → w.cell? (a.add j) = some v) (hfit : o + cs.length ≤ cur.size) (h1 : ∀ v ∈ cs, v.oneCell' = true) :
    ∃ w', (Builtin.copy_ #[dT, sT] ty #[.slice (some ⟨g, o, none⟩) n dCap, .slice (some a) n sCap]).run P w = .ok (goInt n) w' ∧ Chg (· = g) w w' ∧ w'.heap[g]? = some (.cells (splice cur.toList o cs).toArray T fz) := by
  have hl := run_loadCells_list (P := P) w a cs hsrc
  obtain ⟨w', r, X, hg'⟩ := run_storeCells_row P g o T fz cs 0 cur w hg hf (by simpa using hfit) h1
  refine ⟨w', ?_, X, by simpa using hg'⟩
  have hm : Nat.min n n = n := Nat.min_self n
  simp [Builtin.copy_, run_underlying hu, Builtin.lenOf, Builtin.firstCells, hs, hm, ← hn, hl, r]
theorem run_copy_empty (P : Program) (w : World) (dT sT ty elem : TypeId) (k : Nat) (dp sp : Option Addr) (dCap sCap : Nat)
    (hu : P.underlying dT = some (.slice elem)) (hs : ∀ w, (sizeOf elem).run P w = .ok k w) :
    (Builtin.copy_ #[dT, sT] ty #[.slice dp 0 dCap, .slice sp 0 sCap]).run P w = .ok (goInt 0) w := by
  have hm : Nat.min 0 0 = 0 := rfl
  cases dp <;> cases sp <;> simp [Builtin.copy_, run_underlying hu, Builtin.lenOf, Builtin.firstCells, hs, loadCells, loadCellsFrom, storeCells]
/-- A piece of a row, by its address. -/
theorem cut_row (T ST : TypeId) (k : Nat) (hel : Try.prog.elem ST = T) (hun : Try.prog.underlying ST = some (.slice T)) (hsz : ∀ w, (sizeOf T).run Try.prog w = .ok k w)
    {w1 : World} {v : Value} {n : Nat} {xs : List Value} (h : Row w1 T k v n xs) (p z : Int) (hp : 0 ≤ p) (hz : 0 ≤ z) (hpz : p + z ≤ n) :
    ∃ A c', (∀ W, (Instr.slice ST v (some (.int .i64 p)) (some (.int .i64 (p + z))) none).run Try.prog W = .ok (.slice A z.toNat c') W) ∧
      (z = 0 ∨ ∃ g cap cur fz, v = .slice (some ⟨g, 0, none⟩) n cap ∧ A = some ⟨g, p.toNat * k, none⟩ ∧ w1.heap[g]? = some (.cells cur T fz) ∧ (fz = (0, 0) ∨ cur.size ≤ fz.1) ∧ n ≤ cap ∧ cap ≤ maxLen ∧ cur.size = cap * k ∧ cur.toList.take (n * k) = xs) := by
  rcases h.2 with ⟨rfl, hn⟩ | ⟨g, cap, cur, fz, rfl, hcur, hfz, hnc, hcm, hcs, htk⟩
  · have hp0 : p = 0 := by omega
    have hz0 : z = 0 := by omega
    subst hp0; subst hz0
    refine ⟨none, 0, fun W => ?_, .inl rfl⟩
    rw [run_slice_lh (w := W) ST none 0 0 (by rw [hel]; exact hun) .i64 .i64 0 (0 + 0) (by omega) (by omega) (by omega), hel, hsz]
    simp [sliced]
  · refine ⟨if cap = p.toNat then some ⟨g, 0, none⟩ else some ((⟨g, 0, none⟩ : Addr).add (p.toNat * k)), cap - p.toNat, fun W => ?_, ?_⟩
    · rw [run_slice_lh (w := W) ST (some ⟨g, 0, none⟩) _ cap (by rw [hel]; exact hun) .i64 .i64 p (p + z) hp (by omega) (by omega), hel, hsz]
      simp only [Result.andThen_ok, sliced, Option.map_some]
      rw [show (p + z).toNat - p.toNat = z.toNat by omega]
    · by_cases hz0 : z = 0
      · exact .inl hz0
      · refine .inr ⟨g, cap, cur, fz, rfl, ?_, hcur, hfz, hnc, hcm, hcs, htk⟩
        rw [if_neg (by omega), add_off, Nat.zero_add]
theorem take_splice {α : Type} (L : List α) (o m : Nat) (cs : List α) (h : o + cs.length ≤ m) (hm : m ≤ L.length) : (splice L o cs).take m = splice (L.take m) o cs := by
  unfold splice
  have h1 : (L.take o).length = o := by simp; omega
  rw [List.take_append, List.take_append, h1, List.take_of_length_le (l := L.take o) (by omega), List.take_of_length_le (l := cs) (by omega), List.take_take, List.drop_take, Nat.min_eq_left (by omega)]
  congr 3; omega
/-- copy between rows. -/
theorem copy_rows (T ST : TypeId) (k : Nat) (hel : Try.prog.elem ST = T) (hun : Try.prog.underlying ST = some (.slice T)) (hsz : ∀ w, (sizeOf T).run Try.prog w = .ok k w)
    {w1 : World} {v u : Value} {n m : Nat} {xs ys : List Value} (h : Row w1 T k v n xs) (h' : Row w1 T k u m ys) (p q z : Int) (hp : 0 ≤ p) (hq : 0 ≤ q) (hz : 0 ≤ z) (hpz : p + z ≤ n) (hqz : q + z ≤ m) (hone : ∀ x ∈ ys, x.oneCell' = true) :
    ∃ A c B c', (∀ W, (Instr.slice ST v (some (.int .i64 p)) (some (.int .i64 (p + z))) none).run Try.prog W = .ok (.slice A z.toNat c) W) ∧
      (∀ W, (Instr.slice ST u (some (.int .i64 q)) (some (.int .i64 (q + z))) none).run Try.prog W = .ok (.slice B z.toNat c') W) ∧
      ∀ ty W, Chg NoB w1 W → ∃ W', (Builtin.copy_ #[ST, ST] ty #[.slice A z.toNat c, .slice B z.toNat c']).run Try.prog W = .ok (goInt z.toNat) W' ∧ Chg (· ∈ v.ownBlock.toList) W W' ∧
        Row W' T k v n (splice xs (p.toNat * k) ((ys.drop (q.toNat * k)).take (z.toNat * k))) := by
  obtain ⟨A, c, e1, f1⟩ := cut_row T ST k hel hun hsz h p z hp hz hpz
  obtain ⟨B, c', e2, f2⟩ := cut_row T ST k hel hun hsz h' q z hq hz hqz
  refine ⟨A, c, B, c', e1, e2, fun ty W X => ?_⟩
  by_cases hz0 : z = 0
  · subst hz0
    refine ⟨W, run_copy_empty Try.prog W ST ST ty T k A B c c' hun hsz, Chg.refl _ _, ?_⟩
    have e : splice xs (p.toNat * k) ((ys.drop (q.toNat * k)).take ((0 : Int).toNat * k)) = xs := by simp [splice]
    rw [e]; exact h.chg X (fun _ _ e => e)
  · obtain ⟨g, cap, cur, fz, rfl, rfl, hcur, hfz, hnc, hcm, hcs, htk⟩ := f1.resolve_left hz0
    obtain ⟨g', cap', cur', fz', rfl, rfl, hcur', -, hnc', -, hcs', htk'⟩ := f2.resolve_left hz0
    have hxl := h.1
    have hyl := h'.1
    have hqk : q.toNat * k + z.toNat * k ≤ m * k := by rw [← Nat.add_mul]; exact Nat.mul_le_mul_right k (by omega)
    have hpk : p.toNat * k + z.toNat * k ≤ n * k := by rw [← Nat.add_mul]; exact Nat.mul_le_mul_right k (by omega)
    have hnk : n * k ≤ cap * k := Nat.mul_le_mul_right k hnc
    have hcl : ((ys.drop (q.toNat * k)).take (z.toNat * k)).length = z.toNat * k := by simp; omega
    have hc1 := X.blk hcur id
    have hc2 := X.blk hcur' id
    obtain ⟨W', r, Y, hg⟩ := run_copy_both Try.prog W ST ST ty T k g (p.toNat * k) z.toNat c ⟨g', q.toNat * k, none⟩ c' cur T fz ((ys.drop (q.toNat * k)).take (z.toNat * k)) hun hsz hc1 hfz hcl
      (fun j x hj => by
        rw [List.getElem?_take] at hj
        split at hj
        · rename_i hjz
          rw [List.getElem?_drop, ← htk', List.getElem?_take, if_pos (by omega)] at hj
          rw [add_off, cells_of hc2, ← Array.getElem?_toList]; exact hj
        · simp at hj)
      (by rw [hcl]; omega) (fun x hx => hone x (List.mem_of_mem_drop (List.mem_of_mem_take hx)))
    refine ⟨W', r, Y.mono (fun i _ e => by simp [Value.ownBlock, e]), ?_⟩
    have hsl : (splice cur.toList (p.toNat * k) ((ys.drop (q.toNat * k)).take (z.toNat * k))).length = cur.size := by
      rw [length_splice _ _ _ (by rw [hcl]; simp; omega)]; simp
    refine ⟨by rw [length_splice _ _ _ (by rw [hcl]; omega)]; exact hxl, .inr ⟨g, cap, _, fz, rfl, hg, ?_, hnc, hcm, by simpa using hsl.trans hcs, ?_⟩⟩
    · exact hfz.imp id (fun e => by simpa [hsl] using e)
    · simp only
      rw [take_splice _ _ _ _ (by rw [hcl]; omega) (by simp; omega), htk]
/-- copy in a walk, its run known. -/
theorem wpList_copy_known {P : Program} (w : World) {ops : Array Oper} {rest : List Oper} {o : Oper} {a : Act} {Q : Exit → Act → World → Prop} (hgd : o.guard = none) (d s : Operand) (t t' : TypeId)
    (ho : o.op = .call { callee := .builtin .copy, args := #[d, s], argTypes := #[t, t'] }) (v u : Value) (hd : a.eval d = v) (hs : a.eval s = u) {v' : Value} {w' : World}
    (hr : (Builtin.copy_ #[t, t'] o.type #[v, u]).run P w = .ok v' w') (h : wpList P ops Q rest (a.put o.dst v') w') : wpList P ops Q (o :: rest) a w := by
  refine wpList_plain hgd fun K hK => ?_
  unfold Oper.wp execOp
  simp only [ho, resolve, invoke, builtin, Sem.run_bind, Sem.run_pure, Result.andThen_ok, List.map_toArray, List.map_cons, List.map_nil, hd, hs, hr]
  exact hK _ _ h
/-- The bytes of a text are written over. -/
theorem Next.bytes {w w' w'' : World} {hp : Nat} {slv : Value} {L : List PC} (H : HeapRep w ⟨hp, slv, L⟩) (X : Chg NoB w w') {N : Nat} (hN : N < L.length) (ht : L[N].c.text = true)
    (hc : Chg (· ∈ L[N].sl.ownBlock.toList) w' w'') (bs : List UInt8) (hl : bs.length = L[N].c.bytes.length) (hr : Row w'' 5 1 L[N].sl L[N].c.bytes.length (bs.map vu8)) :
    Next w ⟨hp, slv, L⟩ w'' ((L.map PC.c).set N { L[N].c with bytes := bs }) := by
  have H' := H.pure X
  have hc' : Chg (· ∈ L[N].foot) w' w'' := hc.mono (fun i _ e => by simp only [PC.foot, List.mem_cons]; exact .inr e)
  have hin : ∀ b ∈ L[N].foot, b ∈ HS.foot ⟨hp, slv, L⟩ := fun b hb => by simp only [HS.foot, List.mem_cons, List.mem_append, List.mem_flatMap]; exact .inr (.inr ⟨_, List.getElem_mem hN, hb⟩)
  refine ⟨⟨hp, slv, L.set N { L[N] with c := { L[N].c with bytes := bs } }⟩, rfl, by simp [HS.l], H'.update hN _ hc' ?_ rfl rfl rfl (by simp [C.size, hl]),
    (X.mono (fun _ _ e => e.elim)).trans (hc'.mono (fun i _ hi => hin i hi)), fun i hb => .inl ?_⟩
  · have hok := H'.cell _ (List.getElem_mem hN)
    have hp0 : ¬ L[N].p ∈ L[N].sl.ownBlock.toList := by
      intro e
      have := H.apart
      simp only [HS.foot, List.nodup_cons, List.nodup_append] at this
      have h2 := (List.pairwise_flatMap.1 this.2.2.1).1 _ (List.getElem_mem hN)
      simp only [PC.foot, List.pairwise_cons] at h2
      exact h2.1 _ e rfl
    unfold PC.ok at hok ⊢
    simp only [ht, if_true] at hok ⊢
    obtain ⟨q1, q2, q3⟩ := hok
    exact ⟨hc.blk q1 hp0, by rw [hl]; exact hr, q3⟩
  · rw [foot_set hp slv L N { L[N] with c := { L[N].c with bytes := bs } } hN rfl rfl] at hb; exact hb
/-- The items of a row are written over. -/
theorem Next.items {w w' w'' : World} {hp : Nat} {slv : Value} {L : List PC} (H : HeapRep w ⟨hp, slv, L⟩) (X : Chg NoB w w') {N : Nat} (hN : N < L.length) (ht : L[N].c.text = false)
    (hc : Chg (· ∈ L[N].sl.ownBlock.toList) w' w'') (os : List O) (hl : os.length = L[N].c.items.length) (hr : Row w'' 24 6 L[N].sl L[N].c.items.length (os.flatMap O.cells)) :
    Next w ⟨hp, slv, L⟩ w'' ((L.map PC.c).set N { L[N].c with items := os }) := by
  have H' := H.pure X
  have hc' : Chg (· ∈ L[N].foot) w' w'' := hc.mono (fun i _ e => by simp only [PC.foot, List.mem_cons]; exact .inr e)
  have hin : ∀ b ∈ L[N].foot, b ∈ HS.foot ⟨hp, slv, L⟩ := fun b hb => by simp only [HS.foot, List.mem_cons, List.mem_append, List.mem_flatMap]; exact .inr (.inr ⟨_, List.getElem_mem hN, hb⟩)
  refine ⟨⟨hp, slv, L.set N { L[N] with c := { L[N].c with items := os } }⟩, rfl, by simp [HS.l], H'.update hN _ hc' ?_ rfl rfl rfl (by simp [C.size, hl]),
    (X.mono (fun _ _ e => e.elim)).trans (hc'.mono (fun i _ hi => hin i hi)), fun i hb => .inl ?_⟩
  · have hok := H'.cell _ (List.getElem_mem hN)
    have hp0 : ¬ L[N].p ∈ L[N].sl.ownBlock.toList := by
      intro e
      have := H.apart
      simp only [HS.foot, List.nodup_cons, List.nodup_append] at this
      have h2 := (List.pairwise_flatMap.1 this.2.2.1).1 _ (List.getElem_mem hN)
      simp only [PC.foot, List.pairwise_cons] at h2
      exact h2.1 _ e rfl
    unfold PC.ok at hok ⊢
    simp only [ht, if_false, Bool.false_eq_true] at hok ⊢
    obtain ⟨q1, q2, q3⟩ := hok
    exact ⟨hc.blk q1 hp0, by rw [hl]; exact hr, q3⟩
  · rw [foot_set hp slv L N { L[N] with c := { L[N].c with items := os } } hN rfl rfl] at hb; exact hb
end Go.Proofs.Ythkhdbinkcgpgaa
/- Walk: Put. -/
namespace Go.Proofs.Ythkhdbinkcgpgaa
open Go.RowKit

/-- What Put answers, and leaves. -/
def putH (L : List C) (o : O) (i : Int) (q : O) : List C × Int :=
  if findE L o ≠ 0 then (L, findE L o)
  else if findE L q ≠ 0 then (L, findE L q)
  else if o.kind = 10 ∨ o.kind ≠ q.kind then (L, 6)
  else match L[o.n.toNat]?, L[q.n.toNat]? with
    | some c, some d =>
      if ¬ (0 ≤ i ∧ 0 ≤ lenOf d q ∧ i ≤ lenOf c o ∧ lenOf d q ≤ lenOf c o - i) then (L, 12)
      else if c.locked then (L, 1)
      else if c.text then (L.set o.n.toNat { c with bytes := splice c.bytes (atOf o + i).toNat ((d.bytes.drop (atOf q).toNat).take (lenOf d q).toNat) }, 0)
      else (L.set o.n.toNat { c with items := splice c.items (atOf o + i).toNat ((d.items.drop (atOf q).toNat).take (lenOf d q).toNat) }, 0)
    | _, _ => (L, 0)
theorem splice_map {α β : Type} (f : α → β) (L : List α) (o : Nat) (cs : List α) : (splice L o cs).map f = splice (L.map f) o (cs.map f) := by
  simp [splice]
theorem splice_flat (L M : List O) (o : Nat) : (splice L o M).flatMap O.cells = splice (L.flatMap O.cells) (o * 6) (M.flatMap O.cells) := by
  have hd : ∀ (L : List O) (p : Nat), (L.drop p).flatMap O.cells = (L.flatMap O.cells).drop (p * 6) := fun L p => by
    have := flat_drop_take L p L.length
    rw [List.take_of_length_le (by simp)] at this
    rw [this, List.take_of_length_le]
    rw [List.length_drop, flat_length O.cells 6 cells_length]; omega
  have ht : ∀ (L : List O) (p : Nat), (L.take p).flatMap O.cells = (L.flatMap O.cells).take (p * 6) := fun L p => by
    have := flat_drop_take L 0 p
    simpa using this
  unfold splice
  rw [List.flatMap_append, List.flatMap_append, ht, hd, flat_length O.cells 6 cells_length, Nat.add_mul]

set_option maxRecDepth 100000 in
set_option maxHeartbeats 4000000 in
theorem put_any (h : HS) (o : O) (i : Int) (q : O) (w : World) (H : HeapRep w h) :
   Calls Try.prog 13 #[ptr h.hp, o.val, .int .i64 i, q.val] w fun e w' => e = .returned (.int .i64 (putH h.l o i q).2) ∧ Next w h w' (putH h.l o i q).1 := by
  obtain ⟨hp, slv, L⟩ := h
  obtain ⟨k, ex, n, a, l, s⟩ := o
  obtain ⟨k', ex', n', a', l', s'⟩ := q
  by_cases hE : findE (HS.l ⟨hp, slv, L⟩) ⟨k, ex, n, a, l, s⟩ ≠ 0
  · have hs : putH (HS.l ⟨hp, slv, L⟩) ⟨k, ex, n, a, l, s⟩ i ⟨k', ex', n', a', l', s'⟩ = (L.map PC.c, findE (HS.l ⟨hp, slv, L⟩) ⟨k, ex, n, a, l, s⟩) := by simp [putH, hE]
    rw [hs]
    have hb : (findE (HS.l ⟨hp, slv, L⟩) ⟨k, ex, n, a, l, s⟩ != 0) = true := by simpa using hE
    have FB := fun w' (H' : HeapRep w' ⟨hp, slv, L⟩) => find_bad ⟨hp, slv, L⟩ ⟨k, ex, n, a, l, s⟩ w' H' hE
    generalize findE (HS.l ⟨hp, slv, L⟩) ⟨k, ex, n, a, l, s⟩ = fe at *
    go_enter Try.func13, Try.ntmps13
    go_wp2_with fail
    refine (FB _ (H.pure (((Chg.refl NoB w).alloc _).alloc _))).mono ?_
    rintro e w1 ⟨rfl, hb1⟩
    have hB0 := hb1.blk (blk_alloc (blk_new w _) _) id
    have hB1 := hb1.blk (blk_new1 w _ _) id
    have H1 := (H.pure (((Chg.refl NoB w).alloc _).alloc _)).pure hb1
    have XW := (((Chg.refl NoB w).alloc _).alloc _).pure hb1
    clear hb1
    go_wp2
    go_ret
    refine ⟨rfl, Next.same H ?_⟩
    (repeat' (first | with_reducible assumption | with_reducible refine Chg.alloc ?_ _ | with_reducible refine Chg.drew ?_ | with_reducible refine Chg.drewN ?_ _ | with_reducible refine Chg.setCell ?_ (Or.inr ?_) _ | exact Nat.le_refl _ | exact Nat.le_add_right _ _ | (simp; done) | (simp; omega)))
  simp only [ne_eq, Decidable.not_not] at hE
  obtain ⟨hn, hok, hx, hc, hk, hat, hle, hsz, -⟩ := findE_good H hE
  have hsm := cell_small H hx
  have FG := fun w' (H' : HeapRep w' ⟨hp, slv, L⟩) => find_good ⟨hp, slv, L⟩ ⟨k, ex, n, a, l, s⟩ w' H' hE hn
  simp only at hok hx hle hsz hsm FG hn hk
  by_cases hE' : findE (HS.l ⟨hp, slv, L⟩) ⟨k', ex', n', a', l', s'⟩ ≠ 0
  · have hs : putH (HS.l ⟨hp, slv, L⟩) ⟨k, ex, n, a, l, s⟩ i ⟨k', ex', n', a', l', s'⟩ = (L.map PC.c, findE (HS.l ⟨hp, slv, L⟩) ⟨k', ex', n', a', l', s'⟩) := by simp [putH, hE, hE']
    rw [hs]
    have hb : (findE (HS.l ⟨hp, slv, L⟩) ⟨k', ex', n', a', l', s'⟩ != 0) = true := by simpa using hE'
    have FB := fun w' (H' : HeapRep w' ⟨hp, slv, L⟩) => find_bad ⟨hp, slv, L⟩ ⟨k', ex', n', a', l', s'⟩ w' H' hE'
    generalize findE (HS.l ⟨hp, slv, L⟩) ⟨k', ex', n', a', l', s'⟩ = fe at *
    obtain ⟨u, v, huv⟩ := (L[n.toNat]).ptrs_eq
    have hval : (L[n.toNat]).val = .agg #[.pointer u, .pointer v] := by unfold PC.val; rw [huv]
    rw [hval] at FG
    clear hval huv hs hE hc hk hat hle hsz hok
    generalize atOf ⟨k, ex, n, a, l, s⟩ = p at *
    generalize lenOf (L[n.toNat]).c ⟨k, ex, n, a, l, s⟩ = z at *
    go_enter Try.func13, Try.ntmps13
    go_wp2_with fail
    refine (FG _ (H.pure (((Chg.refl NoB w).alloc _).alloc _))).mono ?_
    rintro e w1 ⟨rfl, hb1⟩
    have hB0 := hb1.blk (blk_alloc (blk_new w _) _) id
    have hB1 := hb1.blk (blk_new1 w _ _) id
    have H1 := (H.pure (((Chg.refl NoB w).alloc _).alloc _)).pure hb1
    have XW := (((Chg.refl NoB w).alloc _).alloc _).pure hb1
    clear hb1
    have R1 := cells_of (blk_alloc hB1 (.cells #[.pointer u, .pointer v] 78))
    clear FG
    go_wp2_with fail
    refine (FB _ (H1.pure ((Chg.refl NoB w1).alloc _))).mono ?_
    rintro e w2 ⟨rfl, hb2⟩
    have XW2 : Chg NoB w w2 := Chg.pure (by (repeat' (first | with_reducible assumption | with_reducible refine Chg.alloc ?_ _ | with_reducible refine Chg.drew ?_ | with_reducible refine Chg.drewN ?_ _ | with_reducible refine Chg.setCell ?_ (Or.inr ?_) _ | exact Nat.le_refl _ | exact Nat.le_add_right _ _ | (simp; done) | (simp; omega)))) hb2
    clear FB R1
    go_wp2
    go_ret
    refine ⟨rfl, Next.same H ?_⟩
    (repeat' (first | with_reducible assumption | with_reducible refine Chg.alloc ?_ _ | with_reducible refine Chg.drew ?_ | with_reducible refine Chg.drewN ?_ _ | with_reducible refine Chg.setCell ?_ (Or.inr ?_) _ | exact Nat.le_refl _ | exact Nat.le_add_right _ _ | (simp; done) | (simp; omega)))
  simp only [ne_eq, Decidable.not_not] at hE'
  obtain ⟨hn', hok', hx', hc', hk', hat', hle', hsz', -⟩ := findE_good H hE'
  have hsm' := cell_small H hx'
  have FP := fun w' (H' : HeapRep w' ⟨hp, slv, L⟩) => find_good ⟨hp, slv, L⟩ ⟨k', ex', n', a', l', s'⟩ w' H' hE' hn'
  simp only at hok' hx' hle' hsz' hsm' FP hn' hk'
  obtain ⟨x, hxe⟩ : ∃ x, x = L[n.toNat] := ⟨_, rfl⟩
  obtain ⟨p, hpe⟩ : ∃ p, p = atOf ⟨k, ex, n, a, l, s⟩ := ⟨_, rfl⟩
  obtain ⟨z, hze⟩ : ∃ z, z = lenOf x.c ⟨k, ex, n, a, l, s⟩ := ⟨_, rfl⟩
  obtain ⟨y, hye⟩ : ∃ y, y = L[n'.toNat] := ⟨_, rfl⟩
  obtain ⟨r, hre⟩ : ∃ r, r = atOf ⟨k', ex', n', a', l', s'⟩ := ⟨_, rfl⟩
  obtain ⟨m, hme⟩ : ∃ m, m = lenOf y.c ⟨k', ex', n', a', l', s'⟩ := ⟨_, rfl⟩
  have hs : putH (HS.l ⟨hp, slv, L⟩) ⟨k, ex, n, a, l, s⟩ i ⟨k', ex', n', a', l', s'⟩ = (if k = 10 ∨ k ≠ k' then (L.map PC.c, 6)
      else if ¬ (0 ≤ i ∧ 0 ≤ m ∧ i ≤ z ∧ m ≤ z - i) then (L.map PC.c, 12)
      else if x.c.locked then (L.map PC.c, 1)
      else if x.c.text then ((L.map PC.c).set n.toNat { x.c with bytes := splice x.c.bytes (p + i).toNat ((y.c.bytes.drop r.toNat).take m.toNat) }, 0)
      else ((L.map PC.c).set n.toNat { x.c with items := splice x.c.items (p + i).toNat ((y.c.items.drop r.toNat).take m.toNat) }, 0)) := by
    subst hxe hze hpe hye hre hme
    simp only at hc hc'; simp only [putH, hE, hE', hc, hc', ne_eq, not_true_eq_false, if_false]
  have HR := Hid.mk' hs
  clear hs hE hc hE' hc'
  rw [← hxe] at hok hx hle hsz hsm FG hk
  rw [← hpe] at hat hsz FG
  rw [← hze] at hle hsz FG
  rw [← hye] at hok' hx' hle' hsz' hsm' FP hk'
  rw [← hre] at hat' hsz' FP
  rw [← hme] at hle' hsz' FP
  clear hpe hze hre hme hye
  have HX : Hid (x = L[n.toNat]) := hxe
  clear hxe
  obtain ⟨u, v, huv⟩ := x.ptrs_eq
  have hval : x.val = .agg #[.pointer u, .pointer v] := by unfold PC.val; rw [huv]
  obtain ⟨u', v', huv'⟩ := y.ptrs_eq
  have hval' : y.val = .agg #[.pointer u', .pointer v'] := by unfold PC.val; rw [huv']
  rw [hval] at FG
  rw [hval'] at FP
  have KL := fun w (h : x.ok w) => locked_any x w h
  rw [hval] at KL
  clear hval hval'
  have HK := Hid.mk' hk
  have HK' := Hid.mk' hk'
  clear hk hk'
  have HU := Hid.mk' huv
  have HV := Hid.mk' huv'
  clear huv huv'
  go_enter Try.func13, Try.ntmps13
  go_wp2_with fail
  refine (FG _ (H.pure (((Chg.refl NoB w).alloc _).alloc _))).mono ?_
  rintro e w1 ⟨rfl, hb1⟩
  have hB0 := hb1.blk (blk_alloc (blk_new w _) _) id
  have hB1 := hb1.blk (blk_new1 w _ _) id
  have H1 := (H.pure (((Chg.refl NoB w).alloc _).alloc _)).pure hb1
  have XW := (((Chg.refl NoB w).alloc _).alloc _).pure hb1
  clear hb1
  have R1 := cells_of (blk_alloc hB1 (.cells #[.pointer u, .pointer v] 78))
  clear FG
  go_wp2_with fail
  refine (FP _ (H1.pure ((Chg.refl NoB w1).alloc _))).mono ?_
  rintro e w2 ⟨rfl, hb2⟩
  have hBc := hb2.blk (blk_new w1 _) id
  have hBo := hb2.blk (blk_alloc hB0 _) id
  have hBq := hb2.blk (blk_alloc hB1 _) id
  have H2 := (H1.pure ((Chg.refl NoB w1).alloc _)).pure hb2
  have XW2 : Chg NoB w w2 := Chg.pure (by (repeat' (first | with_reducible assumption | with_reducible refine Chg.alloc ?_ _ | with_reducible refine Chg.drew ?_ | with_reducible refine Chg.drewN ?_ _ | with_reducible refine Chg.setCell ?_ (Or.inr ?_) _ | exact Nat.le_refl _ | exact Nat.le_add_right _ _ | (simp; done) | (simp; omega)))) hb2
  clear FP R1 hb2 hB0 hB1 XW H1
  have Rc := Chg.cells (S := NoB) hBc id
  have lc := blk_lt hBc
  have Ro := Chg.cells (S := NoB) hBo id
  have lo := blk_lt hBo
  have Rq := Chg.cells (S := NoB) hBq id
  have lq := blk_lt hBq
  have X := Chg.refl NoB w2
  by_cases hk10 : k = 10
  · have e1 : (k == 10) = true := by simpa using hk10
    clear KL
    subst hk10
    go_wp2
    go_ret
    rw [HR.out, if_pos (by simp)]
    exact ⟨rfl, Next.same H (XW2.alloc _)⟩
  have e1 : (k == 10) = false := by simpa using hk10
  by_cases hkk : k = k'
  rotate_left
  · have e2 : (k != k') = true := by simpa using hkk
    have e3 : (k == k') = false := by simpa using hkk
    clear KL
    go_wp2
    go_ret
    rw [HR.out, if_pos (by simp [hkk])]
    exact ⟨rfl, Next.same H (XW2.alloc _)⟩
  subst hkk
  have HR2 : Hid (putH (HS.l ⟨hp, slv, L⟩) ⟨k, ex, n, a, l, s⟩ i ⟨k, ex', n', a', l', s'⟩ = _) := Hid.mk' (HR.out.trans (if_neg (by simp [hk10])))
  clear HR
  by_cases hi : ¬ (0 ≤ i ∧ 0 ≤ m ∧ i ≤ z ∧ m ≤ z - i)
  · have HD := Hid.mk' (show decide (0 ≤ i ∧ 0 ≤ m ∧ i ≤ z ∧ m ≤ z - i) = false by simpa using hi)
    clear KL
    go_wp2_with fail
    refine (inside2 i m z _ (by omega) (by omega)).mono ?_
    rintro e w3 ⟨rfl, rfl⟩
    rw [HD.out]
    go_wp2
    go_ret
    rw [HR2.out, if_pos hi]
    exact ⟨rfl, Next.same H (XW2.alloc _)⟩
  have HR3 : Hid (putH (HS.l ⟨hp, slv, L⟩) ⟨k, ex, n, a, l, s⟩ i ⟨k, ex', n', a', l', s'⟩ = _) := Hid.mk' (HR2.out.trans (if_neg hi))
  clear HR2
  simp only [Decidable.not_not] at hi
  have HD := Hid.mk' (show decide (0 ≤ i ∧ 0 ≤ m ∧ i ≤ z ∧ m ≤ z - i) = true by simpa using hi)
  obtain ⟨i0, m0, i1, m1⟩ := hi
  by_cases hlk : x.c.locked = true
  · go_wp2_with fail
    refine (inside2 i m z _ (by omega) (by omega)).mono ?_
    rintro e w3 ⟨rfl, rfl⟩
    rw [HD.out]
    go_wp2_with fail
    refine (KL _ ((H2.cell x hx).chg ((Chg.refl NoB w2).alloc _) (fun _ _ e => e))).mono ?_
    rintro e w3 ⟨rfl, hb3⟩
    rw [hlk]
    go_wp2
    go_ret
    rw [HR3.out, if_pos hlk]
    exact ⟨rfl, Next.same H ((XW2.alloc _).pure hb3)⟩
  have hlf : x.c.locked = false := by simpa using hlk
  have HR4 : Hid (putH (HS.l ⟨hp, slv, L⟩) ⟨k, ex, n, a, l, s⟩ i ⟨k, ex', n', a', l', s'⟩ = _) := Hid.mk' (HR3.out.trans (if_neg hlk))
  clear HR3 hlk
  have hA : IntKind.i64.wrap (p + i) = p + i := IntWalk.i64_in _ (by omega)
  have hB : IntKind.i64.wrap (p + i + m) = p + i + m := IntWalk.i64_in _ (by omega)
  have hC : IntKind.i64.wrap (r + m) = r + m := IntWalk.i64_in _ (by omega)
  have hkind : x.c.kind = y.c.kind := HK.out.trans HK'.out.symm
  have XW3 : ∃ w3, w3 = w2.alloc (.cells #[.pointer u', .pointer v'] 78) := ⟨_, rfl⟩
  have hBd := blk_new w2 (.cells #[.pointer u', .pointer v'] 78)
  by_cases ht : x.c.text = true
  · have ht' : y.c.text = true := by
      rcases hy : y.c.text with _ | _
      · simp only [C.kind, ht, hy, if_true, if_false, Bool.false_eq_true] at hkind
        split at hkind <;> omega
      · rfl
    obtain ⟨rfl, rfl⟩ : u = none ∧ v = some ⟨x.p, 0, none⟩ := by
      have := HU.out; simp only [PC.ptrs, ht, if_true, List.cons.injEq, Value.pointer.injEq] at this; exact ⟨this.1.symm, this.2.1.symm⟩
    obtain ⟨rfl, rfl⟩ : u' = none ∧ v' = some ⟨y.p, 0, none⟩ := by
      have := HV.out; simp only [PC.ptrs, ht', if_true, List.cons.injEq, Value.pointer.injEq] at this; exact ⟨this.1.symm, this.2.1.symm⟩
    go_wp2_with fail
    refine (inside2 i m z _ (by omega) (by omega)).mono ?_
    rintro e w3 ⟨rfl, rfl⟩
    rw [HD.out]
    go_wp2_with fail
    refine (KL _ ((H2.cell x hx).chg ((Chg.refl NoB w2).alloc _) (fun _ _ e => e))).mono ?_
    rintro e w3 ⟨rfl, hb3⟩
    rw [hlf]
    clear KL
    have hBc3 := hb3.blk (blk_alloc hBc _) id
    have hBd3 := hb3.blk hBd id
    have H3 := (H2.pure ((Chg.refl NoB w2).alloc _)).pure hb3
    have XW4 : Chg NoB w w3 := (XW2.alloc _).pure hb3
    have okx := H3.cell x hx
    have oky := H3.cell y hx'
    have hdx := okx.head.1 ht
    have hdy := oky.head.1 ht'
    have sx : x.c.size = x.c.bytes.length := by simp [C.size, ht]
    have sy : y.c.size = y.c.bytes.length := by simp [C.size, ht']
    obtain ⟨A, c, B, c', f1, f2, f3⟩ := copy_rows 5 83 1 Try.elemBytes Try.underBytes sizeOf_byte (okx.textRow ht) (oky.textRow ht') (p + i) r m (by omega) (by omega) (by omega) (by omega) (by omega) (vu8_one _)
    clear hb3 hBo hBq hBc hBd H2 XW2 XW3 okx oky
    have Rc3 := Chg.cells (S := NoB) hBc3 id
    have lc3 := blk_lt hBc3
    have Rd3 := Chg.cells (S := NoB) hBd3 id
    have ld3 := blk_lt hBd3
    have Rx3 := Chg.cells (S := NoB) hdx id
    have lx3 := blk_lt hdx
    have Ry3 := Chg.cells (S := NoB) hdy id
    have ly3 := blk_lt hdy
    have X := Chg.refl NoB w3
    go_wp2_with fail
    go_still_tail 24, (by kernel_rfl)
    obtain ⟨W', hr, Y, RW⟩ := f3 3 _ X.drew
    refine wpList_copy_known _ rfl (.tmp 76) (.tmp 86) _ _ rfl _ _ rfl rfl hr ?_
    go_wp2
    go_ret
    rw [HR4.out, if_pos ht]
    have HN := Next.bytes H XW4.drew hn (by rw [← HX.out]; exact ht) (by rw [← HX.out]; exact Y) (splice x.c.bytes (p + i).toNat ((y.c.bytes.drop r.toNat).take m.toNat))
      (by rw [← HX.out, length_splice _ _ _ (by simp; omega)]) (by rw [← HX.out, splice_map, List.map_take, List.map_drop]; simpa using RW)
    rw [← HX.out] at HN
    exact ⟨rfl, HN⟩
  · have htf : x.c.text = false := by simpa using ht
    have htf' : y.c.text = false := by
      rcases hy : y.c.text with _ | _
      · rfl
      · simp only [C.kind, htf, hy, if_true, if_false, Bool.false_eq_true] at hkind
        split at hkind <;> omega
    obtain ⟨rfl, rfl⟩ : u = some ⟨x.p, 0, none⟩ ∧ v = none := by
      have := HU.out; simp only [PC.ptrs, htf, if_false, Bool.false_eq_true, List.cons.injEq, Value.pointer.injEq] at this; exact ⟨this.1.symm, this.2.1.symm⟩
    obtain ⟨rfl, rfl⟩ : u' = some ⟨y.p, 0, none⟩ ∧ v' = none := by
      have := HV.out; simp only [PC.ptrs, htf', if_false, Bool.false_eq_true, List.cons.injEq, Value.pointer.injEq] at this; exact ⟨this.1.symm, this.2.1.symm⟩
    go_wp2_with fail
    refine (inside2 i m z _ (by omega) (by omega)).mono ?_
    rintro e w3 ⟨rfl, rfl⟩
    rw [HD.out]
    go_wp2_with fail
    refine (KL _ ((H2.cell x hx).chg ((Chg.refl NoB w2).alloc _) (fun _ _ e => e))).mono ?_
    rintro e w3 ⟨rfl, hb3⟩
    rw [hlf]
    clear KL
    have hBc3 := hb3.blk (blk_alloc hBc _) id
    have hBd3 := hb3.blk hBd id
    have H3 := (H2.pure ((Chg.refl NoB w2).alloc _)).pure hb3
    have XW4 : Chg NoB w w3 := (XW2.alloc _).pure hb3
    have okx := H3.cell x hx
    have oky := H3.cell y hx'
    have hdx := okx.head.2 htf
    have hdy := oky.head.2 htf'
    have sx : x.c.size = x.c.items.length := by simp [C.size, htf]
    have sy : y.c.size = y.c.items.length := by simp [C.size, htf']
    obtain ⟨A, c, B, c', f1, f2, f3⟩ := copy_rows 24 33 6 Try.elemObjs Try.underObjs sizeOf_obj (okx.itemRow htf) (oky.itemRow htf') (p + i) r m (by omega) (by omega) (by omega) (by omega) (by omega) (flat_one _)
    clear hb3 hBo hBq hBc hBd H2 XW2 XW3 okx oky
    have Rc3 := Chg.cells (S := NoB) hBc3 id
    have lc3 := blk_lt hBc3
    have Rd3 := Chg.cells (S := NoB) hBd3 id
    have ld3 := blk_lt hBd3
    have Rx3 := Chg.cells (S := NoB) hdx id
    have lx3 := blk_lt hdx
    have Ry3 := Chg.cells (S := NoB) hdy id
    have ly3 := blk_lt hdy
    have X := Chg.refl NoB w3
    go_wp2_with fail
    go_still_tail 24, (by kernel_rfl)
    obtain ⟨W', hr, Y, RW⟩ := f3 3 _ X.drew
    refine wpList_copy_known _ rfl (.tmp 101) (.tmp 111) _ _ rfl _ _ rfl rfl hr ?_
    go_wp2
    go_ret
    rw [HR4.out, if_neg ht]
    have HN := Next.items H XW4.drew hn (by rw [← HX.out]; exact htf) (by rw [← HX.out]; exact Y) (splice x.c.items (p + i).toNat ((y.c.items.drop r.toNat).take m.toNat))
      (by rw [← HX.out, length_splice _ _ _ (by simp; omega)]) (by rw [← HX.out, splice_flat, flat_drop_take]; exact RW)
    rw [← HX.out] at HN
    exact ⟨rfl, HN⟩
end Go.Proofs.Ythkhdbinkcgpgaa
/- Put, on a heap that a law made; and plain facts on the first cell of a heap. -/
namespace Go.Proofs.Ythkhdbinkcgpgaa
open Go.RowKit

theorem at_put {w0 w : World} {hp : Nat} {L : List C} {M : List (Nat × List C)} {K : List (Nat × Obj)} (A : Ats w0 w ((hp, L) :: M) K) (o : O) (i : Int) (q : O) {L' : List C} {e : Int} (hr : putH L o i q = (L', e)) :
    Calls Try.prog 13 #[ptr hp, o.val, .int .i64 i, q.val] w fun r w' => r = .returned (.int .i64 e) ∧ Ats w0 w' ((hp, L') :: M) K :=
  A.does fun h h1 h2 H => by subst h1 h2; have := put_any h o i q w H; rwa [hr] at this

/-- The first cell of a heap: any part within it is an object that may be. -/
theorem find_head (c : C) (r : List C) (kd p z : Int) (hk : c.kind = kd) (hkd : kd = 8 ∨ kd = 9) (hs : c.size ≤ 40000) (hp : 0 ≤ p) (hz : 0 ≤ z) (h : p + z ≤ c.size) : findE (c :: r) ⟨kd, false, 0, p, z, ⟨#[]⟩⟩ = 0 := by
  have hm : mayH (c :: r) ⟨kd, false, 0, p, z, ⟨#[]⟩⟩ = true := by
    rcases hkd with rfl | rfl <;> (simp [mayH, held, mayO, eqO, bareO, O.nil, hk]; omega)
  rcases hkd with rfl | rfl <;> simp [findE, hm, held]
/-- The cell of a text. -/
abbrev txt (l : List UInt8) : C := ⟨true, false, false, [], l⟩
abbrev strO (p z : Int) : O := ⟨8, false, 0, p, z, ⟨#[]⟩⟩
theorem txt_size (l : List UInt8) : (txt l).size = l.length := by simp [C.size]
theorem find_txt (l : List UInt8) (r : List C) (p z : Int) (hs : l.length ≤ 40000) (hp : 0 ≤ p) (hz : 0 ≤ z) (h : p + z ≤ l.length) : findE (txt l :: r) (strO p z) = 0 :=
  find_head _ _ 8 p z (by simp [C.kind]) (.inl rfl) (by rw [txt_size]; exact hs) hp hz (by rw [txt_size]; exact h)
theorem size_toList (s : ByteArray) : s.toList.length = s.size := by rw [ByteArray.toList_eq]; rfl
theorem ofList (s : ByteArray) : (⟨s.toList.toArray⟩ : ByteArray) = s := by rw [ByteArray.toList_eq]
theorem string_new (s : ByteArray) (h : s.size ≤ 200) : stringH [] s = ([txt s.toList], strO 0 s.size, 0) := by
  unfold stringH
  rw [if_neg (by omega), add_fits _ _ (by simp) (by rw [txt_size, size_toList]; simp [used]; omega)]
  simp [objOf, C.kind, C.size, size_toList]
theorem part_txt (l : List UInt8) (r : List C) (k i n : Int) (hl : (l.length : Int) = k) (hk : k ≤ 40000) (h0 : 0 ≤ i) (h1 : 0 ≤ n) (h : n ≤ k - i) : partH (txt l :: r) (strO 0 k) i n = (strO i n, 0) := by
  unfold partH
  rw [find_txt l r 0 k (by omega) (by omega) (by omega) (by omega)]
  simp only [ne_eq, not_true_eq_false, if_false]
  rw [if_neg (by decide), if_neg (by omega)]
  simp
theorem bytes_txt (l : List UInt8) (r : List C) (p z : Int) (hs : l.length ≤ 40000) (hp : 0 ≤ p) (hz : 0 ≤ z) (h : p + z ≤ l.length) : bytesH (txt l :: r) (strO p z) = (⟨((l.drop p.toNat).take z.toNat).toArray⟩, 0) := by
  unfold bytesH
  rw [find_txt l r p z hs hp hz h]
  simp [lenOf, atOf]
theorem bytes_all (l : List UInt8) (r : List C) (k : Int) (hl : (l.length : Int) = k) (hk : k ≤ 40000) : bytesH (txt l :: r) (strO 0 k) = (⟨l.toArray⟩, 0) := by
  rw [bytes_txt l r 0 k (by omega) (by omega) (by omega) (by omega), Int.toNat_zero, List.drop_zero, List.take_of_length_le (by omega)]
theorem set_txt (l : List UInt8) (r : List C) (k i v : Int) (hl : (l.length : Int) = k) (hk : k ≤ 40000) (h0 : 0 ≤ i) (h1 : i < k) (v0 : 0 ≤ v) (v1 : v < 256) :
    setH (txt l :: r) (strO 0 k) i ⟨3, false, v, 0, 0, ⟨#[]⟩⟩ = (txt (l.set i.toNat (UInt8.ofNat v.toNat)) :: r, 0) := by
  unfold setH
  rw [find_txt l r 0 k (by omega) (by omega) (by omega) (by omega)]
  simp [lenOf, atOf]
  rw [if_neg (by omega), if_neg (by omega)]
theorem put_txt (l : List UInt8) (r : List C) (k i p z : Int) (hl : (l.length : Int) = k) (hk : k ≤ 40000) (hp : 0 ≤ p) (hz : 0 ≤ z) (h : p + z ≤ k) (h0 : 0 ≤ i) (h1 : i + z ≤ k) :
    putH (txt l :: r) (strO 0 k) i (strO p z) = (txt (splice l i.toNat ((l.drop p.toNat).take z.toNat)) :: r, 0) := by
  unfold putH
  rw [find_txt l r 0 k (by omega) (by omega) (by omega) (by omega), find_txt l r p z (by omega) hp hz (by omega)]
  simp only [ne_eq, not_true_eq_false, if_false, or_false]
  rw [if_neg (by decide)]
  simp [lenOf, atOf]
  omega
/-- A locked array. -/
theorem find_row (c : C) (k p z : Int) (ht : c.text = false) (hd : c.dict = false) (hl : (c.items.length : Int) = k) (hk : k ≤ 40000) (hp : 0 ≤ p) (hz : 0 ≤ z) (h : p + z ≤ k) : findE [c] ⟨9, false, 0, p, z, ⟨#[]⟩⟩ = 0 :=
  find_arr c k p z ht hd hl hk hp hz h
theorem lock_arr (c : C) (k p z : Int) (ht : c.text = false) (hd : c.dict = false) (hl : (c.items.length : Int) = k) (hk : k ≤ 40000) (hp : 0 ≤ p) (hz : 0 ≤ z) (h : p + z ≤ k) :
    lockH [c] ⟨9, false, 0, p, z, ⟨#[]⟩⟩ = ([{ c with locked := true }], 0) := by
  unfold lockH
  rw [find_arr c k p z ht hd hl hk hp hz h]
  simp
theorem set_locked (c : C) (k p z i : Int) (x : O) (ht : c.text = false) (hd : c.dict = false) (hc : c.locked = true) (hl : (c.items.length : Int) = k) (hk : k ≤ 40000) (hp : 0 ≤ p) (hz : 0 ≤ z) (h : p + z ≤ k) (hi : 0 ≤ i) (hi' : i < z) :
    setH [c] ⟨9, false, 0, p, z, ⟨#[]⟩⟩ i x = ([c], 1) := by
  unfold setH
  rw [find_arr c k p z ht hd hl hk hp hz h]
  simp [lenOf, hc]
  omega
theorem put_locked (c : C) (k p z r m i : Int) (ht : c.text = false) (hd : c.dict = false) (hc : c.locked = true) (hl : (c.items.length : Int) = k) (hk : k ≤ 40000) (hp : 0 ≤ p) (hz : 0 ≤ z) (h : p + z ≤ k) (hr : 0 ≤ r) (hm : 0 ≤ m) (h' : r + m ≤ k) (hi : 0 ≤ i) (hi' : i + m ≤ z) :
    putH [c] ⟨9, false, 0, p, z, ⟨#[]⟩⟩ i ⟨9, false, 0, r, m, ⟨#[]⟩⟩ = ([c], 1) := by
  unfold putH
  rw [find_arr c k p z ht hd hl hk hp hz h, find_arr c k r m ht hd hl hk hr hm h']
  simp [lenOf, hc]
  omega
end Go.Proofs.Ythkhdbinkcgpgaa
