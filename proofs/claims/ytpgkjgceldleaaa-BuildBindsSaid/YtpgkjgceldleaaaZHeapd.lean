/- Hcp, Hput, Lpt -/
import Derived.Test.YtpgkjgceldleaaaZHeapc
import Derived.Laws.CopyOwn
import Derived.StillTailTactics
/- The builtin copy between two rows that are known: bytes or objects, overlapping or not. -/
namespace Go.Proofs.Ytpgkjgceldleaaa
open Go.RowKit

theorem add_off (g o i : Nat) : (⟨g, o, none⟩ : Addr).add i = ⟨g, o + i, none⟩ := by unfold Addr.add; split <;> simp_all
theorem run_store_row (P : Program) (w : World) {g i : Nat} {v : Value} {cur : Array Value} {T : TypeId} {fz : Nat × Nat} (hg : w.heap[g]? = some (.cells cur T fz)) (hf : fz = (0, 0) ∨ cur.size ≤ fz.1) (hi : i < cur.size) (hv : v.oneCell' = true) :
    (store ⟨g, i, none⟩ v).run P w = .ok () (w.setCell ⟨g, i, none⟩ v) := by
  have hfro : w.frozen? ⟨g, i, none⟩ = false := free_at hg hf i hi w (Chg.refl NoB w)
  rw [run_store P w _ v _ hv, cells_of hg]
  simp [hi, hfro]
theorem run_storeCells_row (P : Program) (g o : Nat) (T : TypeId) (fz : Nat × Nat) : ∀ (vs : List Value) (i : Nat) (cur : Array Value) (w : World), w.heap[g]? = some (.cells cur T fz) → (fz = (0, 0) ∨ cur.size ≤ fz.1) → o + i + vs.length ≤ cur.size → (∀ v ∈ vs, v.oneCell' = true) →
    ∃ w', (storeCells ⟨g, o, none⟩ vs i).run P w = .ok () w' ∧ Chg (· = g) w w' ∧ w'.heap[g]? = some (.cells (splice cur.toList (o + i) vs).toArray T fz)
  | [], i, cur, w, hg, _, _, _ => ⟨w, by simp [storeCells], Chg.refl _ _, by simpa [splice] using hg⟩
  | v :: rest, i, cur, w, hg, hf, hl, h1 => by
    have hi : o + i < cur.size := by simp at hl; omega
    obtain ⟨w', r, X, hg'⟩ := run_storeCells_row P g o T fz rest (i + 1) (cur.setIfInBounds (o + i) v) (w.setCell ⟨g, o + i, none⟩ v) (blk_set hg (o + i) v) (by simpa using hf) (by simp at hl ⊢; omega) (fun x hx => h1 x (by simp [hx]))
    refine ⟨w', ?_, ((Chg.refl (· = g) w).setCell (p := ⟨g, o + i, none⟩) (.inl rfl) v).trans X, ?_⟩
    · simp only [storeCells, Sem.run_bind, add_off, run_store_row P w hg hf hi (h1 v (by simp)), Result.andThen_ok, r]
    · rw [hg']
      congr 3
      have e := list_seg_step cur.toList (o + i) v rest (by simp at hl ⊢; omega)
      simpa [splice, Array.toList_setIfInBounds, Nat.add_assoc] using e
/-- copy of as many elements as both have. -/
theorem run_copy_both (P : Program) (w : World) (dT sT ty elem : TypeId) (k g o n dCap : Nat) (a : Addr) (sCap : Nat) (cur : Array Value) (T : TypeId) (fz : Nat × Nat) (cs : List Value)
    (hu : P.underlying dT = some (.slice elem)) (hs : ∀ w, (sizeOf elem).run P w = .ok k w)
    (hg : w.heap[g]? = some (.cells cur T fz)) (hf : fz = (0, 0) ∨ cur.size ≤ fz.1) (hn : cs.length = n * k)
    (hsrc : ∀ j v, cs[j]? = some v → w.cell? (a.add j) = some v) (hfit : o + cs.length ≤ cur.size) (h1 : ∀ v ∈ cs, v.oneCell' = true) :
    ∃ w', (Builtin.copy_ #[dT, sT] ty #[.slice (some ⟨g, o, none⟩) n dCap, .slice (some a) n sCap]).run P w = .ok (goInt n) w' ∧ Chg (· = g) w w' ∧ w'.heap[g]? = some (.cells (splice cur.toList o cs).toArray T fz) := by
  have hl := run_loadCells_list (P := P) w a cs hsrc
  obtain ⟨w', r, X, hg'⟩ := run_storeCells_row P g o T fz cs 0 cur w hg hf (by simpa using hfit) h1
  refine ⟨w', ?_, X, by simpa using hg'⟩
  have hm : Nat.min n n = n := Nat.min_self n
  simp [Builtin.copy_, run_underlying hu, Builtin.lenOf, Builtin.firstCells, hs, hm, ← hn, hl, r]
theorem run_copy_empty (P : Program) (w : World) (dT sT ty elem : TypeId) (k : Nat) (dp sp : Option Addr) (dCap sCap : Nat)
    (hu : P.underlying dT = some (.slice elem)) (hs : ∀ w, (sizeOf elem).run P w = .ok k w) :
    (Builtin.copy_ #[dT, sT] ty #[.slice dp 0 dCap, .slice sp 0 sCap]).run P w = .ok (goInt 0) w := by
  have hm : Nat.min 0 0 = 0 := rfl
  cases dp <;> cases sp <;> simp [Builtin.copy_, run_underlying hu, Builtin.lenOf, Builtin.firstCells, hs, loadCells, loadCellsFrom, storeCells]
/-- A piece of a row, by its address. -/
theorem cut_row (T ST : TypeId) (k : Nat) (hel : Try.prog.elem ST = T) (hun : Try.prog.underlying ST = some (.slice T)) (hsz : ∀ w, (sizeOf T).run Try.prog w = .ok k w)
    {w1 : World} {v : Value} {n : Nat} {xs : List Value} (h : Row w1 T k v n xs) (p z : Int) (hp : 0 ≤ p) (hz : 0 ≤ z) (hpz : p + z ≤ n) :
    ∃ A c', (∀ W, (Instr.slice ST v (some (.int .i64 p)) (some (.int .i64 (p + z))) none).run Try.prog W = .ok (.slice A z.toNat c') W) ∧
      (z = 0 ∨ ∃ g cap cur fz, v = .slice (some ⟨g, 0, none⟩) n cap ∧ A = some ⟨g, p.toNat * k, none⟩ ∧ w1.heap[g]? = some (.cells cur T fz) ∧ (fz = (0, 0) ∨ cur.size ≤ fz.1) ∧ n ≤ cap ∧ cap ≤ maxLen ∧ cur.size = cap * k ∧ cur.toList.take (n * k) = xs) := by
  rcases h.2 with ⟨rfl, hn⟩ | ⟨g, cap, cur, fz, rfl, hcur, hfz, hnc, hcm, hcs, htk⟩
  · have hp0 : p = 0 := by omega
    have hz0 : z = 0 := by omega
    subst hp0; subst hz0
    refine ⟨none, 0, fun W => ?_, .inl rfl⟩
    rw [run_slice_lh (w := W) ST none 0 0 (by rw [hel]; exact hun) .i64 .i64 0 (0 + 0) (by omega) (by omega) (by omega), hel, hsz]
    simp [sliced]
  · refine ⟨if cap = p.toNat then some ⟨g, 0, none⟩ else some ((⟨g, 0, none⟩ : Addr).add (p.toNat * k)), cap - p.toNat, fun W => ?_, ?_⟩
    · rw [run_slice_lh (w := W) ST (some ⟨g, 0, none⟩) _ cap (by rw [hel]; exact hun) .i64 .i64 p (p + z) hp (by omega) (by omega), hel, hsz]
      simp only [Result.andThen_ok, sliced, Option.map_some]
      rw [show (p + z).toNat - p.toNat = z.toNat by omega]
    · by_cases hz0 : z = 0
      · exact .inl hz0
      · refine .inr ⟨g, cap, cur, fz, rfl, ?_, hcur, hfz, hnc, hcm, hcs, htk⟩
        rw [if_neg (by omega), add_off, Nat.zero_add]
theorem take_splice {α : Type} (L : List α) (o m : Nat) (cs : List α) (h : o + cs.length ≤ m) (hm : m ≤ L.length) : (splice L o cs).take m = splice (L.take m) o cs := by
  unfold splice
  have h1 : (L.take o).length = o := by simp; omega
  rw [List.take_append, List.take_append, h1, List.take_of_length_le (l := L.take o) (by omega), List.take_of_length_le (l := cs) (by omega), List.take_take, List.drop_take, Nat.min_eq_left (by omega)]
  congr 3; omega
/-- copy between rows. -/
theorem copy_rows (T ST : TypeId) (k : Nat) (hel : Try.prog.elem ST = T) (hun : Try.prog.underlying ST = some (.slice T)) (hsz : ∀ w, (sizeOf T).run Try.prog w = .ok k w)
    {w1 : World} {v u : Value} {n m : Nat} {xs ys : List Value} (h : Row w1 T k v n xs) (h' : Row w1 T k u m ys) (p q z : Int) (hp : 0 ≤ p) (hq : 0 ≤ q) (hz : 0 ≤ z) (hpz : p + z ≤ n) (hqz : q + z ≤ m) (hone : ∀ x ∈ ys, x.oneCell' = true) :
    ∃ A c B c', (∀ W, (Instr.slice ST v (some (.int .i64 p)) (some (.int .i64 (p + z))) none).run Try.prog W = .ok (.slice A z.toNat c) W) ∧
      (∀ W, (Instr.slice ST u (some (.int .i64 q)) (some (.int .i64 (q + z))) none).run Try.prog W = .ok (.slice B z.toNat c') W) ∧
      ∀ ty W, Chg NoB w1 W → ∃ W', (Builtin.copy_ #[ST, ST] ty #[.slice A z.toNat c, .slice B z.toNat c']).run Try.prog W = .ok (goInt z.toNat) W' ∧ Chg (· ∈ v.ownBlock.toList) W W' ∧
        Row W' T k v n (splice xs (p.toNat * k) ((ys.drop (q.toNat * k)).take (z.toNat * k))) := by
  obtain ⟨A, c, e1, f1⟩ := cut_row T ST k hel hun hsz h p z hp hz hpz
  obtain ⟨B, c', e2, f2⟩ := cut_row T ST k hel hun hsz h' q z hq hz hqz
  refine ⟨A, c, B, c', e1, e2, fun ty W X => ?_⟩
  by_cases hz0 : z = 0
  · subst hz0
    refine ⟨W, run_copy_empty Try.prog W ST ST ty T k A B c c' hun hsz, Chg.refl _ _, ?_⟩
    have e : splice xs (p.toNat * k) ((ys.drop (q.toNat * k)).take ((0 : Int).toNat * k)) = xs := by simp [splice]
    rw [e]; exact h.chg X (fun _ _ e => e)
  · obtain ⟨g, cap, cur, fz, rfl, rfl, hcur, hfz, hnc, hcm, hcs, htk⟩ := f1.resolve_left hz0
    obtain ⟨g', cap', cur', fz', rfl, rfl, hcur', -, hnc', -, hcs', htk'⟩ := f2.resolve_left hz0
    have hxl := h.1
    have hyl := h'.1
    have hqk : q.toNat * k + z.toNat * k ≤ m * k := by rw [← Nat.add_mul]; exact Nat.mul_le_mul_right k (by omega)
    have hpk : p.toNat * k + z.toNat * k ≤ n * k := by rw [← Nat.add_mul]; exact Nat.mul_le_mul_right k (by omega)
    have hnk : n * k ≤ cap * k := Nat.mul_le_mul_right k hnc
    have hcl : ((ys.drop (q.toNat * k)).take (z.toNat * k)).length = z.toNat * k := by simp; omega
    have hc1 := X.blk hcur id
    have hc2 := X.blk hcur' id
    obtain ⟨W', r, Y, hg⟩ := run_copy_both Try.prog W ST ST ty T k g (p.toNat * k) z.toNat c ⟨g', q.toNat * k, none⟩ c' cur T fz ((ys.drop (q.toNat * k)).take (z.toNat * k)) hun hsz hc1 hfz hcl
      (fun j x hj => by
        rw [List.getElem?_take] at hj
        split at hj
        · rename_i hjz
          rw [List.getElem?_drop, ← htk', List.getElem?_take, if_pos (by omega)] at hj
          rw [add_off, cells_of hc2, ← Array.getElem?_toList]; exact hj
        · simp at hj)
      (by rw [hcl]; omega) (fun x hx => hone x (List.mem_of_mem_drop (List.mem_of_mem_take hx)))
    refine ⟨W', r, Y.mono (fun i _ e => by simp [Value.ownBlock, e]), ?_⟩
    have hsl : (splice cur.toList (p.toNat * k) ((ys.drop (q.toNat * k)).take (z.toNat * k))).length = cur.size := by
      rw [length_splice _ _ _ (by rw [hcl]; simp; omega)]; simp
    refine ⟨by rw [length_splice _ _ _ (by rw [hcl]; omega)]; exact hxl, .inr ⟨g, cap, _, fz, rfl, hg, ?_, hnc, hcm, by simpa using hsl.trans hcs, ?_⟩⟩
    · exact hfz.imp id (fun e => by simpa [hsl] using e)
    · simp only
      rw [take_splice _ _ _ _ (by rw [hcl]; omega) (by simp; omega), htk]
/-- copy in a walk, its run known. -/
theorem wpList_copy_known {P : Program} (w : World) {ops : Array Oper} {rest : List Oper} {o : Oper} {a : Act} {Q : Exit → Act → World → Prop} (hgd : o.guard = none) (d s : Operand) (t t' : TypeId)
    (ho : o.op = .call { callee := .builtin .copy, args := #[d, s], argTypes := #[t, t'] }) (v u : Value) (hd : a.eval d = v) (hs : a.eval s = u) {v' : Value} {w' : World}
    (hr : (Builtin.copy_ #[t, t'] o.type #[v, u]).run P w = .ok v' w') (h : wpList P ops Q rest (a.put o.dst v') w') : wpList P ops Q (o :: rest) a w := by
  refine wpList_plain hgd fun K hK => ?_
  unfold Oper.wp execOp
  simp only [ho, resolve, invoke, builtin, Sem.run_bind, Sem.run_pure, Result.andThen_ok, List.map_toArray, List.map_cons, List.map_nil, hd, hs, hr]
  exact hK _ _ h
/-- The bytes of a text are written over. -/
theorem Next.bytes {w w' w'' : World} {hp : Nat} {slv : Value} {L : List PC} (H : HeapRep w ⟨hp, slv, L⟩) (X : Chg NoB w w') {N : Nat} (hN : N < L.length) (ht : L[N].c.text = true)
    (hc : Chg (· ∈ L[N].sl.ownBlock.toList) w' w'') (bs : List UInt8) (hl : bs.length = L[N].c.bytes.length) (hr : Row w'' 5 1 L[N].sl L[N].c.bytes.length (bs.map vu8)) :
    Next w ⟨hp, slv, L⟩ w'' ((L.map PC.c).set N { L[N].c with bytes := bs }) := by
  have H' := H.pure X
  have hc' : Chg (· ∈ L[N].foot) w' w'' := hc.mono (fun i _ e => by simp only [PC.foot, List.mem_cons]; exact .inr e)
  have hin : ∀ b ∈ L[N].foot, b ∈ HS.foot ⟨hp, slv, L⟩ := fun b hb => by simp only [HS.foot, List.mem_cons, List.mem_append, List.mem_flatMap]; exact .inr (.inr ⟨_, List.getElem_mem hN, hb⟩)
  refine ⟨⟨hp, slv, L.set N { L[N] with c := { L[N].c with bytes := bs } }⟩, rfl, by simp [HS.l], H'.update hN _ hc' ?_ rfl rfl rfl (by simp [C.size, hl]),
    (X.mono (fun _ _ e => e.elim)).trans (hc'.mono (fun i _ hi => hin i hi)), fun i hb => .inl ?_⟩
  · have hok := H'.cell _ (List.getElem_mem hN)
    have hp0 : ¬ L[N].p ∈ L[N].sl.ownBlock.toList := by
      intro e
      have := H.apart
      simp only [HS.foot, List.nodup_cons, List.nodup_append] at this
      have h2 := (List.pairwise_flatMap.1 this.2.2.1).1 _ (List.getElem_mem hN)
      simp only [PC.foot, List.pairwise_cons] at h2
      exact h2.1 _ e rfl
    unfold PC.ok at hok ⊢
    simp only [ht, if_true] at hok ⊢
    obtain ⟨q1, q2, q3⟩ := hok
    exact ⟨hc.blk q1 hp0, by rw [hl]; exact hr, q3⟩
  · rw [foot_set hp slv L N { L[N] with c := { L[N].c with bytes := bs } } hN rfl rfl] at hb; exact hb
/-- The items of a row are written over. -/
theorem Next.items {w w' w'' : World} {hp : Nat} {slv : Value} {L : List PC} (H : HeapRep w ⟨hp, slv, L⟩) (X : Chg NoB w w') {N : Nat} (hN : N < L.length) (ht : L[N].c.text = false)
    (hc : Chg (· ∈ L[N].sl.ownBlock.toList) w' w'') (os : List O) (hl : os.length = L[N].c.items.length) (hr : Row w'' 36 6 L[N].sl L[N].c.items.length (os.flatMap O.cells)) :
    Next w ⟨hp, slv, L⟩ w'' ((L.map PC.c).set N { L[N].c with items := os }) := by
  have H' := H.pure X
  have hc' : Chg (· ∈ L[N].foot) w' w'' := hc.mono (fun i _ e => by simp only [PC.foot, List.mem_cons]; exact .inr e)
  have hin : ∀ b ∈ L[N].foot, b ∈ HS.foot ⟨hp, slv, L⟩ := fun b hb => by simp only [HS.foot, List.mem_cons, List.mem_append, List.mem_flatMap]; exact .inr (.inr ⟨_, List.getElem_mem hN, hb⟩)
  refine ⟨⟨hp, slv, L.set N { L[N] with c := { L[N].c with items := os } }⟩, rfl, by simp [HS.l], H'.update hN _ hc' ?_ rfl rfl rfl (by simp [C.size, hl]),
    (X.mono (fun _ _ e => e.elim)).trans (hc'.mono (fun i _ hi => hin i hi)), fun i hb => .inl ?_⟩
  · have hok := H'.cell _ (List.getElem_mem hN)
    have hp0 : ¬ L[N].p ∈ L[N].sl.ownBlock.toList := by
      intro e
      have := H.apart
      simp only [HS.foot, List.nodup_cons, List.nodup_append] at this
      have h2 := (List.pairwise_flatMap.1 this.2.2.1).1 _ (List.getElem_mem hN)
      simp only [PC.foot, List.pairwise_cons] at h2
      exact h2.1 _ e rfl
    unfold PC.ok at hok ⊢
    simp only [ht, if_false, Bool.false_eq_true] at hok ⊢
    obtain ⟨q1, q2, q3⟩ := hok
    exact ⟨hc.blk q1 hp0, by rw [hl]; exact hr, q3⟩
  · rw [foot_set hp slv L N { L[N] with c := { L[N].c with items := os } } hN rfl rfl] at hb; exact hb
end Go.Proofs.Ytpgkjgceldleaaa
/- Walk: Put. -/
namespace Go.Proofs.Ytpgkjgceldleaaa
open Go.RowKit

/-- What Put answers, and leaves. -/
def putH (L : List C) (o : O) (i : Int) (q : O) : List C × Int :=
  if findE L o ≠ 0 then (L, findE L o)
  else if findE L q ≠ 0 then (L, findE L q)
  else if o.kind = 10 ∨ o.kind ≠ q.kind then (L, 6)
  else match L[o.n.toNat]?, L[q.n.toNat]? with
    | some c, some d =>
      if ¬ (0 ≤ i ∧ 0 ≤ lenOf d q ∧ i ≤ lenOf c o ∧ lenOf d q ≤ lenOf c o - i) then (L, 12)
      else if c.locked then (L, 1)
      else if c.text then (L.set o.n.toNat { c with bytes := splice c.bytes (atOf o + i).toNat ((d.bytes.drop (atOf q).toNat).take (lenOf d q).toNat) }, 0)
      else (L.set o.n.toNat { c with items := splice c.items (atOf o + i).toNat ((d.items.drop (atOf q).toNat).take (lenOf d q).toNat) }, 0)
    | _, _ => (L, 0)
theorem splice_map {α β : Type} (f : α → β) (L : List α) (o : Nat) (cs : List α) : (splice L o cs).map f = splice (L.map f) o (cs.map f) := by
  simp [splice]
theorem splice_flat (L M : List O) (o : Nat) : (splice L o M).flatMap O.cells = splice (L.flatMap O.cells) (o * 6) (M.flatMap O.cells) := by
  have hd : ∀ (L : List O) (p : Nat), (L.drop p).flatMap O.cells = (L.flatMap O.cells).drop (p * 6) := fun L p => by
    have := flat_drop_take L p L.length
    rw [List.take_of_length_le (by simp)] at this
    rw [this, List.take_of_length_le]
    rw [List.length_drop, flat_length O.cells 6 cells_length]; omega
  have ht : ∀ (L : List O) (p : Nat), (L.take p).flatMap O.cells = (L.flatMap O.cells).take (p * 6) := fun L p => by
    have := flat_drop_take L 0 p
    simpa using this
  unfold splice
  rw [List.flatMap_append, List.flatMap_append, ht, hd, flat_length O.cells 6 cells_length, Nat.add_mul]

end Go.Proofs.Ytpgkjgceldleaaa
/- Put, on a heap that a law made; and plain facts on the first cell of a heap. -/
namespace Go.Proofs.Ytpgkjgceldleaaa
open Go.RowKit
/-- The first cell of a heap: any part within it is an object that may be. -/
theorem find_head (c : C) (r : List C) (kd p z : Int) (hk : c.kind = kd) (hkd : kd = 8 ∨ kd = 9) (hs : c.size ≤ 40000) (hp : 0 ≤ p) (hz : 0 ≤ z) (h : p + z ≤ c.size) : findE (c :: r) ⟨kd, false, 0, p, z, ⟨#[]⟩⟩ = 0 := by
  have hm : mayH (c :: r) ⟨kd, false, 0, p, z, ⟨#[]⟩⟩ = true := by
    rcases hkd with rfl | rfl <;> (simp [mayH, held, mayO, eqO, bareO, O.nil, hk]; omega)
  rcases hkd with rfl | rfl <;> simp [findE, hm, held]
/-- The cell of a text. -/
abbrev txt (l : List UInt8) : C := ⟨true, false, false, [], l⟩
abbrev strO (p z : Int) : O := ⟨8, false, 0, p, z, ⟨#[]⟩⟩
theorem txt_size (l : List UInt8) : (txt l).size = l.length := by simp [C.size]
theorem find_txt (l : List UInt8) (r : List C) (p z : Int) (hs : l.length ≤ 40000) (hp : 0 ≤ p) (hz : 0 ≤ z) (h : p + z ≤ l.length) : findE (txt l :: r) (strO p z) = 0 :=
  find_head _ _ 8 p z (by simp [C.kind]) (.inl rfl) (by rw [txt_size]; exact hs) hp hz (by rw [txt_size]; exact h)
theorem size_toList (s : ByteArray) : s.toList.length = s.size := by rw [ByteArray.toList_eq]; rfl
theorem ofList (s : ByteArray) : (⟨s.toList.toArray⟩ : ByteArray) = s := by rw [ByteArray.toList_eq]
theorem string_new (s : ByteArray) (h : s.size ≤ 200) : stringH [] s = ([txt s.toList], strO 0 s.size, 0) := by
  unfold stringH
  rw [if_neg (by omega), add_fits _ _ (by simp) (by rw [txt_size, size_toList]; simp [used]; omega)]
  simp [objOf, C.kind, C.size, size_toList]
theorem part_txt (l : List UInt8) (r : List C) (k i n : Int) (hl : (l.length : Int) = k) (hk : k ≤ 40000) (h0 : 0 ≤ i) (h1 : 0 ≤ n) (h : n ≤ k - i) : partH (txt l :: r) (strO 0 k) i n = (strO i n, 0) := by
  unfold partH
  rw [find_txt l r 0 k (by omega) (by omega) (by omega) (by omega)]
  simp only [ne_eq, not_true_eq_false, if_false]
  rw [if_neg (by decide), if_neg (by omega)]
  simp
theorem bytes_txt (l : List UInt8) (r : List C) (p z : Int) (hs : l.length ≤ 40000) (hp : 0 ≤ p) (hz : 0 ≤ z) (h : p + z ≤ l.length) : bytesH (txt l :: r) (strO p z) = (⟨((l.drop p.toNat).take z.toNat).toArray⟩, 0) := by
  unfold bytesH
  rw [find_txt l r p z hs hp hz h]
  simp [lenOf, atOf]
theorem bytes_all (l : List UInt8) (r : List C) (k : Int) (hl : (l.length : Int) = k) (hk : k ≤ 40000) : bytesH (txt l :: r) (strO 0 k) = (⟨l.toArray⟩, 0) := by
  rw [bytes_txt l r 0 k (by omega) (by omega) (by omega) (by omega), Int.toNat_zero, List.drop_zero, List.take_of_length_le (by omega)]
theorem set_txt (l : List UInt8) (r : List C) (k i v : Int) (hl : (l.length : Int) = k) (hk : k ≤ 40000) (h0 : 0 ≤ i) (h1 : i < k) (v0 : 0 ≤ v) (v1 : v < 256) :
    setH (txt l :: r) (strO 0 k) i ⟨3, false, v, 0, 0, ⟨#[]⟩⟩ = (txt (l.set i.toNat (UInt8.ofNat v.toNat)) :: r, 0) := by
  unfold setH
  rw [find_txt l r 0 k (by omega) (by omega) (by omega) (by omega)]
  simp [lenOf, atOf]
  rw [if_neg (by omega), if_neg (by omega)]
theorem put_txt (l : List UInt8) (r : List C) (k i p z : Int) (hl : (l.length : Int) = k) (hk : k ≤ 40000) (hp : 0 ≤ p) (hz : 0 ≤ z) (h : p + z ≤ k) (h0 : 0 ≤ i) (h1 : i + z ≤ k) :
    putH (txt l :: r) (strO 0 k) i (strO p z) = (txt (splice l i.toNat ((l.drop p.toNat).take z.toNat)) :: r, 0) := by
  unfold putH
  rw [find_txt l r 0 k (by omega) (by omega) (by omega) (by omega), find_txt l r p z (by omega) hp hz (by omega)]
  simp only [ne_eq, not_true_eq_false, if_false, or_false]
  rw [if_neg (by decide)]
  simp [lenOf, atOf]
  omega
/-- A locked array. -/
theorem find_row (c : C) (k p z : Int) (ht : c.text = false) (hd : c.dict = false) (hl : (c.items.length : Int) = k) (hk : k ≤ 40000) (hp : 0 ≤ p) (hz : 0 ≤ z) (h : p + z ≤ k) : findE [c] ⟨9, false, 0, p, z, ⟨#[]⟩⟩ = 0 :=
  find_arr c k p z ht hd hl hk hp hz h
theorem lock_arr (c : C) (k p z : Int) (ht : c.text = false) (hd : c.dict = false) (hl : (c.items.length : Int) = k) (hk : k ≤ 40000) (hp : 0 ≤ p) (hz : 0 ≤ z) (h : p + z ≤ k) :
    lockH [c] ⟨9, false, 0, p, z, ⟨#[]⟩⟩ = ([{ c with locked := true }], 0) := by
  unfold lockH
  rw [find_arr c k p z ht hd hl hk hp hz h]
  simp
theorem set_locked (c : C) (k p z i : Int) (x : O) (ht : c.text = false) (hd : c.dict = false) (hc : c.locked = true) (hl : (c.items.length : Int) = k) (hk : k ≤ 40000) (hp : 0 ≤ p) (hz : 0 ≤ z) (h : p + z ≤ k) (hi : 0 ≤ i) (hi' : i < z) :
    setH [c] ⟨9, false, 0, p, z, ⟨#[]⟩⟩ i x = ([c], 1) := by
  unfold setH
  rw [find_arr c k p z ht hd hl hk hp hz h]
  simp [lenOf, hc]
  omega
theorem put_locked (c : C) (k p z r m i : Int) (ht : c.text = false) (hd : c.dict = false) (hc : c.locked = true) (hl : (c.items.length : Int) = k) (hk : k ≤ 40000) (hp : 0 ≤ p) (hz : 0 ≤ z) (h : p + z ≤ k) (hr : 0 ≤ r) (hm : 0 ≤ m) (h' : r + m ≤ k) (hi : 0 ≤ i) (hi' : i + m ≤ z) :
    putH [c] ⟨9, false, 0, p, z, ⟨#[]⟩⟩ i ⟨9, false, 0, r, m, ⟨#[]⟩⟩ = ([c], 1) := by
  unfold putH
  rw [find_arr c k p z ht hd hl hk hp hz h, find_arr c k r m ht hd hl hk hr hm h']
  simp [lenOf, hc]
  omega
end Go.Proofs.Ytpgkjgceldleaaa
