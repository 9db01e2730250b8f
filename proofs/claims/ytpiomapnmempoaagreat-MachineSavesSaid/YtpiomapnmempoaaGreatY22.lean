/- Parts of the proof: Tal, Teq. -/
import Derived.Test.YtpiomapnmempoaaGreatY21
namespace Go.Proofs.YtpiomapnmempoaaGreat
open Go.RowKit
variable {w w' : World} {v : Value}
def allW : Nat → List UInt8 → Nat → List Tok → Int × List Tok × Nat
 | 0, _, _, acc => (0, acc, 0)
 | f + 1, l, a, acc =>
  if (nextF l).1 ≠ 0 then ((nextF l).1, [], a + (nextF l).2.2.1 + (nextF l).2.2.2)
  else if (tokAt a l).kind = 0 then (0, acc, 0)
  else if acc.length = 4000 then (5, [], a + (nextF l).2.2.1)
  else allW f (l.drop ((nextF l).2.2.1 + (nextF l).2.2.2)) (a + (nextF l).2.2.1 + (nextF l).2.2.2) (acc ++ [tokAt a l])
def allF (l : List UInt8) : Int × List Tok × Nat := if 20000 < l.length then (5, [], 0) else allW (l.length + 1) l 0 []
def Tok.cells (t : Tok) : List Value := [.int .i64 t.kind, .int .i64 t.n, .string t.s, .int .i64 t.pos]
def toksV (l : List Tok) : List Value := l.flatMap Tok.cells
def AllEnd (w : World) (R : Int × List Tok × Nat) (r : Ending) (w' : World) : Prop :=
 ∃ v, r = .returned (.tuple #[v, .int .i64 (R.2.2 : Nat), .int .i64 R.1]) ∧ Chg NoB w w' ∧ w'.ownsRow w.heap.size 73 4 v R.2.1.length (toksV R.2.1) ∧ (R.2.1 = [] → v = .slice none 0 0)
theorem infoTok : (Tryz.prog.info? 73).map (fun i => (i.zero, i.size, i.bytes)) = some (some (.agg #[.int .i64 0, .int .i64 0, .string ⟨#[]⟩, .int .i64 0]), 4, 40) := by kernel_rfl
theorem underToks : Tryz.prog.underlying 27 = some (.slice 73) := by kernel_rfl
theorem cells_newT (w : World) (o : Obj) (cs : List Value) (t : TypeId) : ∀ j u, cs[j]? = some u → ((w.alloc o).alloc (.cells cs.toArray t)).cell? ((⟨w.heap.size + 1, 0, none⟩ : Addr).add j) = some u := fun j u hj => by
 have := cells_of (blk_new1 w o (.cells cs.toArray t)) j; rw [add_z, this]; simpa using hj
set_option maxRecDepth 100000 in
set_option maxHeartbeats 2000000 in
theorem all_any (s : ByteArray) (hs : s.size ≤ 1000000) (w : World) :
 Calls Tryz.prog 15 #[.string s] w (AllEnd w (allF s.toList)) := by
 obtain ⟨R, hR⟩ : ∃ R, allF s.toList = R := ⟨_, rfl⟩
 rw [hR]
 have hA : R = if 20000 < s.toList.length then (5, [], 0) else allW (s.toList.length + 1) s.toList 0 [] := hR.symm
 rw [size_lst] at hA; clear hR; obtain ⟨i0, hi, hz0, hz1, hz2⟩ := info_parts infoTok
 by_cases c : 20000 < s.size
 · have HR := hid' (hA.trans (if_pos c))
   have c' : 20000 < (s.size : Int) := by omega
   clear hA c; go_enter Tryz.func15, Tryz.ntmps15
   go_wp2_with fail
   go_ret3; unfold AllEnd; rw [HR.out]; exact ⟨_, rfl, Chg.refl _ _, World.ownsRow_nil _ _ _ _, fun _ => rfl⟩
 have HR := hid' (hA.trans (if_neg c))
 have c' : (s.size : Int) ≤ 20000 := by omega
 clear hA; go_enter Tryz.func15, Tryz.ntmps15
 go_wp2_with fail
 go_loopw [2, 3] (fun lv av wr => ∃ (a f : Nat) (acc : List Tok), a ≤ s.size ∧ s.size - a < f ∧ av = .int .i64 a ∧ acc.length ≤ 4000 ∧ R = allW f (s.toList.drop a) a acc ∧ Chg NoB w wr ∧ wr.ownsRow w.heap.size 73 4 lv acc.length (toksV acc) ∧ (acc = [] → lv = .slice none 0 0)) (fun _ av _ => s.size - (intOf av).toNat)
 case atStart => exact ⟨0, s.size + 1, [], by omega, by omega, rfl, by simp, HR.out, Chg.refl _ _, World.ownsRow_nil _ _ _ _, fun _ => rfl⟩
 case round =>
  obtain ⟨a, f, acc, ha, hf, rfl, hal, hW, X, hown, hnil⟩ := hrel
  obtain ⟨f, rfl⟩ : ∃ f', f = f' + 1 := ⟨f - 1, by omega⟩
  have hNx := next_any s a hs ha wr; have hpr := next_prog a (s.toList.drop a); rw [List.length_drop, size_lst] at hpr; change Calls _ _ _ _ (fun r w' => r = .returned (wordV (tokAt a (s.toList.drop a)) ((a + (nextF (s.toList.drop a)).2.2.1 + (nextF (s.toList.drop a)).2.2.2 : Nat) : Int) (nextF (s.toList.drop a)).1) ∧ Chg NoB wr w') at hNx; rw [allW, List.drop_drop] at hW; generalize nextF (s.toList.drop a) = N at *; generalize tokAt a (s.toList.drop a) = T at *; obtain ⟨ne, nt, nk, nn⟩ := N; obtain ⟨tk, tv, ts, tp⟩ := T; simp only at hNx hpr hW; have HN := hid' hNx; have HP := hid' hpr; have HO := hid' hown; have HNL := hid' hnil; obtain ⟨oa, oc, rfl, -⟩ := own_val hown; clear hNx hpr hown hnil HR
  by_cases c1 : ne = 0
  rotate_left
  · have HF := hid' (hW.trans (if_pos c1))
    have c1' : (ne != 0) = true := by simpa using c1
    clear hW c1; go_wp2_with fail
    refine HN.out.mono ?_; rintro r w1 ⟨rfl, X1⟩; go_wp2_with fail
    go_ret3; unfold AllEnd; rw [HF.out]; exact ⟨_, rfl, (X.trans X1).alloc _, World.ownsRow_nil _ _ _ _, fun _ => rfl⟩
  have c1' : (ne != 0) = false := by rw [c1]; rfl
  have hW1 := hW.trans (if_neg (by simpa using c1)); subst c1; clear hW
  by_cases c2 : tk = 0
  · have HF := hid' (hW1.trans (if_pos c2))
    have c2' : (tk == 0) = true := by simpa using c2
    clear hW1 c2; go_wp2_with fail
    refine HN.out.mono ?_; rintro r w1 ⟨rfl, X1⟩; go_wp2_with fail
    go_ret3; unfold AllEnd; rw [HF.out]; have X2 := X1.alloc (.cells #[.int .i64 tk, .int .i64 tv, .string ts, .int .i64 tp] 73); exact ⟨_, rfl, X.trans X2, ownB HO.out X2 (fun _ _ e => e), HNL.out⟩
  have c2' : (tk == 0) = false := by simpa using c2
  have hW2 := hW1.trans (if_neg c2); obtain ⟨p1, p2, p3⟩ := HP.out c2; clear hW1 HP c2
  by_cases c3 : acc.length = 4000
  · have HF := hid' (hW2.trans (if_pos c3))
    have c3' : ((acc.length : Int) == 4000) = true := by rw [c3]; rfl
    have HTP := hid' p3; clear hW2 c3 p3; go_wp2_with fail
    refine HN.out.mono ?_; rintro r w1 ⟨rfl, X1⟩; go_wp2_with fail
    have hb := blk_new w1 (.cells #[.int .i64 tk, .int .i64 tv, .string ts, .int .i64 tp] 73); have X2 := (X.trans X1).alloc (.cells #[.int .i64 tk, .int .i64 tv, .string ts, .int .i64 tp] 73); have R5 := cells_of hb; have l5 := blk_lt hb; generalize w1.alloc (.cells #[.int .i64 tk, .int .i64 tv, .string ts, .int .i64 tp] 73) = w2 at *; clear hb X1
    go_quiet (fail)
    go_wp2_with fail
    go_ret3; unfold AllEnd; rw [HF.out]; exact ⟨_, by rw [HTP.out]; rfl, X2.drewN _, World.ownsRow_nil _ _ _ _, fun _ => rfl⟩
  have c3' : ((acc.length : Int) == 4000) = false := by simp; omega
  have hW3 := hW2.trans (if_neg c3); have HF := hid' hW3
  have c4 : acc.length < 4000 := by omega
  clear hW2 hW3 c3 p3; go_wp2_with fail
  refine HN.out.mono ?_; rintro r w1 ⟨rfl, X1⟩; have HO2 := hid' (fun o o' => ownB HO.out ((X1.alloc o).alloc o') (fun _ _ e => e)); have HX := hid' (fun o o' => (X.trans X1).alloc o |>.alloc o')
  go_wp2_with (at_builtin; refine wpList_append_own_at _ rfl (.tmp 31) (.tmp 33) 27 rfl w.heap.size 73 i0 (.agg #[.int .i64 0, .int .i64 0, .string ⟨#[]⟩, .int .i64 0]) 4 40 underToks hi hz0 hz1 hz2 rfl (by decide) (.slice oa acc.length oc) acc.length (toksV acc) rfl (HO2.out _ _) _ 1 1 (Tok.cells ⟨tk, tv, ts, tp⟩) rfl rfl (fun j' u hj' => cells_newT _ _ _ _ j' u hj') (fun u hu => by simp only [Tok.cells, List.mem_cons, List.not_mem_nil, or_false] at hu; rcases hu with rfl | rfl | rfl | rfl <;> rfl) ?_ ?_ ?_ ?_; (unfold maxLen; omega); omega; (have := X.size; have := X1.size; simp; omega))
  intro v' w2 hown' hgr' hn' hat'
  have HO' := hid' (show w2.ownsRow w.heap.size 73 4 v' (acc ++ [(⟨tk, tv, ts, tp⟩ : Tok)]).length (toksV (acc ++ [(⟨tk, tv, ts, tp⟩ : Tok)])) by
   have e : toksV (acc ++ [(⟨tk, tv, ts, tp⟩ : Tok)]) = toksV acc ++ Tok.cells ⟨tk, tv, ts, tp⟩ := by simp [toksV]
   rw [e, List.length_append, List.length_singleton]; exact hown')
  have HX' := hid' (Chg.grown (HX.out _ _) hgr' (fun k hk => .inr (own_ge HO.out k (by simpa using hk)).1)); clear hown' hgr' hn' hat'; go_wp2_with fail
  go_roundw
  case rel => exact ⟨a + nk + nn, f, acc ++ [⟨tk, tv, ts, tp⟩], by omega, by omega, by first | rfl | go_num, by simp; omega, by rw [HF.out]; simp only [Nat.add_assoc], HX'.out, HO'.out, fun e => by simp at e⟩
  case measure => simp [intOf]; omega
def eqT (a b : Tok) : Bool := decide (a = b)
theorem bytes_eq' (s s' : ByteArray) : (s.toList == s'.toList) = decide (s = s') := by
 by_cases h : s = s'
 · subst h; simp
 · have : s.toList ≠ s'.toList := by
    intro e; rw [ByteArray.toList_eq, ByteArray.toList_eq] at e; exact h (by cases s; cases s'; simp_all [Array.toList_inj])
   simp [h, this]
theorem Tok.ext_iff' (k k' n n' p p' : Int) (s s' : ByteArray) : ((⟨k, n, s, p⟩ : Tok) = ⟨k', n', s', p'⟩) ↔ (k = k' ∧ n = n' ∧ s = s' ∧ p = p') := by
 constructor
 · intro h; cases h; exact ⟨rfl, rfl, rfl, rfl⟩
 · rintro ⟨rfl, rfl, rfl, rfl⟩; rfl
theorem run_eqT (k k' n n' p p' : Int) (s s' : ByteArray) (w : World) :
 (Op.equalIn 10000 73 (.agg #[.int .i64 k, .int .i64 n, .string s, .int .i64 p]) (.agg #[.int .i64 k', .int .i64 n', .string s', .int .i64 p'])).run Tryz.prog w = .ok (eqT ⟨k, n, s, p⟩ ⟨k', n', s', p'⟩) w := by
 have e : (Op.equalIn 10000 73 (.agg #[.int .i64 k, .int .i64 n, .string s, .int .i64 p]) (.agg #[.int .i64 k', .int .i64 n', .string s', .int .i64 p'])).run Tryz.prog w = .ok ((k == k') && (n == n') && (s.toList == s'.toList) && (p == p')) w := by
  rw [run_equalIn_struct w 9999 73 _ _ (by kernel_rfl) (by kernel_rfl)]; simp [go_sem, Op.eqFields]
  by_cases h1 : k = k' <;> by_cases h2 : n = n' <;> by_cases h3 : p = p' <;> by_cases h4 : s.toList = s'.toList <;> simp [*]
 rw [e, bytes_eq']; unfold eqT; refine congrArg (fun b => Result.ok b w) ?_; simp only [Tok.ext_iff']
 by_cases h1 : k = k' <;> by_cases h2 : n = n' <;> by_cases h3 : p = p' <;> by_cases h4 : s = s' <;> simp [*]
@[go_sem high] theorem run_eqlT (k k' n n' p p' : Int) (s s' : ByteArray) (w : World) :
 (binOp .eql 73 (.agg #[.int .i64 k, .int .i64 n, .string s, .int .i64 p]) (.agg #[.int .i64 k', .int .i64 n', .string s', .int .i64 p'])).run Tryz.prog w = .ok (.bool (eqT ⟨k, n, s, p⟩ ⟨k', n', s', p'⟩)) w := by
 rw [run_eql_struct, run_eqT]; rfl
@[go_sem high] theorem run_neqT (k k' n n' p p' : Int) (s s' : ByteArray) (w : World) :
 (binOp .neq 73 (.agg #[.int .i64 k, .int .i64 n, .string s, .int .i64 p]) (.agg #[.int .i64 k', .int .i64 n', .string s', .int .i64 p'])).run Tryz.prog w = .ok (.bool (!eqT ⟨k, n, s, p⟩ ⟨k', n', s', p'⟩)) w := by
 rw [run_neq_struct, run_eqT]; rfl
def TokC (w : World) (b off : Nat) (t : Tok) : Prop := w.cell? ⟨b, off, none⟩ = some (.int .i64 t.kind) ∧ w.cell? ⟨b, off + 1, none⟩ = some (.int .i64 t.n) ∧ w.cell? ⟨b, off + 2, none⟩ = some (.string t.s) ∧ w.cell? ⟨b, off + 3, none⟩ = some (.int .i64 t.pos)
def ToksAt (w : World) (v : Value) (l : List Tok) : Prop :=
 ∃ a cap, v = .slice a l.length cap ∧ l.length ≤ cap ∧ (0 < l.length → ∃ b off, a = some ⟨b, off, none⟩ ∧ b < w.heap.size ∧ ∀ (i : Nat) (t : Tok), l[i]? = some t → TokC w b (off + i * 4) t)
theorem cell_lt {a : Addr} (h : w.cell? a = some v) : a.block < w.heap.size := by
 apply Classical.byContradiction
 intro hn; have : w.heap[a.block]? = none := Array.getElem?_eq_none (by omega); simp [World.cell?, this] at h
theorem Chg.keeps (h : Chg NoB w w') {a : Addr} {v : Value} (hv : w.cell? a = some v) : w'.cell? a = some v := by
 rw [h.below.cell (cell_lt hv)]; exact hv
theorem TokC.pure {b off : Nat} {t : Tok} (h : TokC w b off t) (X : Chg NoB w w') : TokC w' b off t :=
 ⟨X.keeps h.1, X.keeps h.2.1, X.keeps h.2.2.1, X.keeps h.2.2.2⟩
theorem ToksAt.pure {l : List Tok} (h : ToksAt w v l) (X : Chg NoB w w') : ToksAt w' v l := by
 obtain ⟨a, cap, h1, h2, h3⟩ := h; refine ⟨a, cap, h1, h2, fun hl => ?_⟩; obtain ⟨b, off, h4, h5, h6⟩ := h3 hl; exact ⟨b, off, h4, Nat.lt_of_lt_of_le h5 X.size, fun i t ht => (h6 i t ht).pure X⟩
theorem toksV_get (l : List Tok) (i j : Nat) (t : Tok) (h : l[i]? = some t) (hj : j < 4) : (toksV l)[i * 4 + j]? = (Tok.cells t)[j]? := by
 unfold toksV
 induction l generalizing i with
 | nil => simp at h
 | cons x l ih =>
  cases i with
  | zero =>
   simp at h; subst h
   rw [List.flatMap_cons, List.getElem?_append_left (by simp [Tok.cells]; omega)]; simp
  | succ i =>
   rw [List.flatMap_cons, List.getElem?_append_right (by simp [Tok.cells]; omega)]
   have : (i + 1) * 4 + j - (Tok.cells x).length = i * 4 + j := by simp [Tok.cells]; omega
   rw [this]; exact ih i (by simpa using h)
theorem ToksAt.of_own {B : Nat} {l : List Tok} (h : w.ownsRow B 73 4 v l.length (toksV l)) : ToksAt w v l := by
 rcases h.2 with ⟨rfl, h0⟩ | ⟨g, cap, cur, rfl, h1, h2, h3, h4, h5, h6⟩
 · exact ⟨none, 0, by rw [h0], by omega, fun h => by omega⟩
 · refine ⟨_, cap, rfl, h3, fun _ => ⟨g, 0, rfl, blk_lt h2, fun i t ht => ?_⟩⟩; have hi : i < l.length := (List.getElem?_eq_some_iff.1 ht).1
   have key : ∀ j, j < 4 → w.cell? ⟨g, 0 + i * 4 + j, none⟩ = (Tok.cells t)[j]? := fun j hj => by
    rw [Nat.zero_add, cells_of h2, ← Array.getElem?_toList]
    have : cur.toList[i * 4 + j]? = (cur.toList.take (l.length * 4))[i * 4 + j]? := by rw [List.getElem?_take, if_pos (by omega)]
    rw [this, h6, toksV_get l i j t ht hj]
   exact ⟨key 0 (by decide), key 1 (by decide), key 2 (by decide), key 3 (by decide)⟩
end Go.Proofs.YtpiomapnmempoaaGreat
