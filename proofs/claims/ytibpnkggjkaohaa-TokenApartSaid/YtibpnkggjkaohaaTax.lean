/- Two texts with a line between them: all their words. -/
import Derived.Test.YtibpnkggjkaohaaTap
namespace Go.Proofs.Ytibpnkggjkaohaa
open Go.RowKit

/-- A word c bytes further on. -/
def sh (c : Nat) (t : Tok) : Tok := { t with pos := t.pos + (c : Int) }
theorem tok_more (a : Nat) (l : List UInt8) (h : (nextF l).1 = 0) (h2 : ¬ l.drop (skipL false l) = []) : (tokAt a l).kind ≠ 0 := by
  unfold tokAt
  rw [if_neg (by rintro (e | e); exact h2 e; exact e h)]
  have hw : (wordF (l.drop (skipL false l))).1 = 0 := by
    unfold nextF at h
    rw [if_neg h2] at h
    split at h
    · assumption
    · rename_i e; exact absurd h e
  have := wordF_kind _ hw
  have e : (nextF l).2.1 = (wordF (l.drop (skipL false l))).2.1 := by
    unfold nextF
    rw [if_neg h2, if_pos hw]
  simp only [e]
  omega
theorem next_nil (l : List UInt8) (h2 : l.drop (skipL false l) = []) : (nextF l).1 = 0 := by
  unfold nextF
  rw [if_pos h2]
theorem tok_nil (a : Nat) (l : List UInt8) (h2 : l.drop (skipL false l) = []) : tokAt a l = Tok.nil := by
  unfold tokAt
  rw [if_pos (.inl h2)]
theorem tok_shift (a c : Nat) (l : List UInt8) (h : (tokAt a l).kind ≠ 0) : tokAt (a + c) l = sh c (tokAt a l) := by
  unfold tokAt at h ⊢
  by_cases e : l.drop (skipL false l) = [] ∨ (nextF l).1 ≠ 0
  · rw [if_pos e] at h; exact absurd rfl h
  · rw [if_neg e, if_neg e]
    simp only [sh, Tok.mk.injEq, true_and]
    omega
theorem tok_kind (a b : Nat) (l : List UInt8) : (tokAt a l).kind = (tokAt b l).kind := by
  unfold tokAt
  split <;> rfl
theorem all_len : ∀ (f : Nat) (l : List UInt8) (a : Nat) (acc : List Tok), (allW f l a acc).2.1.length ≤ acc.length + l.length
  | 0, l, a, acc => by rw [allW]; simp
  | f + 1, l, a, acc => by
    rw [allW]
    split
    · simp
    · split
      · simp
      · rename_i h1
        split
        · simp
        · have hp := next_prog a l h1
          have := all_len f (l.drop ((nextF l).2.2.1 + (nextF l).2.2.2)) (a + (nextF l).2.2.1 + (nextF l).2.2.2) (acc ++ [tokAt a l])
          rw [List.length_append, List.length_singleton, List.length_drop] at this
          omega
theorem all_fuel : ∀ (f g : Nat) (l : List UInt8) (a : Nat) (acc : List Tok), l.length < f → l.length < g → allW f l a acc = allW g l a acc
  | 0, _, l, _, _, h, _ => by omega
  | _ + 1, 0, l, _, _, _, h => by omega
  | f + 1, g + 1, l, a, acc, h1, h2 => by
    rw [allW, allW]
    by_cases c1 : (nextF l).1 ≠ 0
    · rw [if_pos c1, if_pos c1]
    rw [if_neg c1, if_neg c1]
    by_cases c2 : (tokAt a l).kind = 0
    · rw [if_pos c2, if_pos c2]
    rw [if_neg c2, if_neg c2]
    by_cases c3 : acc.length = 4000
    · rw [if_pos c3, if_pos c3]
    rw [if_neg c3, if_neg c3]
    have hp := next_prog a l c2
    exact all_fuel f g _ _ _ (by rw [List.length_drop]; omega) (by rw [List.length_drop]; omega)
/-- The words of the first text, then those of the second. -/
theorem all_app (r : List UInt8) : ∀ (f : Nat) (l : List UInt8) (a : Nat) (acc : List Tok) (g : Nat), l.length < f → l.length + 1 + r.length < g → (allW f l a acc).1 = 0 →
    ∃ f', r.length < f' ∧ allW g (l ++ 10 :: r) a acc = allW f' r (a + l.length + 1) (allW f l a acc).2.1
  | 0, _, _, _, _, h, _, _ => by omega
  | _ + 1, _, _, _, 0, _, h, _ => by omega
  | f + 1, l, a, acc, g + 1, h1, h2, h3 => by
    by_cases c0 : l.drop (skipL false l) = []
    · obtain ⟨hN, hT⟩ := next_end l r c0
      have e1 : allW (f + 1) l a acc = (0, acc, 0) := by
        rw [allW, if_neg (fun e => e (next_nil l c0)), if_pos (by rw [tok_nil a l c0]; rfl)]
      refine ⟨g + 1, by omega, ?_⟩
      rw [e1, allW, allW, hN, hT]
      simp only
      have e2 : (l ++ 10 :: r).drop (l.length + 1 + (nextF r).2.2.1 + (nextF r).2.2.2) = r.drop ((nextF r).2.2.1 + (nextF r).2.2.2) := by
        rw [show l.length + 1 + (nextF r).2.2.1 + (nextF r).2.2.2 = l.length + (1 + ((nextF r).2.2.1 + (nextF r).2.2.2)) by omega, ← List.drop_drop, List.drop_left, Nat.add_comm 1, List.drop_succ_cons]
      rw [e2, show a + (l.length + 1 + (nextF r).2.2.1) = a + l.length + 1 + (nextF r).2.2.1 by omega]
    · have h0 : (nextF l).1 = 0 := by
        rw [allW] at h3
        apply Classical.byContradiction
        intro e
        rw [if_pos e] at h3
        exact e h3
      have c2 := tok_more a l h0 c0
      obtain ⟨hN, hT⟩ := next_app l r h0 c0
      rw [allW, if_neg (fun e => e h0), if_neg c2] at h3
      have c3 : ¬ acc.length = 4000 := by
        intro e
        rw [if_pos e] at h3
        exact absurd h3 (by simp)
      rw [if_neg c3] at h3
      have hp := next_prog a l c2
      obtain ⟨f', h5, h6⟩ := all_app r f _ _ _ g (by rw [List.length_drop]; omega) (by rw [List.length_drop]; omega) h3
      refine ⟨f', h5, ?_⟩
      rw [allW, hN, hT, if_neg (fun e => e h0), if_neg c2, if_neg c3, List.drop_append_of_le_length hp.2.1, h6, allW, if_neg (fun e => e h0), if_neg c2, if_neg c3, List.length_drop]
      congr 1
      omega
/-- The words of a text that begins c bytes further on. -/
theorem all_shift (c : Nat) (p : List Tok) : ∀ (f : Nat) (l : List UInt8) (a : Nat) (acc : List Tok), l.length < f → p.length + acc.length + l.length < 4000 →
    allW f l (a + c) (p ++ acc.map (sh c)) = if (allW f l a acc).1 = 0 then (0, p ++ (allW f l a acc).2.1.map (sh c), 0) else ((allW f l a acc).1, [], (allW f l a acc).2.2 + c)
  | 0, _, _, _, h, _ => by omega
  | f + 1, l, a, acc, h1, h2 => by
    rw [allW, allW]
    by_cases c1 : (nextF l).1 ≠ 0
    · rw [if_pos c1, if_pos c1, if_neg (by exact c1)]
      simp only [Prod.mk.injEq, true_and]
      omega
    rw [if_neg c1, if_neg c1, tok_kind (a + c) a l]
    by_cases c2 : (tokAt a l).kind = 0
    · rw [if_pos c2, if_pos c2, if_pos rfl]
    rw [if_neg c2, if_neg c2]
    have hp := next_prog a l c2
    rw [if_neg (show ¬ (p ++ acc.map (sh c)).length = 4000 by rw [List.length_append, List.length_map]; omega), if_neg (show ¬ acc.length = 4000 by omega), tok_shift a c l c2]
    have e : p ++ acc.map (sh c) ++ [sh c (tokAt a l)] = p ++ (acc ++ [tokAt a l]).map (sh c) := by simp
    rw [e, show a + c + (nextF l).2.2.1 + (nextF l).2.2.2 = a + (nextF l).2.2.1 + (nextF l).2.2.2 + c by omega]
    exact all_shift c p f _ _ _ (by rw [List.length_drop]; omega) (by rw [List.length_drop, List.length_append, List.length_singleton]; omega)
/-- Two texts, a line between them. -/
theorem all_two (l r : List UInt8) (h1 : l.length ≤ 300) (h2 : r.length ≤ 300) (h : (allF l).1 = 0) :
    allF (l ++ 10 :: r) = if (allF r).1 = 0 then (0, (allF l).2.1 ++ (allF r).2.1.map (sh (l.length + 1)), 0) else ((allF r).1, [], (allF r).2.2 + (l.length + 1)) := by
  have hL : allF l = allW (l.length + 1) l 0 [] := if_neg (by omega)
  have hR : allF r = allW (r.length + 1) r 0 [] := if_neg (by omega)
  have hU : allF (l ++ 10 :: r) = allW ((l ++ 10 :: r).length + 1) (l ++ 10 :: r) 0 [] := if_neg (by simp; omega)
  rw [hL] at h
  have hlen := all_len (l.length + 1) l 0 []
  obtain ⟨f', h5, h6⟩ := all_app r (l.length + 1) l 0 [] ((l ++ 10 :: r).length + 1) (by omega) (by simp; omega) h
  have hs := all_shift (l.length + 1) (allW (l.length + 1) l 0 []).2.1 (r.length + 1) r 0 [] (by omega) (by simp only [List.length_nil] at hlen ⊢; omega)
  rw [hU, h6, hL, hR, ← hs, all_fuel f' (r.length + 1) r _ _ h5 (by omega)]
  simp only [List.map_nil, List.append_nil, Nat.zero_add, Nat.add_assoc]
theorem allF_len (l : List UInt8) : (allF l).2.1.length ≤ l.length := by
  unfold allF
  split
  · simp
  · have := all_len (l.length + 1) l 0 []
    simpa using this
theorem sh_cells (c : Nat) (t : Tok) : (sh c t).cells = [.int .i64 t.kind, .int .i64 t.n, .string t.s, .int .i64 (t.pos + c)] := rfl
theorem next_k (l : List UInt8) : (nextF l).2.2.1 = skipL false l := by
  unfold nextF
  split
  · rfl
  · split <;> rfl
theorem next_e (l : List UInt8) (h : (nextF l).1 ≠ 0) : (nextF l).2.2.2 = 0 := by
  unfold nextF at h ⊢
  split
  · rfl
  · rename_i c1
    rw [if_neg c1] at h
    split
    · rename_i c2; rw [if_pos c2] at h; exact absurd rfl h
    · rfl
theorem all_at : ∀ (f : Nat) (l : List UInt8) (a : Nat) (acc : List Tok), (allW f l a acc).2.2 ≤ a + l.length
  | 0, l, a, acc => by rw [allW]; simp
  | f + 1, l, a, acc => by
    have hk := next_k l
    have hs := skipL_len false l
    rw [allW]
    split
    · rename_i h; have := next_e l h; simp only; omega
    · split
      · simp
      · rename_i h1
        split
        · simp only; omega
        · have hp := next_prog a l h1
          have := all_at f (l.drop ((nextF l).2.2.1 + (nextF l).2.2.2)) (a + (nextF l).2.2.1 + (nextF l).2.2.2) (acc ++ [tokAt a l])
          rw [List.length_drop] at this
          omega
theorem all_pos : ∀ (f : Nat) (l : List UInt8) (a : Nat) (acc : List Tok) (N : Int), ((a + l.length : Nat) : Int) ≤ N → (∀ x ∈ acc, 0 ≤ x.pos ∧ x.pos ≤ N) → ∀ x ∈ (allW f l a acc).2.1, 0 ≤ x.pos ∧ x.pos ≤ N
  | 0, l, a, acc, N, _, h => by rw [allW]; exact h
  | f + 1, l, a, acc, N, hN, h => by
    rw [allW]
    split
    · intro x hx; simp at hx
    · split
      · exact h
      · rename_i h1
        split
        · intro x hx; simp at hx
        · have hp := next_prog a l h1
          refine all_pos f (l.drop ((nextF l).2.2.1 + (nextF l).2.2.2)) (a + (nextF l).2.2.1 + (nextF l).2.2.2) (acc ++ [tokAt a l]) N ?_ ?_
          · rw [List.length_drop]; omega
          · intro x hx
            rw [List.mem_append, List.mem_singleton] at hx
            rcases hx with hx | rfl
            · exact h x hx
            · rw [hp.2.2]; omega
theorem allF_at (l : List UInt8) : (allF l).2.2 ≤ l.length := by
  unfold allF
  split
  · simp
  · have := all_at (l.length + 1) l 0 []
    simpa using this
theorem allF_pos (l : List UInt8) : ∀ x ∈ (allF l).2.1, 0 ≤ x.pos ∧ x.pos ≤ (l.length : Int) := by
  unfold allF
  split
  · intro x hx; simp at hx
  · exact all_pos (l.length + 1) l 0 [] _ (by simp) (by simp)
/-- B's cells, the first i words moved by c. -/
def MovC (cur : Array Value) (c i : Nat) (B : List Tok) : Prop := ∀ (k : Nat) (t : Tok), B[k]? = some t →
  cur[k * 4]? = some (.int .i64 t.kind) ∧ cur[k * 4 + 1]? = some (.int .i64 t.n) ∧ cur[k * 4 + 2]? = some (.string t.s) ∧ cur[k * 4 + 3]? = some (.int .i64 (if k < i then t.pos + (c : Int) else t.pos))
theorem MovC.step {cur : Array Value} {c i : Nat} {B : List Tok} {b : Tok} (h : MovC cur c i B) (hb : B[i]? = some b) :
    MovC (cur.setIfInBounds (i * 4 + 3) (.int .i64 (b.pos + (c : Int)))) c (i + 1) B := by
  intro k t hk
  obtain ⟨h1, h2, h3, h4⟩ := h k t hk
  simp only [Array.getElem?_setIfInBounds]
  refine ⟨?_, ?_, ?_, ?_⟩
  · rw [if_neg (by omega)]; exact h1
  · rw [if_neg (by omega)]; exact h2
  · rw [if_neg (by omega)]; exact h3
  · by_cases e : i = k
    · subst e
      rw [hb] at hk
      injection hk with hk
      subst hk
      rw [if_pos rfl, if_pos (Array.getElem?_eq_some_iff.1 h4).1, if_pos (by omega)]
    · rw [if_neg (by omega), h4]
      by_cases e2 : k < i
      · rw [if_pos e2, if_pos (by omega)]
      · rw [if_neg e2, if_neg (by omega)]
theorem MovC.start {c : Nat} {B : List Tok} {cur : Array Value} (h : cur.toList.take (B.length * 4) = toksV B) : MovC cur c 0 B := by
  intro k t hk
  have hi : k < B.length := (List.getElem?_eq_some_iff.1 hk).1
  have key : ∀ j, j < 4 → cur[k * 4 + j]? = (Tok.cells t)[j]? := fun j hj => by
    rw [← Array.getElem?_toList]
    have : cur.toList[k * 4 + j]? = (cur.toList.take (B.length * 4))[k * 4 + j]? := by rw [List.getElem?_take, if_pos (by omega)]
    rw [this, h, toksV_get B k j t hk hj]
  refine ⟨key 0 (by decide), key 1 (by decide), key 2 (by decide), ?_⟩
  rw [if_neg (by omega)]
  exact key 3 (by decide)
theorem MovC.done {cur : Array Value} {c : Nat} {B : List Tok} (h : MovC cur c B.length B) : ∀ (j : Nat) (u : Value), (toksV (B.map (sh c)))[j]? = some u → cur[j]? = some u := by
  intro j u hj
  have hl : j < (toksV (B.map (sh c))).length := (List.getElem?_eq_some_iff.1 hj).1
  rw [toksV_len, List.length_map] at hl
  have hk : j / 4 < B.length := by omega
  have hB : B[j / 4]? = some B[j / 4] := List.getElem?_eq_getElem hk
  have hM : (B.map (sh c))[j / 4]? = some (sh c B[j / 4]) := by rw [List.getElem?_map, hB]; rfl
  have hg := toksV_get (B.map (sh c)) (j / 4) (j % 4) _ hM (Nat.mod_lt _ (by decide))
  rw [show j / 4 * 4 + j % 4 = j by omega, hj, sh_cells] at hg
  obtain ⟨h1, h2, h3, h4⟩ := h _ _ hB
  rw [if_pos hk] at h4
  have : j % 4 = 0 ∨ j % 4 = 1 ∨ j % 4 = 2 ∨ j % 4 = 3 := by omega
  rcases this with e | e | e | e
  · rw [e] at hg; rw [show j = j / 4 * 4 by omega, h1]; exact hg.symm
  · rw [e] at hg; rw [show j = j / 4 * 4 + 1 by omega, h2]; exact hg.symm
  · rw [e] at hg; rw [show j = j / 4 * 4 + 2 by omega, h3]; exact hg.symm
  · rw [e] at hg; rw [show j = j / 4 * 4 + 3 by omega, h4]; exact hg.symm
theorem toksV_app (l m : List Tok) : toksV (l ++ m) = toksV l ++ toksV m := by simp [toksV]
theorem toksV_one (l : List Tok) : ∀ u ∈ toksV l, u.oneCell' = true := by
  intro u hu
  unfold toksV at hu
  rw [List.mem_flatMap] at hu
  obtain ⟨t, -, ht⟩ := hu
  simp only [Tok.cells, List.mem_cons, List.not_mem_nil, or_false] at ht
  rcases ht with rfl | rfl | rfl | rfl <;> rfl
end Go.Proofs.Ytibpnkggjkaohaa
