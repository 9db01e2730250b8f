/- Save and Newer, on heaps and saves that a law made. -/
import Derived.Test.YtenlpkkeljhdeaaSv
namespace Go.Proofs.Ytenlpkkeljhdeaa
open Go.RowKit

theorem at_copy2 {w0 w : World} {hp : Nat} {L : List C} {M : List (Nat × List C)} {K : List (Nat × Obj)} (A : Ats w0 w M K) (hm : (hp, L) ∈ M) :
    Calls Try.prog 29 #[ptr hp] w fun r w' => ∃ gp, r = .returned (ptr gp) ∧ Ats w0 w' ((gp, L) :: M) K := by
  obtain ⟨h, rfl, rfl, H⟩ := A.rep hm
  refine (copy_any h w H).mono ?_
  rintro r w' ⟨rfl, h', e1, e2, H', X, F⟩
  have := A.more h' H' X F
  rw [e1, e2] at this
  exact ⟨_, rfl, this⟩
/-- A box is written somehow, and forgotten. -/
theorem Ats.lose {w0 w w' : World} {M : List (Nat × List C)} {K : List (Nat × Obj)} {b : Nat} {o : Obj} (A : Ats w0 w M ((b, o) :: K)) (X : Chg (· = b) w w') : Ats w0 w' M K := by
  obtain ⟨h, h1, H, X0, D, F, k, n⟩ := A
  obtain ⟨kb, kn, kg⟩ := k _ (List.mem_cons_self ..)
  simp only at kb kn kg
  refine ⟨h, h1, fun x hx => (H x hx).chg X fun c hc e => kn (List.mem_flatMap.2 ⟨x, hx, e ▸ hc⟩), X0.trans' X (fun i hi e => by omega), D, F, fun q hq => ?_, ?_⟩
  · refine ⟨X.blk (k q (List.mem_cons_of_mem _ hq)).1 fun e => ?_, (k q (List.mem_cons_of_mem _ hq)).2⟩
    rw [List.map_cons, List.nodup_cons] at n
    exact n.1 (List.mem_map.2 ⟨q, hq, e⟩)
  · rw [List.map_cons, List.nodup_cons] at n
    exact n.2

theorem Chg.own {b : Nat} {a w : World} (h : Chg (· = b) a w) (i : Nat) (u : Value) : Chg (· = b) a (w.setCell ⟨b, i, none⟩ u) := h.setCell (p := ⟨b, i, none⟩) (.inl rfl) u

abbrev svO (n : Int) : O := ⟨11, false, n, 0, 0, ⟨#[]⟩⟩
set_option maxRecDepth 100000 in
set_option maxHeartbeats 2000000 in
theorem at_saveFull {w0 w : World} {hp sp : Nat} {M : List (Nat × List C)} {K : List (Nat × Obj)} {l : List (Int × Nat)} {last : Int} (A : Ats w0 w M ((sp, svBox l last) :: K)) (hl : l.length = 10) :
    Calls Try.prog 14 #[ptr sp, ptr hp] w fun e w' => e = .returned (.tuple #[O.nil.val, .int .i64 5]) ∧ Ats w0 w' M ((sp, svBox l last) :: K) := by
  have hb := A.box _ (List.mem_cons_self ..)
  have R := cells_of hb
  have lsp := blk_lt hb
  have T0 := sv_open l last
  rw [hl] at T0
  simp only at R lsp
  go_enter Try.func14, Try.ntmps14
  go_wp2
  refine bodyPost_ret (v := .tuple #[O.nil.val, .int .i64 5]) (by simp [results, Try.results14, go_sem, O.nil]) rfl ⟨rfl, A.pure ?_⟩
  (repeat' (first | with_reducible assumption | with_reducible refine Chg.alloc ?_ _ | with_reducible refine Chg.drew ?_ | with_reducible refine Chg.drewN ?_ _ | with_reducible refine Chg.setCell ?_ (Or.inr ?_) _ | exact Nat.le_refl _ | exact Nat.le_add_right _ _ | (simp; done) | (simp; omega)))
  exact Chg.refl _ _

set_option maxRecDepth 100000 in
set_option maxHeartbeats 2000000 in
theorem at_save {w0 w : World} {hp sp : Nat} {L : List C} {M : List (Nat × List C)} {K : List (Nat × Obj)} {l : List (Int × Nat)} {last : Int} (A : Ats w0 w M ((sp, svBox l last) :: K)) (hm : (hp, L) ∈ M) (hl : l.length < 10) (h0 : 0 ≤ last) (h1 : last < 1000000) :
    Calls Try.prog 14 #[ptr sp, ptr hp] w fun e w' => e = .returned (.tuple #[(svO (last + 1)).val, .int .i64 0]) ∧ ∃ gp, Ats w0 w' ((gp, L) :: M) ((sp, svBox (l ++ [(last + 1, gp)]) (last + 1)) :: K) := by
  have hb := A.box _ (List.mem_cons_self ..)
  have R := cells_of hb
  have Z := free_of hb
  have lsp := blk_lt hb
  have T0 := sv_open l last
  have T1 := sv_last l last
  simp only at R lsp Z
  have hn10 : ((l.length : Int) == 10) = false := by simp; omega
  go_enter Try.func14, Try.ntmps14
  go_wp2_with fail
  have A0 := (A.put 21 (.int .i64 (last + 1))).alloc (.cells #[.int .i64 0, .bool false, .int .i64 0, .int .i64 0, .int .i64 0, .string ⟨#[]⟩] 29)
  rw [sv_setLast] at A0
  have A1 := A0.perm (List.Perm.swap _ _ _)
  simp only [World.size_setCell] at A1
  clear A0
  generalize (w.setCell ⟨sp, 21, none⟩ (.int .i64 (last + 1))).alloc (.cells #[.int .i64 0, .bool false, .int .i64 0, .int .i64 0, .int .i64 0, .string ⟨#[]⟩] 29) = w1 at *
  generalize w.heap.size = bp at *
  have hb1 := A1.box _ (List.mem_cons_self ..)
  have R1 := cells_of hb1
  have T2 := sv_open l (last + 1)
  have T3 := sv_last l (last + 1)
  have T4 : (svCs l (last + 1))[l.length * 2]? = some (svF l (last + 1) (l.length * 2)) := sv_get _ _ _ (by omega)
  have T5 : (svCs l (last + 1))[l.length * 2 + 1]? = some (svF l (last + 1) (l.length * 2 + 1)) := sv_get _ _ _ (by omega)
  have c20 : w1.cell? ⟨sp, 20, none⟩ = some (.int .i64 l.length) := by rw [R1 20, T2]
  have c21 : w1.cell? ⟨sp, 21, none⟩ = some (.int .i64 (last + 1)) := by rw [R1 21, T3]
  have ln : (l.length : Int) < 10 := by omega
  have ne1 : ¬ l.length * 2 = 20 := by omega
  have ne2 : ¬ l.length * 2 + 1 = 20 := by omega
  have ne3 : ¬ l.length * 2 = 21 := by omega
  have ne4 : ¬ l.length * 2 + 1 = 21 := by omega
  have K20 : ∀ (W : World) (u v : Value), ((W.setCell ⟨sp, l.length * 2, none⟩ u).setCell ⟨sp, l.length * 2 + 1, none⟩ v).cell? ⟨sp, 20, none⟩ = W.cell? ⟨sp, 20, none⟩ := fun W u v => by
    rw [World.cell?_setCell_other _ _ _ _ (by simp), World.cell?_setCell_other _ _ _ _ (by simp)]
  have K21 : ∀ (W : World) (u v : Value), ((W.setCell ⟨sp, l.length * 2, none⟩ u).setCell ⟨sp, l.length * 2 + 1, none⟩ v).cell? ⟨sp, 21, none⟩ = W.cell? ⟨sp, 21, none⟩ := fun W u v => by
    rw [World.cell?_setCell_other _ _ _ _ (by simp), World.cell?_setCell_other _ _ _ _ (by simp)]
  clear R Z T0 T1 hb hb1 A
  simp only at R1
  clear R1
  go_region_held3 (fun W => W.cell? ⟨sp, 20, none⟩ = some (.int .i64 l.length) ∧ W.cell? ⟨sp, 21, none⟩ = some (.int .i64 (last + 1))) (go_keep)
    ((go_at_call 29; refine (at_copy2 (A1.pure (Chg.refl NoB w1).drew) hm).mono ?_; rintro e w9 ⟨gp, rfl, A9⟩; have R9 := cells_of (A9.box _ (List.mem_cons_self ..)); have Z9 := free_of (A9.box _ (List.mem_cons_self ..)); simp only at R9 Z9; have k20 : w9.cell? ⟨sp, 20, none⟩ = some (.int .i64 l.length) := (R9 20).trans T2; have k21 : w9.cell? ⟨sp, 21, none⟩ = some (.int .i64 (last + 1)) := (R9 21).trans T3))
  have A10 := (A9.put (l.length * 2) (.int .i64 (last + 1))).put (l.length * 2 + 1) (ptr gp)
  generalize (w9.setCell ⟨sp, l.length * 2, none⟩ (.int .i64 (last + 1))).setCell ⟨sp, l.length * 2 + 1, none⟩ (ptr gp) = w10 at *
  have hb10 := A10.box _ (List.mem_cons_self ..)
  have hr10 := A10.box _ (List.mem_cons_of_mem _ (List.mem_cons_self ..))
  have R10 := cells_of hb10
  have Z10 := free_of hb10
  have Rr := cells_of hr10
  have Zr := free_of hr10
  have e20 : (((svCs l (last + 1)).setIfInBounds (l.length * 2) (.int .i64 (last + 1))).setIfInBounds (l.length * 2 + 1) (ptr gp))[20]? = some (.int .i64 l.length) := by
    rw [Array.getElem?_setIfInBounds, if_neg ne2, Array.getElem?_setIfInBounds, if_neg ne1]; exact T2
  have e21 : (((svCs l (last + 1)).setIfInBounds (l.length * 2) (.int .i64 (last + 1))).setIfInBounds (l.length * 2 + 1) (ptr gp))[21]? = some (.int .i64 (last + 1)) := by
    rw [Array.getElem?_setIfInBounds, if_neg ne4, Array.getElem?_setIfInBounds, if_neg ne3]; exact T3
  have l10 := blk_lt hb10
  have m10 := blk_lt hr10
  have A11 := A10.put 20 (.int .i64 (l.length + 1 : Int))
  rw [sv_push l (last + 1) (last + 1, gp) hl] at A11
  have A12 := A11.perm (List.Perm.swap _ _ _)
  simp only at R10 Z10 Rr Zr l10 m10
  generalize (((svCs l (last + 1)).setIfInBounds (l.length * 2) (.int .i64 (last + 1))).setIfInBounds (l.length * 2 + 1) (ptr gp)) = cs10 at *
  have nsb : ¬ bp = sp := by omega
  have nsb' : ¬ sp = bp := by omega
  clear A1 A9 A10 A11 R9 Z9 k20 k21 K20 K21 c20 c21 T2 T3 T4 T5 hb10 hr10
  go_wp2
  refine bodyPost_ret (v := .tuple #[(svO (last + 1)).val, .int .i64 0]) (by simp [results, Try.results14, go_sem, Rr, cell_set_at]) rfl ⟨rfl, gp, A12.lose ?_⟩
  iterate 6 (refine Chg.own ?_ _ _)
  exact Chg.refl _ _

/-- What Newer answers: r is the place of o, n the number of cells of what was kept there. -/
def newerS (r n : Int) (o x : O) : Bool :=
  if r < 0 then false else if x.kind = 9 ∨ x.kind = 8 ∨ x.kind = 10 then decide (n ≤ x.n) else if x.kind = 11 then decide (o.n ≤ x.n) else false
set_option maxRecDepth 100000 in
set_option maxHeartbeats 2000000 in
theorem at_newer {w0 w : World} {sp : Nat} {M : List (Nat × List C)} {K : List (Nat × Obj)} {l : List (Int × Nat)} {last : Int} (A : Ats w0 w M K) (hs : (sp, svBox l last) ∈ K) (hl : l.length ≤ 10) (o x : O) (r n : Int) (hr : FindS l o r)
    (hn : 0 ≤ r → ∃ q G, l[r.toNat]? = some q ∧ (q.2, G) ∈ M ∧ (G.length : Int) = n) :
    Calls Try.prog 19 #[ptr sp, o.val, x.val] w fun e w' => e = .returned (.bool (newerS r n o x)) ∧ Ats w0 w' M K := by
  obtain ⟨k, ex, m, p, le, s⟩ := o
  obtain ⟨k', ex', m', p', le', s'⟩ := x
  have hb := A.box _ hs
  have lsp := blk_lt hb
  simp only at lsp
  have FK := fun w' (h : w'.heap[sp]? = some (svBox l last)) => sfind_any sp l last w' h hl ⟨k, ex, m, p, le, s⟩ r hr
  have hXX := ((Chg.refl NoB w).alloc (.cells #[.int .i64 k, .bool ex, .int .i64 m, .int .i64 p, .int .i64 le, .string s] 29)).alloc (.cells #[.int .i64 k', .bool ex', .int .i64 m', .int .i64 p', .int .i64 le', .string s'] 29)
  have hB0 := blk_alloc (blk_new w (.cells #[.int .i64 k, .bool ex, .int .i64 m, .int .i64 p, .int .i64 le, .string s] 29)) (.cells #[.int .i64 k', .bool ex', .int .i64 m', .int .i64 p', .int .i64 le', .string s'] 29)
  have hB1 := blk_new1 w (.cells #[.int .i64 k, .bool ex, .int .i64 m, .int .i64 p, .int .i64 le, .string s] 29) (.cells #[.int .i64 k', .bool ex', .int .i64 m', .int .i64 p', .int .i64 le', .string s'] 29)
  have hbs := hXX.blk hb id
  go_enter Try.func19, Try.ntmps19
  go_wp2_with fail
  refine (FK _ hbs).mono ?_
  rintro e w2 ⟨rfl, hb2⟩
  have R0 := cells_of (hb2.blk hB0 id)
  have R1 := cells_of (hb2.blk hB1 id)
  have hb3 := hb2.blk hbs id
  have A2 := A.pure (hXX.pure hb2)
  clear FK hB0 hB1 hbs hb2 hXX hr
  by_cases h0 : r < 0
  · have e0 : newerS r n ⟨k, ex, m, p, le, s⟩ ⟨k', ex', m', p', le', s'⟩ = false := by simp [newerS, h0]
    have HE := Hid.mk' e0
    clear e0
    clear hn
    go_wp2
    go_ret
    rw [HE.out]
    exact ⟨rfl, A2⟩
  obtain ⟨q, G, hq, hG, hGn⟩ := hn (by omega)
  by_cases hk : k' = 9 ∨ k' = 8 ∨ k' = 10
  · have e0 : newerS r n ⟨k, ex, m, p, le, s⟩ ⟨k', ex', m', p', le', s'⟩ = decide (n ≤ m') := by simp only [newerS, if_neg h0, if_pos hk]
    have HE := Hid.mk' e0
    clear e0
    have Rs := cells_of hb3
    have T1 := sv_ptr l last hl hq
    have T2 : r.toNat < 10 := by have := (List.getElem?_eq_some_iff.1 hq).1; omega
    have T3 : r < 10 := by omega
    rcases hk with rfl | rfl | rfl
    all_goals
      go_wp2_with fail
      go_quiet ((go_at_call 24; exact Calls.quiet_of_same ((at_cells (A2.pure ((Chg.refl NoB w2).drewN _)) hG).mono (fun e w' ⟨h1, h2⟩ => ⟨h1, h2.symm⟩))))
      go_wp2
      go_ret
      rw [HE.out]
      exact ⟨by rw [hGn]; rfl, A2.pure ((Chg.refl NoB w2).drewN _)⟩
  · have h9 : ¬ k' = 9 := fun h => hk (.inl h)
    have h8 : ¬ k' = 8 := fun h => hk (.inr (.inl h))
    have h10 : ¬ k' = 10 := fun h => hk (.inr (.inr h))
    by_cases h11 : k' = 11
    · have e0 : newerS r n ⟨k, ex, m, p, le, s⟩ ⟨k', ex', m', p', le', s'⟩ = decide (m ≤ m') := by simp only [newerS, if_neg h0, if_neg hk, if_pos h11]
      have HE := Hid.mk' e0
      clear e0
      subst h11
      go_wp2
      go_ret
      rw [HE.out]
      exact ⟨rfl, A2⟩
    · have e0 : newerS r n ⟨k, ex, m, p, le, s⟩ ⟨k', ex', m', p', le', s'⟩ = false := by simp only [newerS, if_neg h0, if_neg hk, if_neg h11]
      have HE := Hid.mk' e0
      clear e0
      have b9 : (k' == 9) = false := by simpa using h9
      have b8 : (k' == 8) = false := by simpa using h8
      have b10 : (k' == 10) = false := by simpa using h10
      have b11 : (k' == 11) = false := by simpa using h11
      go_wp2
      go_ret
      rw [HE.out]
      exact ⟨rfl, A2⟩
end Go.Proofs.Ytenlpkkeljhdeaa
