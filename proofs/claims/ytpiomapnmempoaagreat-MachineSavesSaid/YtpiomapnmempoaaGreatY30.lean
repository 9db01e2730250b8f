/- Parts of the proof: Ubd. -/
import Derived.Test.YtpiomapnmempoaaGreatY25
import Derived.Test.YtpiomapnmempoaaGreatY28
import Derived.Test.YtpiomapnmempoaaGreatY29
namespace Go.Proofs.YtpiomapnmempoaaGreat
open Go.RowKit
section
def signN (k : Int) : ByteArray := if k = 9 then ⟨#[91]⟩ else if k = 10 then ⟨#[93]⟩ else if k = 11 then ⟨#[60, 60]⟩ else ⟨#[62, 62]⟩
def TokB (t : Tok) : Prop := t.s.size ≤ 9223372036854775807 ∧ -9223372036854775808 ≤ t.kind ∧ t.kind ≤ 9223372036854775807
abbrev exeN (s : ByteArray) : O := ⟨5, true, 0, 0, 0, s⟩
def leafB (F : List C → ByteArray → O × Int) (L : List C) (t : Tok) : List C × O × Int :=
 if t.kind = 6 then stringH L t.s else if t.kind = 5 then (L, F L t.s)
 else if t.kind = 1 then (L, ⟨3, false, t.n, 0, 0, ⟨#[]⟩⟩, 0) else if t.kind = 2 then (L, ⟨4, false, t.n, 0, 0, ⟨#[]⟩⟩, 0)
 else if t.kind = 3 ∨ t.kind = 4 then (L, ⟨5, decide (t.kind = 3), 0, 0, 0, t.s⟩, 0) else (L, exeN (signN t.kind), 0)
abbrev OSt := List C × List (List O) × List Int
def putB (o : O) : List (List O) → List (List O)
 | l :: ls => (l ++ [o]) :: ls
 | [] => []
def stepO (F : List C → ByteArray → O × Int) (i : Int) (t : Tok) (s : OSt) : OSt ⊕ (List C × Int × Int) :=
 if mayT t = false then .inr (s.1, i, 1)
 else if t.kind = 7 then if s.2.2.length = 20 then .inr (s.1, i, 5) else .inl (s.1, [] :: s.2.1, i :: s.2.2)
 else if t.kind = 8 then match s.2.2, s.2.1 with
  | _ :: bg, l :: ls => if (arrB s.1 l).2.2 = 0 then .inl ((arrB s.1 l).1, putB (arrB s.1 l).2.1 ls, bg) else .inr ((arrB s.1 l).1, i, (arrB s.1 l).2.2)
  | _, _ => .inr (s.1, i, 3)
 else if (leafB F s.1 t).2.2 = 0 then .inl ((leafB F s.1 t).1, putB (leafB F s.1 t).2.1 s.2.1, s.2.2) else .inr ((leafB F s.1 t).1, i, (leafB F s.1 t).2.2)
def runO (F : List C → ByteArray → O × Int) : Int → List Tok → OSt → OSt ⊕ (List C × Int × Int)
 | _, [], s => .inl s
 | i, t :: ts, s => match stepO F i t s with
  | .inl s' => runO F (i + 1) ts s'
  | .inr e => .inr e
theorem runO_snoc (F : List C → ByteArray → O × Int) (ts : List Tok) (t : Tok) : ∀ (i : Int) (s s' : OSt), runO F i ts s = .inl s' → runO F i (ts ++ [t]) s = stepO F (i + ts.length) t s' := by
 induction ts with
 | nil =>
  intro i s s' h; simp only [runO, Sum.inl.injEq] at h; subst h; simp only [List.nil_append, runO, List.length_nil, Int.ofNat_zero, Int.add_zero]
  cases stepO F i t s <;> rfl
 | cons u ts ih =>
  intro i s s' h; simp only [runO, List.cons_append] at h ⊢
  cases hs : stepO F i u s with
  | inr e => rw [hs] at h; simp at h
  | inl s2 =>
   rw [hs] at h; simp only at h ⊢; rw [ih _ _ _ h]
   congr 1
   simp only [List.length_cons]; omega
theorem runO_err (F : List C → ByteArray → O × Int) (ts us : List Tok) : ∀ (i : Int) (s : OSt) (e : List C × Int × Int), runO F i ts s = .inr e → runO F i (ts ++ us) s = .inr e := by
 induction ts with
 | nil => intro i s e h; simp [runO] at h
 | cons u ts ih =>
  intro i s e h; simp only [runO, List.cons_append] at h ⊢
  cases hs : stepO F i u s with
  | inr e' => rw [hs] at h; exact h
  | inl s2 =>
   rw [hs] at h; exact ih _ _ _ h
def objsB (F : List C → ByteArray → O × Int) (L : List C) (ts : List Tok) : List C × List O × Int × Int :=
 match runO F 0 ts (L, [[]], []) with
 | .inr (L', at_, e) => (L', [], at_, e)
 | .inl (L', ls, bg) => match bg with
  | b :: _ => (L', [], b, 4)
  | [] => (L', ls.headD [], 0, 0)
section
variable {F : List C → ByteArray → O × Int} {i : Int} {tk tv tp : Int} {ts : ByteArray} {L L1 : List C} {l0 : List O} {ls0 ls : List (List O)} {bg : List Int} {o : O} {e1 b0 : Int}
theorem step_may (h : mayT ⟨tk, tv, ts, tp⟩ = false) : stepO F i ⟨tk, tv, ts, tp⟩ (L, ls, bg) = .inr (L, i, 1) := by unfold stepO; rw [if_pos h]
theorem step_full (h : mayT ⟨7, tv, ts, tp⟩ = true) (h20 : bg.length = 20) : stepO F i ⟨7, tv, ts, tp⟩ (L, ls, bg) = .inr (L, i, 5) := by
 unfold stepO; rw [if_neg (by rw [h]; decide), if_pos rfl, if_pos h20]
theorem step_open (h : mayT ⟨7, tv, ts, tp⟩ = true) (h20 : bg.length ≠ 20) : stepO F i ⟨7, tv, ts, tp⟩ (L, ls, bg) = .inl (L, [] :: ls, i :: bg) := by
 unfold stepO; rw [if_neg (by rw [h]; decide), if_pos rfl, if_neg h20]
theorem step_bare (h : mayT ⟨8, tv, ts, tp⟩ = true) : stepO F i ⟨8, tv, ts, tp⟩ (L, ls, []) = .inr (L, i, 3) := by
 unfold stepO; rw [if_neg (by rw [h]; decide), if_neg (by decide : ¬ (8 : Int) = 7), if_pos rfl]
theorem step_shut (h : mayT ⟨8, tv, ts, tp⟩ = true) (ha : arrB L l0 = (L1, o, 0)) : stepO F i ⟨8, tv, ts, tp⟩ (L, l0 :: ls, b0 :: bg) = .inl (L1, putB o ls, bg) := by
 unfold stepO; rw [if_neg (by rw [h]; decide), if_neg (by decide : ¬ (8 : Int) = 7), if_pos rfl]; simp only [ha, if_true]
theorem step_shutE (h : mayT ⟨8, tv, ts, tp⟩ = true) (ha : arrB L l0 = (L1, o, e1)) (he : e1 ≠ 0) : stepO F i ⟨8, tv, ts, tp⟩ (L, l0 :: ls, b0 :: bg) = .inr (L1, i, e1) := by
 unfold stepO; rw [if_neg (by rw [h]; decide), if_neg (by decide : ¬ (8 : Int) = 7), if_pos rfl]; simp only [ha, if_neg he]
theorem step_leaf (h : mayT ⟨tk, tv, ts, tp⟩ = true) (h7 : tk ≠ 7) (h8 : tk ≠ 8) (ha : leafB F L ⟨tk, tv, ts, tp⟩ = (L1, o, 0)) : stepO F i ⟨tk, tv, ts, tp⟩ (L, l0 :: ls0, bg) = .inl (L1, (l0 ++ [o]) :: ls0, bg) := by
 unfold stepO; rw [if_neg (by rw [h]; decide), if_neg h7, if_neg h8, ha]; rfl
theorem step_leafE (h : mayT ⟨tk, tv, ts, tp⟩ = true) (h7 : tk ≠ 7) (h8 : tk ≠ 8) (ha : leafB F L ⟨tk, tv, ts, tp⟩ = (L1, o, e1)) (he : e1 ≠ 0) : stepO F i ⟨tk, tv, ts, tp⟩ (L, ls, bg) = .inr (L1, i, e1) := by
 unfold stepO; rw [if_neg (by rw [h]; decide), if_neg h7, if_neg h8, ha, if_neg he]
theorem leaf_1 : leafB F L ⟨1, tv, ts, tp⟩ = (L, ⟨3, false, tv, 0, 0, ⟨#[]⟩⟩, 0) := rfl
theorem leaf_2 : leafB F L ⟨2, tv, ts, tp⟩ = (L, ⟨4, false, tv, 0, 0, ⟨#[]⟩⟩, 0) := rfl
theorem leaf_3 : leafB F L ⟨3, tv, ts, tp⟩ = (L, ⟨5, true, 0, 0, 0, ts⟩, 0) := rfl
theorem leaf_4 : leafB F L ⟨4, tv, ts, tp⟩ = (L, ⟨5, false, 0, 0, 0, ts⟩, 0) := rfl
theorem leaf_5 : leafB F L ⟨5, tv, ts, tp⟩ = (L, F L ts) := rfl
theorem leaf_6 : leafB F L ⟨6, tv, ts, tp⟩ = stringH L ts := rfl
theorem leaf_o (h6 : tk ≠ 6) (h5 : tk ≠ 5) (h1 : tk ≠ 1) (h2 : tk ≠ 2) (h3 : tk ≠ 3) (h4 : tk ≠ 4) : leafB F L ⟨tk, tv, ts, tp⟩ = (L, ⟨5, true, 0, 0, 0, signN tk⟩, 0) := by
 unfold leafB; rw [if_neg h6, if_neg h5, if_neg h1, if_neg h2, if_neg (fun h => h.elim h3 h4)]
end
section
variable {w0 w w' : World} {M M' : List (Nat × List C)} {K K' : List (Nat × Obj)} {hp bh bl bb : Nat} {ls : List (List O)} {bg : List Int}
theorem BAt.over (S : BAt w0 w M K hp bh bl bb ls bg) (h : ∀ E, Ats w0 w M (E ++ K) → Ats w0 w' M' (E ++ K')) : BAt w0 w' M' K' hp bh bl bb ls bg := by
 obtain ⟨RR, vs, RL, vl, RB, vb, h1, h2, h3, A⟩ := S; refine ⟨RR, vs, RL, vl, RB, vb, h1, h2, h3, ?_⟩; have := h (RR ++ (RL ++ (RB ++ [(bl, lsBox vl), (bb, bgBox vb), (bh, hpBox hp)]))) (by simpa using A)
 simpa using this
theorem BAt.alloc (S : BAt w0 w M K hp bh bl bb ls bg) (o : Obj) : BAt w0 (w.alloc o) M ((w.heap.size, o) :: K) hp bh bl bb ls bg := S.over fun _ A => (A.alloc o).perm List.perm_middle.symm
theorem BAt.keep (S : BAt w0 w M K hp bh bl bb ls bg) (h : K'.Sublist K) : BAt w0 w M K' hp bh bl bb ls bg := S.over fun _ A => A.keep (h.append_left _)
theorem BAt.putO {b : Nat} {c0 c1 c2 c3 c4 c5 : Value} {T : TypeId} (S : BAt w0 w M ((b, .cells #[c0, c1, c2, c3, c4, c5] T) :: K) hp bh bl bb ls bg) (kk : Int) (kx : Bool) (kn kp kl : Int) (ks : ByteArray) :
 BAt w0 ((((((w.setCell ⟨b, 0, none⟩ (.int .i64 kk)).setCell ⟨b, 1, none⟩ (.bool kx)).setCell ⟨b, 2, none⟩ (.int .i64 kn)).setCell ⟨b, 3, none⟩ (.int .i64 kp)).setCell ⟨b, 4, none⟩ (.int .i64 kl)).setCell ⟨b, 5, none⟩ (.string ks)) M ((b, .cells #[.int .i64 kk, .bool kx, .int .i64 kn, .int .i64 kp, .int .i64 kl, .string ks] T) :: K) hp bh bl bb ls bg :=
 S.over fun _ A => ((A.perm List.perm_middle).putO kk kx kn kp kl ks).perm List.perm_middle.symm
theorem BAt.ask {f : Nat} {args : Array Value} {P : Value → Prop} (S : BAt w0 w M K hp bh bl bb ls bg)
 (h : ∀ E, Ats w0 w M (E ++ K) → Calls Tryz.prog f args w fun e w' => ∃ r, e = .returned r ∧ P r ∧ Ats w0 w' M' (E ++ K)) :
 Calls Tryz.prog f args w fun e w' => ∃ r, e = .returned r ∧ P r ∧ BAt w0 w' M' K hp bh bl bb ls bg := by
 obtain ⟨RR, vs, RL, vl, RB, vb, h1, h2, h3, A⟩ := S; refine (h (RR ++ (RL ++ (RB ++ [(bl, lsBox vl), (bb, bgBox vb), (bh, hpBox hp)]))) (by simpa using A)).mono ?_; rintro e w' ⟨r, e1, e2, A'⟩; exact ⟨r, e1, e2, RR, vs, RL, vl, RB, vb, h1, h2, h3, by simpa using A'⟩
theorem BAt.askR {f : Nat} {args : Array Value} {r : Value} (S : BAt w0 w M K hp bh bl bb ls bg)
 (h : ∀ E, Ats w0 w M (E ++ K) → Calls Tryz.prog f args w fun e w' => e = .returned r ∧ Ats w0 w' M' (E ++ K)) :
 Calls Tryz.prog f args w fun e w' => e = .returned r ∧ BAt w0 w' M' K hp bh bl bb ls bg := by
 obtain ⟨RR, vs, RL, vl, RB, vb, h1, h2, h3, A⟩ := S; refine (h (RR ++ (RL ++ (RB ++ [(bl, lsBox vl), (bb, bgBox vb), (bh, hpBox hp)]))) (by simpa using A)).mono ?_; rintro e w' ⟨e1, A'⟩; exact ⟨e1, RR, vs, RL, vl, RB, vb, h1, h2, h3, by simpa using A'⟩
theorem BAt.box (S : BAt w0 w M K hp bh bl bb ls bg) (q : Nat × Obj) (hq : q ∈ K) : w.heap[q.1]? = some q.2 := by
 obtain ⟨RR, vs, RL, vl, RB, vb, h1, h2, h3, A⟩ := S; exact A.box q (by simp [hq])
theorem BAt.hbox (S : BAt w0 w M K hp bh bl bb ls bg) : w.heap[bh]? = some (hpBox hp) := by
 obtain ⟨RR, vs, RL, vl, RB, vb, h1, h2, h3, A⟩ := S; exact A.box (bh, hpBox hp) (by simp)
theorem BAt.began (S : BAt w0 w M K hp bh bl bb ls bg) : ∃ a c, w.heap[bb]? = some (bgBox (.slice a bg.length c)) := by
 obtain ⟨RR, vs, RL, vl, RB, vb, h1, h2, h3, A⟩ := S; obtain ⟨a, c, rfl, -⟩ := rowG_slice h3; exact ⟨a, c, A.box (bb, bgBox (.slice a bg.length c)) (by simp)⟩
theorem BAt.last {b : Int} (S : BAt w0 w M K hp bh bl bb ls (b :: bg)) : ∃ g c, w.heap[bb]? = some (bgBox (.slice (some ⟨g, 0, none⟩) (bg.length + 1) c)) ∧ w.cell? ⟨g, bg.length, none⟩ = some (.int .i64 b) := by
 obtain ⟨RR, vs, RL, vl, RB, vb, h1, h2, h3, A⟩ := S; obtain ⟨g, cap, cur, rfl, rfl, hc⟩ := h3.shape (by simp); refine ⟨g, cap, A.box (bb, bgBox (.slice (some ⟨g, 0, none⟩) (bg.length + 1) cap)) (by simp), ?_⟩; rw [cells_of (A.box (g, .cells cur 3) (by simp)) bg.length, hc _ (by simp)]; simp
theorem BAt.base (S : BAt w0 w M K hp bh bl bb ls bg) : Ats w0 w M K := by
 obtain ⟨RR, vs, RL, vl, RB, vb, h1, h2, h3, A⟩ := S; refine A.keep ?_; exact (((((List.sublist_cons_self _ _).trans (List.sublist_cons_self _ _)).trans (List.sublist_cons_self _ _)).trans (List.sublist_append_right RB _)).trans (List.sublist_append_right RL _)).trans (List.sublist_append_right RR _)
theorem BAt.first {l : List O} (S : BAt w0 w M K hp bh bl bb [l] bg) : ∃ g c v R, w.heap[bl]? = some (lsBox (.slice (some ⟨g, 0, none⟩) 1 c)) ∧ w.cell? ⟨g, 0, none⟩ = some v ∧ RowG 49 6 R v l.length (l.flatMap O.cells) ∧ ∀ w', Chg NoB w w' → Ats w0 w' M (R ++ K) := by
 obtain ⟨RR0, vs0, RL, vl, RB, vb, hrows, h2, h3, A⟩ := S
 cases hrows with
 | @cons R RR v vs _ _ hR hRR =>
 cases hRR
 obtain ⟨g, cap, cur, rfl, rfl, hc⟩ := h2.shape (by simp); refine ⟨g, cap, v, R, A.box (bl, lsBox (.slice (some ⟨g, 0, none⟩) 1 cap)) (by simp), ?_, hR, fun w' X => ?_⟩
 · rw [cells_of (A.box (g, .cells cur 44) (by simp)) 0, hc _ (by simp)]; rfl
 · refine (A.pure X).keep ?_; rw [List.append_nil]; exact List.Sublist.append_left (((((List.sublist_cons_self _ _).trans (List.sublist_cons_self _ _)).trans (List.sublist_cons_self _ _)).trans (List.sublist_append_right RB _)).trans (List.sublist_append_right _ _)) _
end
end
end Go.Proofs.YtpiomapnmempoaaGreat
