/- Parts of the proof: Row, Sv, Sv2, Sv3, Ast, Tel. -/
import Derived.Lib.AppendStr
import Derived.Deep.DrawnRows
import Derived.BigRegion
import Derived.Test.YtpiomapnmempoaaGreatY07
namespace Go.Proofs.YtpiomapnmempoaaGreat
open Go.RowKit
variable {w w' w0 : World} {M : List (Nat × List C)} {K R : List (Nat × Obj)} {b hp n sp sz : Nat} {T : TypeId} {v : Value} {xs : List Value} {L : List C}
theorem Ats.renewG {b' : Nat} {o o' : Obj} (A : Ats w0 w M ((b, o) :: K)) (X : Chg (· = b) w w') (hb : w'.heap[b']? = some o') (hg : b' = b ∨ w.heap.size ≤ b') : Ats w0 w' M ((b', o') :: K) := by
 obtain ⟨h, h1, H, X0, D, F, k, n⟩ := A; obtain ⟨kb, kn, kg⟩ := k _ (List.mem_cons_self ..); simp only at kb kn kg; have lt := reps_lt H; have lk : ∀ q ∈ K, q.1 < w.heap.size := fun q hq => blk_lt (k q (List.mem_cons_of_mem _ hq)).1; rw [List.map_cons, List.nodup_cons] at n; refine ⟨h, h1, fun x hx => (H x hx).chg X fun c hc e => kn (List.mem_flatMap.2 ⟨x, hx, e ▸ hc⟩), X0.trans' X (fun i hi e => by omega), D, F, fun q hq => ?_, ?_⟩
 · rcases List.mem_cons.1 hq with rfl | hq
   · refine ⟨hb, fun hf => ?_, ?_⟩
     · rcases hg with rfl | hg
       · exact kn hf
       · have := lt _ hf; simp only at this; omega
     · rcases hg with rfl | hg
       · exact kg
       · exact Nat.le_trans X0.size hg
   · refine ⟨X.blk (k q (List.mem_cons_of_mem _ hq)).1 fun e => n.1 (List.mem_map.2 ⟨q, hq, e⟩), (k q (List.mem_cons_of_mem _ hq)).2⟩
 · rw [List.map_cons, List.nodup_cons]; refine ⟨fun hm => ?_, n.2⟩; obtain ⟨q, hq, e⟩ := List.mem_map.1 hm
   rcases hg with rfl | hg
   · exact n.1 (List.mem_map.2 ⟨q, hq, e⟩)
   · have := lk q hq; simp only at e; omega
def RowG (T : TypeId) (sz : Nat) (R : List (Nat × Obj)) (v : Value) (n : Nat) (xs : List Value) : Prop :=
 (v = .slice none 0 0 ∧ n = 0 ∧ xs = [] ∧ R = []) ∨
 ∃ g cap cur, v = .slice (some ⟨g, 0, none⟩) n cap ∧ R = [(g, .cells cur T)] ∧ n ≤ cap ∧ cap ≤ maxLen ∧ cur.size = cap * sz ∧ cur.toList.take (n * sz) = xs ∧ xs.length = n * sz
theorem Ats.ownsG (A : Ats w0 w M (R ++ K)) (h : RowG T sz R v n xs) : w.ownsRow w0.heap.size T sz v n xs := by
 rcases h with ⟨rfl, rfl, rfl, rfl⟩ | ⟨g, cap, cur, rfl, rfl, h1, h2, h3, h4, h5⟩
 · exact World.ownsRow_nil _ _ _ _
 · exact ⟨h5, .inr ⟨g, cap, cur, rfl, A.box_ge (g, .cells cur T) (List.mem_cons_self ..), A.box (g, .cells cur T) (List.mem_cons_self ..), h1, h2, h3, h4⟩⟩
theorem Ats.grownG {v' : Value} {m : Nat} {xs' : List Value} (A : Ats w0 w M (R ++ K)) (h : RowG T sz R v n xs)
 (hown : w'.ownsRow w0.heap.size T sz v' (n + m) xs') (hgr : w.grownBy w' v.ownBlock) (hob : v'.ownBlock = v.ownBlock ∨ v'.ownBlock = some w.heap.size) (hm : 0 < m) :
 ∃ R', RowG T sz R' v' (n + m) xs' ∧ Ats w0 w' M (R' ++ K) := by
 obtain ⟨hl, ⟨rfl, h0⟩ | ⟨g', cap', cur', rfl, hg0, hg', c1, c2, c3, c4⟩⟩ := hown
 · omega
 refine ⟨[(g', .cells cur' T)], .inr ⟨g', cap', cur', rfl, rfl, c1, c2, c3, c4, hl⟩, ?_⟩
 rcases h with ⟨rfl, rfl, rfl, rfl⟩ | ⟨g, cap, cur, rfl, rfl, -⟩
 · have C1 : Chg NoB w w' := Chg.grown (Chg.refl NoB w) hgr (fun k hk => by simp [Value.ownBlock] at hk); refine A.got C1 hg' ?_
   rcases hob with e | e
   · simp [Value.ownBlock] at e
   · simp [Value.ownBlock] at e; omega
 · have C1 : Chg (· = g) w w' := Chg.grown (Chg.refl (· = g) w) hgr (fun k hk => by simp [Value.ownBlock] at hk; exact .inl hk.symm); refine Ats.renewG A C1 hg' ?_
   rcases hob with e | e
   · simp [Value.ownBlock] at e; exact .inl e
   · simp [Value.ownBlock] at e; exact .inr (by omega)
theorem RowG.shape (h : RowG T sz R v n xs) (hn : 0 < n) :
 ∃ g cap cur, v = .slice (some ⟨g, 0, none⟩) n cap ∧ R = [(g, .cells cur T)] ∧ ∀ i, i < n * sz → cur[i]? = xs[i]? := by
 rcases h with ⟨-, h0, -⟩ | ⟨g, cap, cur, h1, h2, -, -, -, h3, -⟩
 · omega
 · exact ⟨g, cap, cur, h1, h2, fun i hi => by rw [← h3, List.getElem?_take_of_lt hi, Array.getElem?_toList]⟩
def svF (l : List (Int × Nat)) (last : Int) (j : Nat) : Value :=
 if j = 20 then .int .i64 l.length else if j = 21 then .int .i64 last else
  match l[j / 2]? with
  | none => if j % 2 = 0 then .int .i64 0 else .pointer none
  | some q => if j % 2 = 0 then .int .i64 q.1 else ptr q.2
def svCs (l : List (Int × Nat)) (last : Int) : Array Value := ((List.range 22).map (svF l last)).toArray
abbrev svBox (l : List (Int × Nat)) (last : Int) : Obj := .cells (svCs l last) 96
theorem sv_get (l : List (Int × Nat)) (last : Int) (j : Nat) (hj : j < 22) : (svCs l last)[j]? = some (svF l last j) := by
 simp [svCs, hj]
theorem sv_size (l : List (Int × Nat)) (last : Int) : (svCs l last).size = 22 := by simp [svCs]
theorem sv_open (l : List (Int × Nat)) (last : Int) : (svCs l last)[20]? = some (.int .i64 l.length) := by rw [sv_get _ _ _ (by decide)]; simp [svF]
theorem sv_last (l : List (Int × Nat)) (last : Int) : (svCs l last)[21]? = some (.int .i64 last) := by rw [sv_get _ _ _ (by decide)]; simp [svF]
theorem sv_num (l : List (Int × Nat)) (last : Int) (hl : l.length ≤ 10) {i : Nat} {q : Int × Nat} (h : l[i]? = some q) : (svCs l last)[i * 2]? = some (.int .i64 q.1) := by
 have hi : i < l.length := (List.getElem?_eq_some_iff.1 h).1; rw [sv_get _ _ _ (by omega)]; unfold svF; rw [if_neg (by omega), if_neg (by omega), show i * 2 / 2 = i by omega, h]; simp
theorem sv_ptr (l : List (Int × Nat)) (last : Int) (hl : l.length ≤ 10) {i : Nat} {q : Int × Nat} (h : l[i]? = some q) : (svCs l last)[i * 2 + 1]? = some (ptr q.2) := by
 have hi : i < l.length := (List.getElem?_eq_some_iff.1 h).1; rw [sv_get _ _ _ (by omega)]; unfold svF; rw [if_neg (by omega), if_neg (by omega), show (i * 2 + 1) / 2 = i by omega, h]; simp
theorem sv_ext (a : Array Value) (l : List (Int × Nat)) (last : Int) (hs : a.size = 22) (h : ∀ j, j < 22 → a[j]? = some (svF l last j)) : a = svCs l last := by
 apply Array.ext_getElem?
 intro j
 by_cases hj : j < 22
 · rw [h j hj, sv_get _ _ _ hj]
 · rw [Array.getElem?_eq_none (by omega), Array.getElem?_eq_none (by rw [sv_size]; omega)]
theorem sv_setLast (l : List (Int × Nat)) (last x : Int) : (svCs l last).setIfInBounds 21 (.int .i64 x) = svCs l x := by
 refine sv_ext _ _ _ (by simp [sv_size]) fun j hj => ?_; rw [Array.getElem?_setIfInBounds, sv_size]
 by_cases e : 21 = j
 · subst e; simp [svF]
 · rw [if_neg e, sv_get _ _ _ hj]; simp only [svF]; rw [if_neg (show ¬ j = 21 by omega), if_neg (show ¬ j = 21 by omega)]
theorem sv_push (l : List (Int × Nat)) (last : Int) (q : Int × Nat) (hl : l.length < 10) :
 (((svCs l last).setIfInBounds (l.length * 2) (.int .i64 q.1)).setIfInBounds (l.length * 2 + 1) (ptr q.2)).setIfInBounds 20 (.int .i64 (l.length + 1 : Int)) = svCs (l ++ [q]) last := by
 refine sv_ext _ _ _ (by simp [sv_size]) fun j hj => ?_; rw [Array.getElem?_setIfInBounds, Array.getElem?_setIfInBounds, Array.getElem?_setIfInBounds]; simp only [Array.size_setIfInBounds, sv_size]
 by_cases e : 20 = j
 · subst e; simp [svF]
 rw [if_neg e]
 by_cases e1 : l.length * 2 + 1 = j
 · rw [if_pos e1, if_pos (by omega)]; unfold svF; rw [if_neg (by omega), if_neg (by omega), show j / 2 = l.length by omega]; simp; omega
 rw [if_neg e1]
 by_cases e2 : l.length * 2 = j
 · rw [if_pos e2, if_pos (by omega)]; unfold svF; rw [if_neg (by omega), if_neg (by omega), show j / 2 = l.length by omega]; simp; omega
 have n20 : ¬ j = 20 := by omega
 rw [if_neg e2, sv_get _ _ _ hj]; simp only [svF, if_neg n20]
 by_cases e3 : j = 21
 · simp only [if_pos e3]
 · simp only [if_neg e3]
   by_cases hlt : j / 2 < l.length
   · rw [List.getElem?_append_left hlt]
   · rw [List.getElem?_eq_none (by omega), List.getElem?_eq_none (by simp; omega)]
def hit (o : O) (q : Int × Nat) : Bool := eqO ⟨o.kind, false, o.n, o.pos, o.len, o.s⟩ ⟨11, false, q.1, 0, 0, ⟨#[]⟩⟩
def FindS (l : List (Int × Nat)) (o : O) (r : Int) : Prop :=
 (∃ (i : Nat) (q : Int × Nat), r = i ∧ l[i]? = some q ∧ hit o q = true ∧ ∀ (j : Nat) (p : Int × Nat), j < i → l[j]? = some p → hit o p = false) ∨ (r = -1 ∧ ∀ q ∈ l, hit o q = false)
theorem snew_any (w : World) : Calls Tryz.prog 25 #[] w fun e w' => e = .returned (ptr w.heap.size) ∧ w.alloc (svBox [] 0) = w' := by
 go_enter Tryz.func25, Tryz.ntmps25
 go_wp2
 go_ret; exact ⟨rfl, rfl⟩
set_option maxRecDepth 100000 in
theorem slen_any (sp : Nat) (l : List (Int × Nat)) (last : Int) (w : World) {fz : Nat × Nat} (hb : w.heap[sp]? = some (.cells (svCs l last) 96 fz)) :
 Calls Tryz.prog 232 #[ptr sp] w fun e w' => e = .returned (.int .i64 l.length) ∧ w = w' := by
 have R := cells_of hb; have R0 := sv_open l last; go_enter Tryz.func232, Tryz.ntmps232
 go_wp2
 go_ret; exact ⟨rfl, rfl⟩
set_option maxRecDepth 100000 in
set_option maxHeartbeats 1000000 in
theorem sfind_any (sp : Nat) (l : List (Int × Nat)) (last : Int) (w : World) {fz : Nat × Nat} (hb : w.heap[sp]? = some (.cells (svCs l last) 96 fz)) (hl : l.length ≤ 10) (o : O) (r : Int) (hr : FindS l o r) :
 Calls Tryz.prog 253 #[ptr sp, o.val] w fun e w' => e = .returned (.int .i64 r) ∧ Chg NoB w w' := by
 obtain ⟨k, ex, n, p, le, s⟩ := o; have lsp := blk_lt hb; go_enter Tryz.func253, Tryz.ntmps253
 go_wp2_with fail
 have hX := (Chg.refl NoB w).alloc (.cells #[.int .i64 k, .bool false, .int .i64 n, .int .i64 p, .int .i64 le, .string s] 49); have hB := blk_new w (.cells #[.int .i64 k, .bool false, .int .i64 n, .int .i64 p, .int .i64 le, .string s] 49); have hS := hX.blk hb id; generalize w.alloc (.cells #[.int .i64 k, .bool false, .int .i64 n, .int .i64 p, .int .i64 le, .string s] 49) = w1 at *; have T0 := sv_open l last
 go_loopw [5] (fun c wr => ∃ j : Nat, j ≤ l.length ∧ c = .int .i64 j ∧ (∀ (i : Nat) (q : Int × Nat), i < j → l[i]? = some q → hit ⟨k, ex, n, p, le, s⟩ q = false) ∧ Chg NoB w1 wr) (fun c _ => l.length - (intOf c).toNat)
 case atStart => exact ⟨0, Nat.zero_le _, rfl, fun i q hi => absurd hi (by omega), Chg.refl _ _⟩
 case round =>
  obtain ⟨j, hj, rfl, hno, X⟩ := hrel; have R1 := cells_of (X.blk hS id); have R2 := cells_of (X.blk hB id)
  by_cases hlt : j < l.length
  · obtain ⟨q, hq⟩ : ∃ q, l[j]? = some q := ⟨l[j], by simp [hlt]⟩
    have T1 := sv_num l last hl hq
    have T2 : j < 10 := by omega
    by_cases hh : hit ⟨k, ex, n, p, le, s⟩ q = true
    · have hr' : r = j := by
       rcases hr with ⟨i, q', rfl, hi, hhi, hbe⟩ | ⟨-, hal⟩
       · rcases Nat.lt_trichotomy i j with h | h | h
         · rw [hno i q' h hi] at hhi; simp at hhi
         · rw [h]
         · rw [hbe j q h hq] at hh; simp at hh
       · rw [hal q (List.mem_of_getElem? hq)] at hh; simp at hh
      have E : eqO ⟨k, false, n, p, le, s⟩ ⟨11, false, q.1, 0, 0, ⟨#[]⟩⟩ = true := hh; subst hr'; clear hno hr hh; go_wp2_with fail
      go_quiet (fail)
      go_wp2
      go_ret; exact ⟨rfl, (hX.pure X).drewN _⟩
    · have hf : hit ⟨k, ex, n, p, le, s⟩ q = false := by simpa using hh
      have E : eqO ⟨k, false, n, p, le, s⟩ ⟨11, false, q.1, 0, 0, ⟨#[]⟩⟩ = false := hf; have HN := Hid.mk' hno; clear hno hh; go_wp2_with fail
      go_quiet (fail)
      go_wp2_with fail
      go_roundw
      case rel => exact ⟨j + 1, by omega, by go_num, fun i q' hi hq' => by
       rcases Nat.lt_succ_iff_lt_or_eq.1 hi with h | h
       · exact HN.out i q' h hq'
       · subst h; rw [hq] at hq'; obtain rfl := Option.some.inj hq'; exact hf, X.drewN _⟩
      case measure => simp [intOf]; omega
  · have hr' : r = -1 := by
     rcases hr with ⟨i, q', rfl, hi, hhi, -⟩ | ⟨h, -⟩
     · have := hno i q' (by have := (List.getElem?_eq_some_iff.1 hi).1; omega) hi; rw [this] at hhi; simp at hhi
     · exact h
    subst hr'; clear hno hr; go_wp2_with fail
    go_ret; exact ⟨rfl, hX.pure X⟩
theorem at_copy2 (A : Ats w0 w M K) (hm : (hp, L) ∈ M) :
 Calls Tryz.prog 34 #[ptr hp] w fun r w' => ∃ gp, r = .returned (ptr gp) ∧ Ats w0 w' ((gp, L) :: M) K := by
 obtain ⟨h, rfl, rfl, H⟩ := A.rep hm; refine (copy_any h w H).mono ?_; rintro r w' ⟨rfl, h', e1, e2, H', X, F⟩; have := A.more h' H' X F; rw [e1, e2] at this; exact ⟨_, rfl, this⟩
theorem Ats.lose {o : Obj} (A : Ats w0 w M ((b, o) :: K)) (X : Chg (· = b) w w') : Ats w0 w' M K := by
 obtain ⟨h, h1, H, X0, D, F, k, n⟩ := A; obtain ⟨kb, kn, kg⟩ := k _ (List.mem_cons_self ..); simp only at kb kn kg; refine ⟨h, h1, fun x hx => (H x hx).chg X fun c hc e => kn (List.mem_flatMap.2 ⟨x, hx, e ▸ hc⟩), X0.trans' X (fun i hi e => by omega), D, F, fun q hq => ?_, ?_⟩
 · refine ⟨X.blk (k q (List.mem_cons_of_mem _ hq)).1 fun e => ?_, (k q (List.mem_cons_of_mem _ hq)).2⟩; rw [List.map_cons, List.nodup_cons] at n; exact n.1 (List.mem_map.2 ⟨q, hq, e⟩)
 · rw [List.map_cons, List.nodup_cons] at n; exact n.2
theorem Chg.own {a : World} (h : Chg (· = b) a w) (i : Nat) (u : Value) : Chg (· = b) a (w.setCell ⟨b, i, none⟩ u) := h.setCell (p := ⟨b, i, none⟩) (.inl rfl) u
abbrev svO (n : Int) : O := ⟨11, false, n, 0, 0, ⟨#[]⟩⟩
set_option maxRecDepth 100000 in
set_option maxHeartbeats 2000000 in
theorem at_save {l : List (Int × Nat)} {last : Int} (A : Ats w0 w M ((sp, svBox l last) :: K)) (hm : (hp, L) ∈ M) (hl : l.length < 10) (h0 : 0 ≤ last) (h1 : last < 1000000) :
 Calls Tryz.prog 233 #[ptr sp, ptr hp] w fun e w' => e = .returned (.tuple #[(svO (last + 1)).val, .int .i64 0]) ∧ ∃ gp, Ats w0 w' ((gp, L) :: M) ((sp, svBox (l ++ [(last + 1, gp)]) (last + 1)) :: K) := by
 have hb := A.box _ (List.mem_cons_self ..); have R := cells_of hb; have Z := free_of hb; have lsp := blk_lt hb; have T0 := sv_open l last; have T1 := sv_last l last; simp only at R lsp Z
 have hn10 : ((l.length : Int) == 10) = false := by simp; omega
 go_enter Tryz.func233, Tryz.ntmps233
 go_wp2_with fail
 have A0 := (A.put 21 (.int .i64 (last + 1))).alloc (.cells #[.int .i64 0, .bool false, .int .i64 0, .int .i64 0, .int .i64 0, .string ⟨#[]⟩] 49); rw [sv_setLast] at A0; have A1 := A0.perm (List.Perm.swap _ _ _); simp only [World.size_setCell] at A1; clear A0; generalize (w.setCell ⟨sp, 21, none⟩ (.int .i64 (last + 1))).alloc (.cells #[.int .i64 0, .bool false, .int .i64 0, .int .i64 0, .int .i64 0, .string ⟨#[]⟩] 49) = w1 at *; generalize w.heap.size = bp at *; have hb1 := A1.box _ (List.mem_cons_self ..); have R1 := cells_of hb1; have T2 := sv_open l (last + 1); have T3 := sv_last l (last + 1); have T4 : (svCs l (last + 1))[l.length * 2]? = some (svF l (last + 1) (l.length * 2)) := sv_get _ _ _ (by omega); have T5 : (svCs l (last + 1))[l.length * 2 + 1]? = some (svF l (last + 1) (l.length * 2 + 1)) := sv_get _ _ _ (by omega)
 have c20 : w1.cell? ⟨sp, 20, none⟩ = some (.int .i64 l.length) := by rw [R1 20, T2]
 have c21 : w1.cell? ⟨sp, 21, none⟩ = some (.int .i64 (last + 1)) := by rw [R1 21, T3]
 have ln : (l.length : Int) < 10 := by omega
 have ne1 : ¬ l.length * 2 = 20 := by omega
 have ne2 : ¬ l.length * 2 + 1 = 20 := by omega
 have ne3 : ¬ l.length * 2 = 21 := by omega
 have ne4 : ¬ l.length * 2 + 1 = 21 := by omega
 have K20 : ∀ (W : World) (u v : Value), ((W.setCell ⟨sp, l.length * 2, none⟩ u).setCell ⟨sp, l.length * 2 + 1, none⟩ v).cell? ⟨sp, 20, none⟩ = W.cell? ⟨sp, 20, none⟩ := fun W u v => by
  rw [World.cell?_setCell_other _ _ _ _ (by simp), World.cell?_setCell_other _ _ _ _ (by simp)]
 have K21 : ∀ (W : World) (u v : Value), ((W.setCell ⟨sp, l.length * 2, none⟩ u).setCell ⟨sp, l.length * 2 + 1, none⟩ v).cell? ⟨sp, 21, none⟩ = W.cell? ⟨sp, 21, none⟩ := fun W u v => by
  rw [World.cell?_setCell_other _ _ _ _ (by simp), World.cell?_setCell_other _ _ _ _ (by simp)]
 clear R Z T0 T1 hb hb1 A; simp only at R1; clear R1
 go_region_held3 (fun W => W.cell? ⟨sp, 20, none⟩ = some (.int .i64 l.length) ∧ W.cell? ⟨sp, 21, none⟩ = some (.int .i64 (last + 1))) (go_keep)
  ((go_at_call 34; refine (at_copy2 (A1.pure (Chg.refl NoB w1).drew) hm).mono ?_; rintro e w9 ⟨gp, rfl, A9⟩; have R9 := cells_of (A9.box _ (List.mem_cons_self ..)); have Z9 := free_of (A9.box _ (List.mem_cons_self ..)); simp only at R9 Z9; have k20 : w9.cell? ⟨sp, 20, none⟩ = some (.int .i64 l.length) := (R9 20).trans T2; have k21 : w9.cell? ⟨sp, 21, none⟩ = some (.int .i64 (last + 1)) := (R9 21).trans T3))
 have A10 := (A9.put (l.length * 2) (.int .i64 (last + 1))).put (l.length * 2 + 1) (ptr gp); generalize (w9.setCell ⟨sp, l.length * 2, none⟩ (.int .i64 (last + 1))).setCell ⟨sp, l.length * 2 + 1, none⟩ (ptr gp) = w10 at *; have hb10 := A10.box _ (List.mem_cons_self ..); have hr10 := A10.box _ (List.mem_cons_of_mem _ (List.mem_cons_self ..)); have R10 := cells_of hb10; have Z10 := free_of hb10; have Rr := cells_of hr10; have Zr := free_of hr10
 have e20 : (((svCs l (last + 1)).setIfInBounds (l.length * 2) (.int .i64 (last + 1))).setIfInBounds (l.length * 2 + 1) (ptr gp))[20]? = some (.int .i64 l.length) := by
  rw [Array.getElem?_setIfInBounds, if_neg ne2, Array.getElem?_setIfInBounds, if_neg ne1]; exact T2
 have e21 : (((svCs l (last + 1)).setIfInBounds (l.length * 2) (.int .i64 (last + 1))).setIfInBounds (l.length * 2 + 1) (ptr gp))[21]? = some (.int .i64 (last + 1)) := by
  rw [Array.getElem?_setIfInBounds, if_neg ne4, Array.getElem?_setIfInBounds, if_neg ne3]; exact T3
 have l10 := blk_lt hb10; have m10 := blk_lt hr10; have A11 := A10.put 20 (.int .i64 (l.length + 1 : Int)); rw [sv_push l (last + 1) (last + 1, gp) hl] at A11; have A12 := A11.perm (List.Perm.swap _ _ _); simp only at R10 Z10 Rr Zr l10 m10; generalize (((svCs l (last + 1)).setIfInBounds (l.length * 2) (.int .i64 (last + 1))).setIfInBounds (l.length * 2 + 1) (ptr gp)) = cs10 at *
 have nsb : ¬ bp = sp := by omega
 have nsb' : ¬ sp = bp := by omega
 clear A1 A9 A10 A11 R9 Z9 k20 k21 K20 K21 c20 c21 T2 T3 T4 T5 hb10 hr10; go_wp2
 refine bodyPost_ret (v := .tuple #[(svO (last + 1)).val, .int .i64 0]) (by simp [results, Tryz.results233, go_sem, Rr, cell_set_at]) rfl ⟨rfl, gp, A12.lose ?_⟩
 iterate 6 (refine Chg.own ?_ _ _)
 exact Chg.refl _ _
def newerS (r n : Int) (o x : O) : Bool :=
 if r < 0 then false else if x.kind = 9 ∨ x.kind = 8 ∨ x.kind = 10 then decide (n ≤ x.n) else if x.kind = 11 then decide (o.n ≤ x.n) else false
set_option maxRecDepth 100000 in
set_option maxHeartbeats 2000000 in
theorem at_newer {l : List (Int × Nat)} {last : Int} (A : Ats w0 w M K) (hs : (sp, svBox l last) ∈ K) (hl : l.length ≤ 10) (o x : O) (r n : Int) (hr : FindS l o r)
 (hn : 0 ≤ r → ∃ q G, l[r.toNat]? = some q ∧ (q.2, G) ∈ M ∧ (G.length : Int) = n) :
 Calls Tryz.prog 235 #[ptr sp, o.val, x.val] w fun e w' => e = .returned (.bool (newerS r n o x)) ∧ Ats w0 w' M K := by
 obtain ⟨k, ex, m, p, le, s⟩ := o; obtain ⟨k', ex', m', p', le', s'⟩ := x; have hb := A.box _ hs; have lsp := blk_lt hb; simp only at lsp; have FK := fun w' (h : w'.heap[sp]? = some (svBox l last)) => sfind_any sp l last w' h hl ⟨k, ex, m, p, le, s⟩ r hr; have hXX := ((Chg.refl NoB w).alloc (.cells #[.int .i64 k, .bool ex, .int .i64 m, .int .i64 p, .int .i64 le, .string s] 49)).alloc (.cells #[.int .i64 k', .bool ex', .int .i64 m', .int .i64 p', .int .i64 le', .string s'] 49); have hB0 := blk_alloc (blk_new w (.cells #[.int .i64 k, .bool ex, .int .i64 m, .int .i64 p, .int .i64 le, .string s] 49)) (.cells #[.int .i64 k', .bool ex', .int .i64 m', .int .i64 p', .int .i64 le', .string s'] 49); have hB1 := blk_new1 w (.cells #[.int .i64 k, .bool ex, .int .i64 m, .int .i64 p, .int .i64 le, .string s] 49) (.cells #[.int .i64 k', .bool ex', .int .i64 m', .int .i64 p', .int .i64 le', .string s'] 49); have hbs := hXX.blk hb id; go_enter Tryz.func235, Tryz.ntmps235
 go_wp2_with fail
 refine (FK _ hbs).mono ?_; rintro e w2 ⟨rfl, hb2⟩; have R0 := cells_of (hb2.blk hB0 id); have R1 := cells_of (hb2.blk hB1 id); have hb3 := hb2.blk hbs id; have A2 := A.pure (hXX.pure hb2); clear FK hB0 hB1 hbs hb2 hXX hr
 by_cases h0 : r < 0
 · have e0 : newerS r n ⟨k, ex, m, p, le, s⟩ ⟨k', ex', m', p', le', s'⟩ = false := by simp [newerS, h0]
   have HE := Hid.mk' e0; clear e0; clear hn; go_wp2
   go_ret; rw [HE.out]; exact ⟨rfl, A2⟩
 obtain ⟨q, G, hq, hG, hGn⟩ := hn (by omega)
 by_cases hk : k' = 9 ∨ k' = 8 ∨ k' = 10
 · have e0 : newerS r n ⟨k, ex, m, p, le, s⟩ ⟨k', ex', m', p', le', s'⟩ = decide (n ≤ m') := by simp only [newerS, if_neg h0, if_pos hk]
   have HE := Hid.mk' e0; clear e0; have Rs := cells_of hb3; have T1 := sv_ptr l last hl hq
   have T2 : r.toNat < 10 := by have := (List.getElem?_eq_some_iff.1 hq).1; omega
   have T3 : r < 10 := by omega
   rcases hk with rfl | rfl | rfl
   all_goals
    go_wp2_with fail
    go_quiet ((go_at_call 195; exact Calls.quiet_of_same ((at_cells (A2.pure ((Chg.refl NoB w2).drewN _)) hG).mono (fun e w' ⟨h1, h2⟩ => ⟨h1, h2.symm⟩))))
    go_wp2
    go_ret; rw [HE.out]; exact ⟨by rw [hGn]; rfl, A2.pure ((Chg.refl NoB w2).drewN _)⟩
 · have h9 : ¬ k' = 9 := fun h => hk (.inl h); have h8 : ¬ k' = 8 := fun h => hk (.inr (.inl h)); have h10 : ¬ k' = 10 := fun h => hk (.inr (.inr h))
   by_cases h11 : k' = 11
   · have e0 : newerS r n ⟨k, ex, m, p, le, s⟩ ⟨k', ex', m', p', le', s'⟩ = decide (m ≤ m') := by simp only [newerS, if_neg h0, if_neg hk, if_pos h11]
     have HE := Hid.mk' e0; clear e0; subst h11; go_wp2
     go_ret; rw [HE.out]; exact ⟨rfl, A2⟩
   · have e0 : newerS r n ⟨k, ex, m, p, le, s⟩ ⟨k', ex', m', p', le', s'⟩ = false := by simp only [newerS, if_neg h0, if_neg hk, if_neg h11]
     have HE := Hid.mk' e0; clear e0
     have b9 : (k' == 9) = false := by simpa using h9
     have b8 : (k' == 8) = false := by simpa using h8
     have b10 : (k' == 10) = false := by simpa using h10
     have b11 : (k' == 11) = false := by simpa using h11
     go_wp2
     go_ret; rw [HE.out]; exact ⟨rfl, A2⟩
def svZ (j : Nat) : Value := if j % 2 = 0 then .int .i64 0 else .pointer none
def svM (l : List (Int × Nat)) (i k : Nat) (last : Int) : Array Value := ((List.range 22).map fun j => if 2 * i ≤ j ∧ j < 2 * k then svZ j else svF l last j).toArray
theorem svM_get (l : List (Int × Nat)) (i k : Nat) (last : Int) (j : Nat) (hj : j < 22) : (svM l i k last)[j]? = some (if 2 * i ≤ j ∧ j < 2 * k then svZ j else svF l last j) := by
 simp [svM, hj]
theorem svM_size (l : List (Int × Nat)) (i k : Nat) (last : Int) : (svM l i k last).size = 22 := by simp [svM]
theorem svM_start (l : List (Int × Nat)) (i : Nat) (last : Int) : svM l i i last = svCs l last := by
 refine sv_ext _ _ _ (svM_size ..) fun j hj => ?_; rw [svM_get _ _ _ _ _ hj, if_neg (by omega)]
theorem svM_open (l : List (Int × Nat)) (i k : Nat) (last : Int) (hk : k ≤ 10) : (svM l i k last)[20]? = some (.int .i64 l.length) := by
 rw [svM_get _ _ _ _ _ (by decide), if_neg (by omega)]; simp [svF]
theorem svM_step (l : List (Int × Nat)) (i k : Nat) (last : Int) (hi : i ≤ k) (hk : k < 10) : ((svM l i k last).setIfInBounds (k * 2) (.int .i64 0)).setIfInBounds (k * 2 + 1) (.pointer none) = svM l i (k + 1) last := by
 apply Array.ext_getElem?
 intro j; rw [Array.getElem?_setIfInBounds, Array.getElem?_setIfInBounds]; simp only [Array.size_setIfInBounds, svM_size]
 by_cases hj : j < 22
 · rw [svM_get _ _ _ _ _ hj, svM_get _ _ _ _ _ hj]
   by_cases e1 : k * 2 + 1 = j
   · rw [if_pos e1, if_pos (by omega), if_pos (by omega)]; unfold svZ; rw [if_neg (by omega)]
   rw [if_neg e1]
   by_cases e2 : k * 2 = j
   · rw [if_pos e2, if_pos (by omega), if_pos (by omega)]; unfold svZ; rw [if_pos (by omega)]
   rw [if_neg e2]
   by_cases e3 : 2 * i ≤ j ∧ j < 2 * k
   · rw [if_pos e3, if_pos (by omega)]
   · rw [if_neg e3, if_neg (by omega)]
 · rw [if_neg (by omega), if_neg (by omega), Array.getElem?_eq_none (by rw [svM_size]; omega), Array.getElem?_eq_none (by rw [svM_size]; omega)]
theorem svM_end (l : List (Int × Nat)) (i : Nat) (last : Int) (hi : i ≤ l.length) (hl : l.length ≤ 10) : (svM l i l.length last).setIfInBounds 20 (.int .i64 i) = svCs (l.take i) last := by
 refine sv_ext _ _ _ (by simp [svM_size]) fun j hj => ?_; rw [Array.getElem?_setIfInBounds, svM_size]
 by_cases e : 20 = j
 · subst e; simp [svF]; omega
 have n20 : ¬ j = 20 := by omega
 rw [if_neg e, svM_get _ _ _ _ _ hj]
 by_cases e3 : j = 21
 · subst e3; rw [if_neg (by omega)]; simp [svF]
 simp only [svF, if_neg n20, if_neg e3]
 by_cases h1 : j / 2 < i
 · rw [if_neg (by omega), List.getElem?_take_of_lt h1]
 · have e2 : (l.take i)[j / 2]? = none := List.getElem?_eq_none (by simp; omega); rw [e2]
   by_cases h2 : j < 2 * l.length
   · rw [if_pos (by omega)]; rfl
   · rw [if_neg (by omega), List.getElem?_eq_none (by omega)]
set_option maxRecDepth 100000 in
set_option maxHeartbeats 2000000 in
theorem at_back {G : List C} {l : List (Int × Nat)} {last : Int} (A : Ats w0 w ((hp, L) :: M) ((sp, svBox l last) :: K)) (hl : l.length ≤ 10) (o : O) (i : Nat) (q : Int × Nat) (hr : FindS l o i) (hq : l[i]? = some q) (hG : (q.2, G) ∈ M) :
 Calls Tryz.prog 236 #[ptr sp, ptr hp, o.val] w fun e w' => e = .returned (.int .i64 0) ∧ Ats w0 w' ((hp, G) :: M) ((sp, svBox (l.take i) last) :: K) := by
 obtain ⟨k, ex, m, p, le, s⟩ := o; have hb := A.box _ (List.mem_cons_self ..); have FK := fun w' (h : w'.heap[sp]? = some (svBox l last)) => sfind_any sp l last w' h hl ⟨k, ex, m, p, le, s⟩ i hr; have hXX := (Chg.refl NoB w).alloc (.cells #[.int .i64 k, .bool ex, .int .i64 m, .int .i64 p, .int .i64 le, .string s] 49); have hbs := hXX.blk hb id; have hi : i < l.length := (List.getElem?_eq_some_iff.1 hq).1; simp only at hb hbs; go_enter Tryz.func236, Tryz.ntmps236
 go_wp2_with fail
 refine (FK _ hbs).mono ?_; rintro e w2 ⟨rfl, hb2⟩; have A2 := A.pure (hXX.pure hb2); clear FK hbs hb2 hXX hr; have R2 := cells_of (A2.box _ (List.mem_cons_self ..)); have T1 := sv_ptr l last hl hq
 have T2 : i < 10 := by omega
 simp only at R2; go_wp2_with fail
 refine (at_become A2 hG).mono ?_; rintro e w3 ⟨rfl, A3⟩; simp only [svBox, ← svM_start l i last] at A3; clear R2 T1 A2 A hb; go_wp2_with fail
 go_loopw [8] (fun c wr => ∃ j : Nat, i ≤ j ∧ j ≤ l.length ∧ c = .int .i64 j ∧ Ats w0 wr ((hp, G) :: M) ((sp, .cells (svM l i j last) 96) :: K)) (fun c _ => l.length - (intOf c).toNat)
 case atStart => exact ⟨i, Nat.le_refl _, by omega, rfl, A3⟩
 case round =>
  obtain ⟨j, hij, hj, rfl, A4⟩ := hrel; have hb4 := A4.box _ (List.mem_cons_self ..); have R4 := cells_of hb4; have Z4 := free_of hb4; have T4 := svM_open l i j last (by omega); simp only at R4 Z4
  by_cases hlt : j < l.length
  · have T5 : j < 10 := by omega
    have T6 := svM_get l i j last (j * 2) (by omega); have T7 := svM_get l i j last (j * 2 + 1) (by omega); have A5 := (A4.put (j * 2) (.int .i64 0)).put (j * 2 + 1) (.pointer none); rw [svM_step l i j last hij T5] at A5; clear A4 A3; go_wp2_with fail
    go_roundw
    case rel => exact ⟨j + 1, by omega, by omega, by go_num, A5⟩
    case measure => simp [intOf]; omega
  · have he : j = l.length := by omega
    subst he; have A5 := A4.put 20 (.int .i64 i); rw [svM_end l i last (by omega) hl] at A5; clear A4 A3; go_wp2_with fail
    go_ret; exact ⟨rfl, A5⟩
section
section
variable {P : Program} (w : World)
theorem run_append_str_at (base : Nat) (t u ty e : TypeId) (i : TypeInfo) (ht : P.underlying t = some (.slice e)) (hu : P.underlying u = some .string) (hi : P.info? e = some i) (hz : i.zero = some (.int .u8 0))
 (hsize : i.size = 1) (hby : i.bytes = 1)
 (v : Value) (n : Nat) (xs : List Value) (hown : w.ownsRow base e 1 v n xs) (s : ByteArray)
 (h63 : n + s.size ≤ maxLen) (hbytes : n + s.size ≤ 140737488355328) (hbase : base ≤ w.heap.size) :
 ∃ v' w', (Builtin.append_ #[t, u] ty #[v, .string s]).run P w = .ok v' w' ∧ w'.ownsRow base e 1 v' (n + s.size) (xs ++ Lib.strCells s) ∧ w.grownBy w' v.ownBlock ∧
  (v' = .slice none 0 0 ↔ v = .slice none 0 0 ∧ s.size = 0) ∧ (v'.ownBlock = v.ownBlock ∨ v'.ownBlock = some w.heap.size) := by
 obtain ⟨v', w', hr, h1, h2, h3⟩ := Lib.run_append_own_string (P := P) w base t u ty e i ht hu hi hz hsize hby v n xs hown s h63 hbytes hbase; refine ⟨v', w', hr, h1, h2, h3, ?_⟩
 have hsmall : n + s.size ≤ 9223372036854775807 := by simp only [maxLen] at h63; omega
 have hxl : xs.length = n := by simpa using hown.1
 rcases hown.2 with ⟨rfl, rfl⟩ | ⟨g, cap, cur, rfl, hbg, hg, hnc, hcm, hcs, htake⟩
 · by_cases hm : s.size = 0
   · exact .inl (by rw [h3.2 ⟨rfl, hm⟩])
   · have := run_append_nil_string (P := P) w t u ty e i (.int .u8 0) ht hu hi hz s (by omega) (by omega) (by rw [hby]; omega); rw [hr] at this
     injection this with this _
     subst this; exact .inr rfl
 · by_cases hroom : n + s.size ≤ cap
   · have hcs' : cur.size = cap := by simpa using hcs
     have := Lib.run_append_room_string (P := P) w t u ty e i ht hu hi hsize g n cap cur hg s hroom (by omega); rw [hr] at this
     injection this with this _
     subst this; exact .inl rfl
   · have := Lib.run_append_grow_string (P := P) w t u ty e i (.int .u8 0) ht hu hi hz ⟨g, 0, none⟩ n cap xs (by rw [hsize]; simpa using hxl) (hown.cells (g := g) rfl) s (by omega) (by omega) (by rw [hby]; exact growslice_fits (by omega) (by omega)); rw [hr] at this
     injection this with this _
     subst this; exact .inr rfl
theorem step_append_str {ops : Array Oper} {o : Oper} {a : Act} {K : Act → World → Prop} {Q : Exit → Act → World → Prop} {E : Prop} (hgd : o.guard = none) (sl x : Operand) (t u : TypeId)
 (ho : o.op = .call { callee := .builtin .append, args := #[sl, x], argTypes := #[t, u] })
 (base : Nat) (e : TypeId) (i : TypeInfo) (ht : P.underlying t = some (.slice e)) (hu : P.underlying u = some .string) (hi : P.info? e = some i) (hz : i.zero = some (.int .u8 0))
 (hsize : i.size = 1) (hby : i.bytes = 1)
 (v : Value) (n : Nat) (xs : List Value) (hs : a.eval sl = v) (hown : w.ownsRow base e 1 v n xs) (s : ByteArray) (hx : a.eval x = .string s)
 (h63 : n + s.size ≤ maxLen) (hbytes : n + s.size ≤ 140737488355328) (hbase : base ≤ w.heap.size)
 (h : ∀ v' w', w'.ownsRow base e 1 v' (n + s.size) (xs ++ Lib.strCells s) → w.grownBy w' v.ownBlock → (v' = .slice none 0 0 ↔ v = .slice none 0 0 ∧ s.size = 0) → (v'.ownBlock = v.ownBlock ∨ v'.ownBlock = some w.heap.size) → K (a.put o.dst v') w') :
 if Region.wanted o (yielded ops a.tmps) = true then Oper.wp P o a w K Q else E := by
 have hw : Region.wanted o (yielded ops a.tmps) = true := by simp [Region.wanted, hgd]
 rw [if_pos hw]; obtain ⟨v', w', hr, h2, h3, h4, h5⟩ := run_append_str_at (P := P) w base t u o.type e i ht hu hi hz hsize hby v n xs hown s h63 hbytes hbase; unfold Oper.wp execOp; simp only [ho, resolve, invoke, builtin, Sem.run_bind, Sem.run_pure, Result.andThen_ok, List.map_toArray, List.map_cons, List.map_nil, hs, hx, hr]; exact h v' w' h2 h3 h4 h5
end
theorem Ats.grownS {v' : Value} {m : Nat} {xs' : List Value} (A : Ats w0 w M (R ++ K)) (h : RowG T sz R v n xs)
 (hown : w'.ownsRow w0.heap.size T sz v' (n + m) xs') (hgr : w.grownBy w' v.ownBlock) (hnil : v' = .slice none 0 0 ↔ v = .slice none 0 0 ∧ m = 0) (hob : v'.ownBlock = v.ownBlock ∨ v'.ownBlock = some w.heap.size) :
 ∃ R', RowG T sz R' v' (n + m) xs' ∧ Ats w0 w' M (R' ++ K) := by
 by_cases hm : 0 < m
 · exact A.grownG h hown hgr hob hm
 obtain rfl : m = 0 := by omega
 obtain ⟨hl, ⟨rfl, h0⟩ | ⟨g', cap', cur', rfl, hg0, hg', c1, c2, c3, c4⟩⟩ := hown
 · obtain ⟨rfl, -⟩ := hnil.1 rfl
   rcases h with ⟨-, rfl, rfl, rfl⟩ | ⟨g, cap, cur, hv, -⟩
   · refine ⟨[], .inl ⟨rfl, rfl, ?_, rfl⟩, ?_⟩
     · exact List.eq_nil_of_length_eq_zero (by simpa using hl)
     · exact A.pure (Chg.grown (Chg.refl NoB w) hgr (fun k hk => by simp [Value.ownBlock] at hk))
   · simp at hv
 refine ⟨[(g', .cells cur' T)], .inr ⟨g', cap', cur', rfl, rfl, c1, c2, c3, c4, hl⟩, ?_⟩
 rcases h with ⟨rfl, rfl, rfl, rfl⟩ | ⟨g, cap, cur, rfl, rfl, -⟩
 · have C1 : Chg NoB w w' := Chg.grown (Chg.refl NoB w) hgr (fun k hk => by simp [Value.ownBlock] at hk); refine A.got C1 hg' ?_
   rcases hob with e | e
   · simp [Value.ownBlock] at e
   · simp [Value.ownBlock] at e; omega
 · have C1 : Chg (· = g) w w' := Chg.grown (Chg.refl (· = g) w) hgr (fun k hk => by simp [Value.ownBlock] at hk; exact .inl hk.symm); refine Ats.renewG A C1 hg' ?_
   rcases hob with e | e
   · simp [Value.ownBlock] at e; exact .inl e
   · simp [Value.ownBlock] at e; exact .inr (by omega)
end
section
attribute [local go_sem ↓] Go.wp_at_zero Go.wp_at_succ
theorem infoU8 : (Tryz.prog.info? 5).map (fun i => (i.zero, i.size, i.bytes)) = some (some (.int .u8 0), 1, 1) := by kernel_rfl
abbrev tlBox (hp : Nat) (v : Value) : Obj := .cells #[ptr hp, v] 80 (0, 0)
def Told (w0 w : World) (M : List (Nat × List C)) (K : List (Nat × Obj)) (hp bt : Nat) (b : List UInt8) : Prop :=
 ∃ v R, RowG 5 1 R v b.length (b.map vu8) ∧ Ats w0 w M ((bt, tlBox hp v) :: (R ++ K))
theorem hidE {p : Prop} (h : p) : Hid p := h
theorem rowG_val (h : RowG T sz R v n xs) : ∃ a c, v = .slice a n c := by
 rcases h with ⟨rfl, h0, -⟩ | ⟨g, cap, cur, rfl, -⟩
 · exact ⟨none, 0, by rw [h0]⟩
 · exact ⟨_, _, rfl⟩
theorem strCells_eq (s : ByteArray) : Lib.strCells s = s.toList.map vu8 := by rw [ByteArray.toList_eq]; rfl
theorem take_1000 (b s : List UInt8) (hb : b.length ≤ 1000) : b ++ s.take (1000 - b.length) = (b ++ s).take 1000 := by
 rw [List.take_append, List.take_of_length_le hb]
set_option maxRecDepth 100000 in
set_option maxHeartbeats 400000 in
theorem at_tput {bt : Nat} {b : List UInt8} (A : Told w0 w M K hp bt b) (hb : b.length ≤ 1000) (s : ByteArray) (hs : s.size ≤ 1000000) :
 Calls Tryz.prog 53 #[ptr bt, .string s] w fun r w' => r = .returned (.bool (decide ((b ++ s.toList).length < 1000))) ∧ Told w0 w' M K hp bt ((b ++ s.toList).take 1000) := by
 obtain ⟨v, R, hR, A⟩ := A; have hbx := A.box _ (List.mem_cons_self ..); have R0 := cells_of hbx; have l0 := blk_lt hbx; obtain ⟨i0, hi, hz0, hz1, hz2⟩ := info_parts infoU8
 obtain ⟨va, vc, rfl⟩ : ∃ va vc, v = .slice va b.length vc := by
  rcases hR with ⟨rfl, h0, -⟩ | ⟨g, cap, cur, rfl, -⟩
  · exact ⟨none, 0, by rw [h0]⟩
  · exact ⟨_, _, rfl⟩
 have hbl : (b.length : Int) ≤ 1000 := by omega
 have c0 : w.cell? ⟨bt, 0, none⟩ = some (ptr hp) := by rw [R0 0]; rfl
 have c1 : w.cell? ⟨bt, 1, none⟩ = some (.slice va b.length vc) := by rw [R0 1]; rfl
 clear R0; go_enter Tryz.func53, Tryz.ntmps53
 go_wp2_with fail
 obtain ⟨m, hm, hms⟩ : ∃ m : Nat, (if 1000 - (b.length : Int) < (s.size : Int) then 1000 - (b.length : Int) else (s.size : Int)) = (m : Int) ∧ m = min s.size (1000 - b.length) := by
  refine ⟨min s.size (1000 - b.length), ?_, rfl⟩
  split <;> omega
 have hm0 : (0 : Int) ≤ m := by omega
 have hm1 : (m : Int) ≤ s.size := by omega
 have hm2 : m ≤ s.size ∧ m ≤ 1000 - b.length := by omega
 have hsl : (s.extract 0 m).toList = s.toList.take (1000 - b.length) := by
  have e := ByteArray.toList_eq (bs := s)
  have hsz : s.toList.length = s.size := by rw [e]; rfl
  rw [ByteArray.toList_eq, e, ByteArray.data_extract]; simp only [Array.toList_extract, List.extract_eq_take_drop, List.drop_zero, Nat.sub_zero]; rw [hms]
  by_cases c : s.size ≤ 1000 - b.length
  · rw [Nat.min_eq_left c, List.take_of_length_le (by rw [← e, hsz]; exact Nat.le_refl _), List.take_of_length_le (by rw [← e, hsz]; exact c)]
  · rw [Nat.min_eq_right (by omega)]
 have hel : (s.extract 0 m).size = m := by rw [ByteArray.size_extract]; omega
 have hA := A.perm (List.perm_middle (l₁ := R) (l₂ := K) (a := (bt, tlBox hp (.slice va b.length vc)))).symm; have w1 : IntKind.i64.wrap (1000 - (b.length : Int)) = 1000 - (b.length : Int) := IntWalk.i64_in _ (by omega); have HE := hidE hel; have HS := hidE hsl
 have hlen : ((b ++ s.toList).take 1000).length = b.length + m := by
  have hsz : s.toList.length = s.size := by rw [ByteArray.toList_eq]; rfl
  rw [List.length_take, List.length_append, hsz]; omega
 have hbool : decide ((b ++ s.toList).length < 1000) = decide (b.length + m < 1000) := by
  have hsz : s.toList.length = s.size := by rw [ByteArray.toList_eq]; rfl
  rw [List.length_append, hsz]
  refine decide_eq_decide.2 ⟨fun h => ?_, fun h => ?_⟩ <;> omega
 have hmap : b.map vu8 ++ Lib.strCells (s.extract 0 m) = ((b ++ s.toList).take 1000).map vu8 := by
  rw [strCells_eq, hsl, ← take_1000 b _ hb, List.map_append]
 have HLN := hidE hlen; have HBL := hidE hbool; have HMP := hidE hmap; clear hel hsl hbx A hms hlen hbool hmap
 go_region_law (first | (refine step_append_str _ (by rfl) (.tmp 9) (.tmp 20) 59 9 (by rfl) w0.heap.size 5 i0 Tryz.underBytes Tryz.underStr hi hz0 hz1 hz2 (.slice va b.length vc) b.length (b.map vu8) (by rfl) (Ats.ownsG (hA.pure (Chg.drew (Chg.refl NoB w))) hR) (s.extract 0 m) (by rfl) (by unfold maxLen; rw [HE.out]; omega) (by rw [HE.out]; omega) (by have := hA.chg.size; exact this) ?_; intro v' w2 hown hgr hnil hat; obtain ⟨R', hR', A2⟩ := Ats.grownS (hA.pure (Chg.drew (Chg.refl NoB w))) hR hown hgr hnil hat; obtain ⟨v2a, v2c, rfl⟩ := rowG_val hR'; have R2 := cells_of (A2.box (bt, tlBox hp (.slice va b.length vc)) (List.mem_append_right _ (List.mem_cons_self ..))); have Z2 := free_of (A2.box (bt, tlBox hp (.slice va b.length vc)) (List.mem_append_right _ (List.mem_cons_self ..))); have l2 := blk_lt (A2.box (bt, tlBox hp (.slice va b.length vc)) (List.mem_append_right _ (List.mem_cons_self ..)))) | fail)
 all_goals
  rw [HE.out, HMP.out] at hR'; have A3 := (A2.perm List.perm_middle).put 1 (.slice v2a (b.length + m) v2c); simp only [List.setIfInBounds_toArray, List.set_cons_zero, List.set_cons_succ] at A3; have HA3 := hidE A3; have HR3 := hidE hR'; clear R2 Z2 l2 A2 hown hgr hnil hat hR' hR hA c0 c1 w1; generalize w2.setCell ⟨bt, 1, none⟩ (.slice v2a (b.length + m) v2c) = w3 at *; have R3 := cells_of (A3.box _ (List.mem_cons_self ..)); have l3 := blk_lt (A3.box _ (List.mem_cons_self ..)); simp only at R3 l3; clear A3; go_wp2_with fail
  go_ret; refine ⟨?_, .slice v2a (b.length + m) v2c, R', ?_, HA3.out⟩
  · rw [HBL.out]; exact congrArg (fun z => Ending.returned (.bool z)) (decide_eq_decide.2 (by omega))
  · rw [HLN.out]; exact HR3.out
end
end Go.Proofs.YtpiomapnmempoaaGreat
