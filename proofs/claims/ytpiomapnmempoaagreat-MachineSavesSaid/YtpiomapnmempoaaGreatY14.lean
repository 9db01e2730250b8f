/- Parts of the proof: Stk, Stp, Hnd, Hng. -/
import Derived.Test.YtpiomapnmempoaaGreatY09
import Derived.Test.YtpiomapnmempoaaGreatY11
namespace Go.Proofs.YtpiomapnmempoaaGreat
open Go.RowKit
variable {w w' w0 : World} {M : List (Nat × List C)} {K K' : List (Nat × Obj)} {b sp : Nat} {l ops : List O} {T : TypeId} {fz : Nat × Nat} {o : O} {cur : Array Value}
abbrev stkBox (lv : Value) : Obj := .cells #[lv] 77
def StkAt (w0 w : World) (M : List (Nat × List C)) (K : List (Nat × Obj)) (sp : Nat) (l : List O) : Prop :=
 (l.length ≤ 200 ∧ ∀ o ∈ l, mayO o = true) ∧ ∃ R lv, RowG 49 6 R lv l.length (l.flatMap O.cells) ∧ Ats w0 w M (R ++ (sp, stkBox lv) :: K)
theorem StkAt.len (S : StkAt w0 w M K sp l) : l.length ≤ 200 := S.1.1
theorem StkAt.may (S : StkAt w0 w M K sp l) : ∀ o ∈ l, mayO o = true := S.1.2
theorem StkAt.pure (S : StkAt w0 w M K sp l) (X : Chg NoB w w') : StkAt w0 w' M K sp l := by
 obtain ⟨hl, R, lv, h, A⟩ := S; exact ⟨hl, R, lv, h, A.pure X⟩
theorem StkAt.drew (S : StkAt w0 w M K sp l) : StkAt w0 w.drew M K sp l := S.pure (Chg.refl NoB w).drew
theorem StkAt.chg (S : StkAt w0 w M K sp l) : Chg NoB w0 w := by
 obtain ⟨_, R, lv, h, A⟩ := S; exact A.chg
theorem StkAt.box (S : StkAt w0 w M K sp l) (q : Nat × Obj) (hq : q ∈ K) : w.heap[q.1]? = some q.2 := by
 obtain ⟨_, R, lv, h, A⟩ := S; exact A.box q (List.mem_append_right _ (List.mem_cons_of_mem _ hq))
theorem StkAt.cellsOf {g : Nat} {cs : Array Value} (h : (g, Obj.cells cs T fz) ∈ K) : ∀ W, StkAt w0 W M K sp l → ∀ i, W.cell? ⟨g, i, none⟩ = cs[i]? :=
 fun _W A i => cells_of (A.box _ h) i
theorem StkAt.perm (S : StkAt w0 w M K sp l) (hK : K.Perm K') : StkAt w0 w M K' sp l := by
 obtain ⟨hl, R, lv, h, A⟩ := S; exact ⟨hl, R, lv, h, A.perm (List.Perm.append_left _ (hK.cons _))⟩
theorem StkAt.keep (S : StkAt w0 w M K sp l) (hK : K'.Sublist K) : StkAt w0 w M K' sp l := by
 obtain ⟨hl, R, lv, h, A⟩ := S; exact ⟨hl, R, lv, h, A.keep (List.Sublist.append_left (hK.cons_cons _) _)⟩
theorem StkAt.got (S : StkAt w0 w M K sp l) (X : Chg NoB w w') {b : Nat} {o : Obj} (hb : w'.heap[b]? = some o) (hn : w.heap.size ≤ b) : StkAt w0 w' M ((b, o) :: K) sp l := by
 obtain ⟨hl, R, lv, h, A⟩ := S; exact ⟨hl, R, lv, h, (A.got X hb hn).perm (by have := (List.perm_middle (l₁ := R ++ [(sp, stkBox lv)]) (l₂ := K) (a := (b, o))).symm; simpa using this)⟩
theorem StkAt.alloc (S : StkAt w0 w M K sp l) (o : Obj) : StkAt w0 (w.alloc o) M ((w.heap.size, o) :: K) sp l :=
 S.got ((Chg.refl _ _).alloc _) (blk_new w o) (Nat.le_refl _)
theorem StkAt.over {M' : List (Nat × List C)} (S : StkAt w0 w M K sp l) (h : ∀ E, Ats w0 w M (E ++ K) → Ats w0 w' M' (E ++ K')) : StkAt w0 w' M' K' sp l := by
 obtain ⟨hl, R, lv, hr, A⟩ := S; exact ⟨hl, R, lv, hr, by have := h (R ++ [(sp, stkBox lv)]) (by simpa using A); simpa using this⟩
theorem StkAt.put {cs : Array Value} (S : StkAt w0 w M ((b, .cells cs T fz) :: K) sp l) (i : Nat) (v : Value) :
 StkAt w0 (w.setCell ⟨b, i, none⟩ v) M ((b, .cells (cs.setIfInBounds i v) T fz) :: K) sp l :=
 S.over fun _E A => ((A.perm List.perm_middle).put i v).perm List.perm_middle.symm
theorem Ats.putO {c0 c1 c2 c3 c4 c5 : Value} (A : Ats w0 w M ((b, .cells #[c0, c1, c2, c3, c4, c5] T) :: K)) (kk : Int) (kx : Bool) (kn kp kl : Int) (ks : ByteArray) :
 Ats w0 ((((((w.setCell ⟨b, 0, none⟩ (.int .i64 kk)).setCell ⟨b, 1, none⟩ (.bool kx)).setCell ⟨b, 2, none⟩ (.int .i64 kn)).setCell ⟨b, 3, none⟩ (.int .i64 kp)).setCell ⟨b, 4, none⟩ (.int .i64 kl)).setCell ⟨b, 5, none⟩ (.string ks)) M ((b, .cells #[.int .i64 kk, .bool kx, .int .i64 kn, .int .i64 kp, .int .i64 kl, .string ks] T) :: K) := by
 have := (((((A.put 0 (.int .i64 kk)).put 1 (.bool kx)).put 2 (.int .i64 kn)).put 3 (.int .i64 kp)).put 4 (.int .i64 kl)).put 5 (.string ks)
 simpa only [List.setIfInBounds_toArray, List.set_cons_zero, List.set_cons_succ] using this
theorem StkAt.putO {c0 c1 c2 c3 c4 c5 : Value} (S : StkAt w0 w M ((b, .cells #[c0, c1, c2, c3, c4, c5] T) :: K) sp l) (kk : Int) (kx : Bool) (kn kp kl : Int) (ks : ByteArray) :
 StkAt w0 ((((((w.setCell ⟨b, 0, none⟩ (.int .i64 kk)).setCell ⟨b, 1, none⟩ (.bool kx)).setCell ⟨b, 2, none⟩ (.int .i64 kn)).setCell ⟨b, 3, none⟩ (.int .i64 kp)).setCell ⟨b, 4, none⟩ (.int .i64 kl)).setCell ⟨b, 5, none⟩ (.string ks)) M ((b, .cells #[.int .i64 kk, .bool kx, .int .i64 kn, .int .i64 kp, .int .i64 kl, .string ks] T) :: K) sp l :=
 S.over fun _E A => ((A.perm List.perm_middle).putO kk kx kn kp kl ks).perm List.perm_middle.symm
theorem StkAt.ask {M' : List (Nat × List C)} {f : Nat} {args : Array Value} {r : Value} (S : StkAt w0 w M K sp l)
 (h : ∀ K', Ats w0 w M K' → Calls Tryz.prog f args w fun e w' => e = .returned r ∧ Ats w0 w' M' K') :
 Calls Tryz.prog f args w fun e w' => e = .returned r ∧ StkAt w0 w' M' K sp l := by
 obtain ⟨hl, R, lv, hr, A⟩ := S
 exact (h _ A).mono fun e w' ⟨h1, h2⟩ => ⟨h1, hl, R, lv, hr, h2⟩
theorem rowG_slice {sz : Nat} {R : List (Nat × Obj)} {v : Value} {n : Nat} {xs : List Value} (h : RowG T sz R v n xs) : ∃ a c, v = .slice a n c ∧ n ≤ c := by
 rcases h with ⟨rfl, h0, -⟩ | ⟨g, cap, cur, rfl, -, h1, -⟩
 · exact ⟨none, 0, by rw [h0], by omega⟩
 · exact ⟨_, _, rfl, h1⟩
theorem stk_new (A : Ats w0 w M K) :
 Calls Tryz.prog 24 #[] w fun e w' => ∃ sp, e = .returned (ptr sp) ∧ StkAt w0 w' M K sp [] := by
 go_enter Tryz.func24, Tryz.ntmps24
 go_wp2_with fail
 go_ret; exact ⟨_, rfl, ⟨by simp, by simp⟩, [], .slice none 0 0, .inl ⟨rfl, rfl, rfl, rfl⟩, A.alloc _⟩
set_option maxRecDepth 100000 in
theorem stk_len (S : StkAt w0 w M K sp l) :
 Calls Tryz.prog 137 #[ptr sp] w fun e w' => e = .returned (.int .i64 l.length) ∧ w = w' := by
 obtain ⟨-, R, lv, hR, A⟩ := S; obtain ⟨a, c, rfl, -⟩ := rowG_slice hR; have R1 := cells_of (A.box (sp, stkBox (.slice a l.length c)) (List.mem_append_right _ (List.mem_cons_self ..))); have y1 := blk_lt (A.box (sp, stkBox (.slice a l.length c)) (List.mem_append_right _ (List.mem_cons_self ..))); simp only at y1; go_enter Tryz.func137, Tryz.ntmps137
 go_wp2_with fail
 go_ret; exact ⟨rfl, rfl⟩
theorem cells6' (w : World) (x : O) (j : Nat) (u : Value) (h : x.cells[j]? = some u) : ((w.alloc (.cells x.cells.toArray 49)).drew).cell? ((⟨w.heap.size, 0, none⟩ : Addr).add j) = some u := by
 have := World.news_of_block (w := (w.alloc (.cells x.cells.toArray 49)).drew) (B := w.heap.size) (cs := x.cells.toArray) (t := 49) (fr := (0, 0)) (blk_drew (blk_new w _)) j u (by simpa using h); exact this
theorem one6' (x : O) : ∀ u ∈ x.cells, u.oneCell' = true := by
 intro u hu; simp only [O.cells, List.mem_cons, List.not_mem_nil, or_false] at hu
 rcases hu with rfl | rfl | rfl | rfl | rfl | rfl <;> rfl
set_option maxRecDepth 100000 in
set_option maxHeartbeats 2000000 in
theorem stk_push (S : StkAt w0 w M K sp l) (o : O) (hm : mayO o = true) (hl : l.length < 200) :
 Calls Tryz.prog 46 #[ptr sp, o.val] w fun e w' => e = .returned (.int .i64 0) ∧ StkAt w0 w' M K sp (l ++ [o]) := by
 obtain ⟨i0, hi, hz0, hz1, hz2⟩ := info_parts Tryz.infoObj
 have hmay : ∀ x ∈ l ++ [o], mayO x = true := fun x hx => by
  rcases List.mem_append.1 hx with h | h
  · exact S.may x h
  · rw [List.mem_singleton.1 h]; exact hm
 have HMAY := hid' hmay; clear hmay; obtain ⟨-, R, lv, hR, A⟩ := S; obtain ⟨a, c, rfl, hac⟩ := rowG_slice hR
 obtain ⟨n, hn⟩ : ∃ n, l.length = n := ⟨_, rfl⟩
 rw [hn] at hR A hl hac; have HM := hid' (fun w => may_any o w); rw [hm] at HM; have HN := hid' hn
 have hni : (n : Int) < 200 := by omega
 clear hn hm; obtain ⟨kk, kx, kn, kp, kl, ks⟩ := o; have A1 := A.alloc (.cells #[.int .i64 kk, .bool kx, .int .i64 kn, .int .i64 kp, .int .i64 kl, .string ks] 49); have hs : (sp, stkBox (.slice a n c)) ∈ (w.heap.size, Obj.cells #[.int .i64 kk, .bool kx, .int .i64 kn, .int .i64 kp, .int .i64 kl, .string ks] 49) :: (R ++ (sp, stkBox (.slice a n c)) :: K) := List.mem_cons_of_mem _ (List.mem_append_right _ (List.mem_cons_self ..)); clear A; go_enter Tryz.func46, Tryz.ntmps46
 go_wp2_with fail
 refine (HM.out _).mono ?_; rintro e w2 ⟨rfl, X2⟩; have A2 := A1.pure X2
 (try clear Ra); (try clear ya); (try clear Za)
 have Ra := cells_of (A2.box _ m0); have ya := blk_lt (A2.box _ m0)
 (try clear Rb); (try clear yb); (try clear Zb)
 have Rb := cells_of (A2.box _ hs); have yb := blk_lt (A2.box _ hs); have Zb := free_of (A2.box _ hs)
 (try simp only at Ra ya Rb yb Zb)
 have HA := hid' (A2.keep (List.sublist_cons_self _ _)); clear A1 A2 hs X2; go_wp2_with fail
 go_region_law (first | (refine step_append_lies _ rfl (.tmp 24) (.tmp 26) 44 rfl w0.heap.size 49 i0 O.nil.val 6 56 Tryz.underObjs hi hz0 hz1 hz2 rfl (by decide) (.slice a n c) n (l.flatMap O.cells) rfl (Ats.ownsG (HA.out.pure (((Chg.refl NoB w2).alloc _).drew)) hR) _ 1 1 (O.cells ⟨kk, kx, kn, kp, kl, ks⟩) rfl rfl (fun j u' hj => cells6' w2 ⟨kk, kx, kn, kp, kl, ks⟩ j u' hj) (one6' ⟨kk, kx, kn, kp, kl, ks⟩) (by decide) (by unfold maxLen; omega) (by omega) (by have := HA.out.chg.size; simp; omega) _ rfl ?_; intro g' cap' w6 hown hgr hg hgl; obtain ⟨R', hR', A6⟩ := Ats.grownG (HA.out.pure (((Chg.refl NoB w2).alloc _).drew)) hR hown hgr (by rcases hg with e | e; exact .inl (by rw [e]; simp [Value.ownBlock]); exact .inr (by simp [Value.ownBlock, e])) (by decide); have R6 := cells_of (A6.box (sp, stkBox (.slice a n c)) (List.mem_append_right _ (List.mem_cons_self ..))); have Z6 := free_of (A6.box (sp, stkBox (.slice a n c)) (List.mem_append_right _ (List.mem_cons_self ..))); have l6 := blk_lt (A6.box (sp, stkBox (.slice a n c)) (List.mem_append_right _ (List.mem_cons_self ..)))) | fail)
 all_goals
  have A7 := (A6.perm List.perm_middle).put 0 (.slice (some ⟨g', 0, none⟩) (n + 1) cap'); simp only [List.setIfInBounds_toArray, List.set_cons_zero] at A7; have A8 := hid' (A7.perm List.perm_middle.symm); clear R6 Z6 l6 A6 A7 hgr hown hg; generalize w6.setCell ⟨sp, 0, none⟩ (.slice (some ⟨g', 0, none⟩) (n + 1) cap') = w7 at *; go_wp2_with fail
  go_ret; refine ⟨rfl, ⟨by simp [HN.out]; omega, HMAY.out⟩, R', _, ?_, A8.out⟩; rw [List.flatMap_append, List.flatMap_singleton, List.length_append, HN.out]; exact hR'
theorem flat_at (l : List O) (m j : Nat) (o : O) (h : l[m]? = some o) (hj : j < 6) : (l.flatMap O.cells)[m * 6 + j]? = o.cells[j]? := by
 rw [flat_get O.cells 6 cells_length j hj, h]; rfl
set_option maxRecDepth 100000 in
set_option maxHeartbeats 1000000 in
theorem stk_peek (S : StkAt w0 w M K sp l) (i m : Nat) (o : O) (hm : m + 1 + i = l.length) (ho : l[m]? = some o) :
 Calls Tryz.prog 78 #[ptr sp, .int .i64 i] w fun e w' => e = .returned (.tuple #[o.val, .int .i64 0]) ∧ StkAt w0 w' M K sp l := by
 have HS := hid' S; obtain ⟨hl, R, lv, hR, A⟩ := S; obtain ⟨g, cap, cur, rfl, rfl, hcur⟩ := hR.shape (by omega); have HL := hid' hl.1; have hf := fun j (hj : j < 6) => (hcur (m * 6 + j) (by omega)).trans (flat_at l m j o ho hj)
 obtain ⟨n, hn⟩ : ∃ n, l.length = n := ⟨_, rfl⟩
 rw [hn] at A hm hl; have q0 := hf 0 (by omega); have q1 := hf 1 (by omega); have q2 := hf 2 (by omega); have q3 := hf 3 (by omega); have q4 := hf 4 (by omega); have q5 := hf 5 (by omega); obtain ⟨kk, kx, kn, kp, kl, ks⟩ := o; simp only [O.cells, List.getElem?_cons_zero, List.getElem?_cons_succ, Nat.add_zero] at q0 q1 q2 q3 q4 q5; have A1 := A.alloc (Obj.cells #[.int .i64 0, .bool false, .int .i64 0, .int .i64 0, .int .i64 0, .string ⟨#[]⟩] 49)
 have e1 : (n : Int) - 1 - i = m := by omega
 have e2 : (i : Int) < n := by omega
 have e3 : (n : Int) ≤ 200 := by omega
 have e4 : (m : Int) < n := by omega
 have e5 : (n : Int) ≤ cap := by
  rcases hR with ⟨h, -⟩ | ⟨_, _, _, h, -, h2, -⟩
  · simp at h
  · simp only [Value.slice.injEq] at h; omega
 (try clear Ra); (try clear ya); (try clear Za)
 have Ra := cells_of (A1.box _ m0); have ya := blk_lt (A1.box _ m0)
 (try clear Rg); (try clear yg); (try clear Zg)
 have Rg := cells_of (A1.box _ m1); have yg := blk_lt (A1.box _ m1)
 (try clear Rs); (try clear ys); (try clear Zs)
 have Rs := cells_of (A1.box _ m2); have ys := blk_lt (A1.box _ m2)
 (try simp only at Ra ya Rg yg Rs ys)
 clear hcur hf A1 hn hR hl HL; go_enter Tryz.func78, Tryz.ntmps78
 go_wp2_with fail
 go_region
 go_wp2_with fail
 refine bodyPost_ret (v := .tuple #[O.val ⟨kk, kx, kn, kp, kl, ks⟩, .int .i64 0]) ?_ rfl ⟨rfl, HS.out.pure (((Chg.refl NoB w).alloc _).drew)⟩; simp [results, Tryz.results78, go_sem]
set_option maxRecDepth 100000 in
set_option maxHeartbeats 1000000 in
theorem stk_pop (S : StkAt w0 w M K sp (l ++ [o])) :
 Calls Tryz.prog 48 #[ptr sp] w fun e w' => e = .returned (.tuple #[o.val, .int .i64 0]) ∧ StkAt w0 w' M K sp l := by
 have HP := hid' (stk_peek (S.alloc (Obj.cells #[.int .i64 0, .bool false, .int .i64 0, .int .i64 0, .int .i64 0, .string ⟨#[]⟩] 49)) 0 l.length o (by simp) (by simp)); have HL : Hid (l.length ≤ 200 ∧ ∀ x ∈ l, mayO x = true) := hid' ⟨by have := S.len; simp at this; omega, fun x hx => S.may x (List.mem_append_left _ hx)⟩
 obtain ⟨n, hn⟩ : ∃ n, l.length = n := ⟨_, rfl⟩
 have hn2 : (n : Int) < 200 := by have := S.len; simp at this; omega
 have HN := hid' hn; clear S hn; obtain ⟨kk, kx, kn, kp, kl, ks⟩ := o; go_enter Tryz.func48, Tryz.ntmps48
 go_wp2_with fail
 refine HP.out.mono ?_; rintro e w2 ⟨rfl, S2⟩; obtain ⟨-, R, lv, hR, A⟩ := S2; rw [show (l ++ [(⟨kk, kx, kn, kp, kl, ks⟩ : O)]).length = n + 1 by simp [HN.out]] at hR; obtain ⟨g, cap, cur, rfl, rfl, -⟩ := hR.shape (by omega)
 obtain ⟨h1, h2, h3, h4, h5⟩ : n + 1 ≤ cap ∧ cap ≤ maxLen ∧ cur.size = cap * 6 ∧ cur.toList.take ((n + 1) * 6) = (l ++ [(⟨kk, kx, kn, kp, kl, ks⟩ : O)]).flatMap O.cells ∧ True := by
  rcases hR with ⟨h, -⟩ | ⟨_, _, _, h, h', c1, c2, c3, c4, -⟩
  · simp at h
  · simp only [Value.slice.injEq, Option.some.injEq, Addr.mk.injEq, and_true, true_and, List.cons.injEq, Prod.mk.injEq, Obj.cells.injEq] at h h'; obtain ⟨rfl, rfl⟩ := h; obtain ⟨-, rfl⟩ := h'; exact ⟨c1, c2, c3, c4, trivial⟩
 have H4 := hid' h4; have H3 := hid' h3
 have hnc : (n : Int) ≤ cap := by omega
 (try clear Rg); (try clear yg); (try clear Zg)
 have Rg := cells_of (A.box _ m0); have yg := blk_lt (A.box _ m0)
 (try clear Rs); (try clear ys); (try clear Zs)
 have Rs := cells_of (A.box _ m1); have ys := blk_lt (A.box _ m1); have Zs := free_of (A.box _ m1)
 (try clear Rb); (try clear yb); (try clear Zb)
 have Rb := cells_of (A.box _ m2); have yb := blk_lt (A.box _ m2); have Zb := free_of (A.box _ m2)
 (try simp only at Rg yg Rs ys Zs Rb yb Zb)
 clear h3 h4 h5 HP hR
 have A3 := ((A.perm (List.perm_middle (l₁ := [_, _]))).putO kk kx kn kp kl ks)
 clear A
 go_upto_region 3 with (fail)
 generalize ((((((w2.setCell ⟨w.heap.size, 0, none⟩ (.int .i64 kk)).setCell ⟨w.heap.size, 1, none⟩ (.bool kx)).setCell ⟨w.heap.size, 2, none⟩ (.int .i64 kn)).setCell ⟨w.heap.size, 3, none⟩ (.int .i64 kp)).setCell ⟨w.heap.size, 4, none⟩ (.int .i64 kl)).setCell ⟨w.heap.size, 5, none⟩ (.string ks)) = w3 at *
 (try clear Rb); (try clear yb); (try clear Zb)
 have Rb := cells_of (A3.box _ m0); have yb := blk_lt (A3.box _ m0)
 (try clear Rg); (try clear yg); (try clear Zg)
 have Rg := cells_of (A3.box _ m1); have yg := blk_lt (A3.box _ m1)
 (try clear Rs); (try clear ys); (try clear Zs)
 have Rs := cells_of (A3.box _ m2); have ys := blk_lt (A3.box _ m2); have Zs := free_of (A3.box _ m2)
 (try simp only at Rb yb Rg yg Rs ys Zs)
 have hA := hid' A3; clear A3
 go_region
 have A4 := (((hA.out.perm (List.perm_middle (l₁ := [_, _]) (l₂ := K)).symm).perm (List.Perm.swap _ _ _)).put 0 (.slice (some ⟨g, 0, none⟩) n cap)).pure (Chg.refl NoB _).drew; simp only [List.setIfInBounds_toArray, List.set_cons_zero] at A4; clear Rg yg Rs ys Zs yb Rb hA; generalize (w3.setCell _ _).drew = w4 at *; have A5 := A4.perm (List.perm_middle (l₁ := [_, _]))
 (try clear Rb); (try clear yb); (try clear Zb)
 have Rb := cells_of (A5.box _ m0); have yb := blk_lt (A5.box _ m0); have Zb := free_of (A5.box _ m0)
 (try simp only at Rb yb Zb)
 go_wp2_with fail
 refine bodyPost_ret (v := .tuple #[O.val ⟨kk, kx, kn, kp, kl, ks⟩, .int .i64 0]) ?_ rfl ⟨rfl, ?_⟩
 · simp [results, Tryz.results48, go_sem, cell_set_at, Rb]
 · refine ⟨HL.out, [(g, .cells cur 49)], .slice (some ⟨g, 0, none⟩) n cap, .inr ⟨g, cap, cur, by rw [HN.out], rfl, by rw [HN.out]; omega, h2, H3.out, ?_, flat_length O.cells 6 cells_length l⟩, ?_⟩
   · have ht : cur.toList.take (n * 6) = (cur.toList.take ((n + 1) * 6)).take (n * 6) := by rw [List.take_take]; congr 1; omega
     rw [HN.out, ht, H4.out, List.flatMap_append, List.take_left' (by rw [flat_length O.cells 6 cells_length, HN.out])]
   · have A6 := A5.putO kk kx kn kp kl ks; exact (A6.keep (List.sublist_cons_self _ _)).perm (List.Perm.swap _ _ _)
def isK (ks k : Int) : Bool := bits BinOp.and IntKind.i64 (ks / 2 ^ k.toNat) 1 == 1
set_option maxRecDepth 100000 in
theorem hand_is (o : O) (ks : Int) (h0 : 0 ≤ o.kind) (h1 : o.kind ≤ 12) (w : World) :
 Calls Tryz.prog 215 #[o.val, .int .i64 ks] w fun e w' => e = .returned (.bool (isK ks o.kind)) ∧ Chg NoB w w' := by
 obtain ⟨kk, kx, kn, kp, kl, s⟩ := o; simp only at h0 h1; go_enter Tryz.func215, Tryz.ntmps215
 go_wp2_with fail
 go_ret; exact ⟨rfl, (Chg.refl NoB w).alloc _⟩
theorem may_kind (h : mayO o = true) : 0 ≤ o.kind ∧ o.kind ≤ 12 := by
 unfold mayO at h; simp only [Bool.and_eq_true] at h; obtain ⟨-, h⟩ := h; split at h
 · omega
 split at h
 · omega
 split at h
 · omega
 split at h
 · omega
 split at h
 · omega
 split at h
 · omega
 split at h
 · omega
 split at h
 · omega
 split at h
 · omega
 · simp at h
theorem StkAt.put6 {L : List O} {g : Nat} (S : StkAt w0 w M ((g, .cells cur T fz) :: K) sp l) (hc : cur.toList = L.flatMap O.cells) (j : Nat) (hj : j < L.length) (o : O) :
 ∃ cur', cur'.toList = (L.set j o).flatMap O.cells ∧ StkAt w0 (put6 w g (j * 6) o) M ((g, .cells cur' T fz) :: K) sp l := by
 refine ⟨_, ?_, (((((S.put (j * 6) (.int .i64 o.kind)).put (j * 6 + 1) (.bool o.exec)).put (j * 6 + 2) (.int .i64 o.n)).put (j * 6 + 3) (.int .i64 o.pos)).put (j * 6 + 4) (.int .i64 o.len)).put (j * 6 + 5) (.string o.s)⟩; rw [flat_set O.cells cells_length L j o hj, ← hc]; simp only [Array.toList_setIfInBounds]; rfl
def fromEnd (ops : List O) (m : Nat) : List O := List.replicate m O.nil ++ ops.drop m
theorem fromEnd_len (ops : List O) (m : Nat) (h : m ≤ ops.length) : (fromEnd ops m).length = ops.length := by simp [fromEnd]; omega
theorem fromEnd_set (ops : List O) (m : Nat) (o : O) (h : ops[m]? = some o) : (fromEnd ops (m + 1)).set m o = fromEnd ops m := by
 have hl := (List.getElem?_eq_some_iff.1 h).1; unfold fromEnd; rw [List.replicate_succ', List.append_assoc, List.set_append_right _ _ (by simp), List.length_replicate, Nat.sub_self, List.singleton_append, List.set_cons_zero]; rw [show ops.drop m = o :: ops.drop (m + 1) by rw [List.drop_eq_getElem_cons hl]; rw [List.getElem?_eq_getElem hl] at h; simp at h; rw [h]]
theorem at6 {L : List O} (hc : cur.toList = L.flatMap O.cells) {m : Nat} {o : O} (h : L[m]? = some o) :
 cur[m * 6]? = some (.int .i64 o.kind) ∧ cur[m * 6 + 1]? = some (.bool o.exec) ∧ cur[m * 6 + 2]? = some (.int .i64 o.n) ∧ cur[m * 6 + 3]? = some (.int .i64 o.pos) ∧ cur[m * 6 + 4]? = some (.int .i64 o.len) ∧ cur[m * 6 + 5]? = some (.string o.s) := by
 have f := fun j (hj : j < 6) => flat_at L m j o h hj; rw [← hc] at f; simp only [Array.getElem?_toList] at f; exact ⟨f 0 (by omega), f 1 (by omega), f 2 (by omega), f 3 (by omega), f 4 (by omega), f 5 (by omega)⟩
def Taken (w0 : World) (M : List (Nat × List C)) (K : List (Nat × Obj)) (sp : Nat) (l ops : List O) (n : Nat) (e : Ending) (w' : World) : Prop :=
 ∃ g cur, e = .returned (.tuple #[.slice (some ⟨g, 0, none⟩) n n, .int .i64 0]) ∧ cur.toList = ops.flatMap O.cells ∧ StkAt w0 w' M ((g, .cells cur 49) :: K) sp l
set_option maxRecDepth 100000 in
set_option maxHeartbeats 2000000 in
theorem hand_take (S : StkAt w0 w M K sp (l ++ ops)) (ks : List Int) (kb : Nat) (hk : (kb, .cells (ks.map (Value.int .i64)).toArray 3) ∈ K) (hn : ks.length = ops.length)
 (hT : ∀ (i : Nat) (k : Int) (o : O), ks[i]? = some k → ops[i]? = some o → isK k o.kind = true) (n : Nat) (hn' : ops.length = n) :
 Calls Tryz.prog 143 #[ptr sp, .slice (some ⟨kb, 0, none⟩) n n] w (Taken w0 M K sp (l ++ ops) ops n) := by
 have hlen := S.len
 have hl2 : (l ++ ops).length = l.length + n := by simp [hn']
 have hmk := run_make_objs n (by simp at hlen; omega) w; have HLN := hid' (stk_len S); rw [hl2] at HLN hlen; have HPK := fun (w' : World) (K' : List (Nat × Obj)) (i m : Nat) (o : O) (S' : StkAt w0 w' M K' sp (l ++ ops)) => stk_peek S' i (l.length + m) o; have HMY := hid' S.may
 obtain ⟨a, ha⟩ : ∃ a, l.length = a := ⟨_, rfl⟩
 rw [ha] at HLN hlen HPK hl2
 have hni : (n : Int) ≤ 200 := by omega
 have hai : (a : Int) ≤ 200 := by omega
 have HS := hid' S; have HN := hid' hn; have HN' := hid' hn'; have HA := hid' ha; have HTT := hid' hT; have HPK := hid' HPK; have HK := hid' hk
 have hlt : decide (a + n < n) = false := by simp
 clear S hT hn hn' hl2 hlen hk ha; go_enter Tryz.func143, Tryz.ntmps143
 go_wp2_with fail
 refine HLN.out.mono ?_; rintro e w1 ⟨rfl, rfl⟩; go_wp2_with fail
 go_loopw [19] (fun cv wr => ∃ (i : Nat) (cur : Array Value), i ≤ n ∧ cv = .int .i64 i ∧ cur.toList = (fromEnd ops (n - i)).flatMap O.cells ∧ StkAt w0 wr M ((w.heap.size, .cells cur 49) :: K) sp (l ++ ops)) (fun cv _ => n - (intOf cv).toNat)
 case atStart => exact ⟨0, _, Nat.zero_le _, rfl, by rw [zrow_toList, Nat.sub_zero]; unfold fromEnd; rw [List.drop_of_length_le (by rw [HN'.out]; exact Nat.le_refl _), List.append_nil], HS.out.alloc _⟩
 case round =>
  obtain ⟨i, cur, hi, rfl, hcur, S1⟩ := hrel
  by_cases hlt : i < n
  · obtain ⟨m, hm⟩ : ∃ m, n = m + 1 + i := ⟨n - 1 - i, by omega⟩
    obtain ⟨o, ho⟩ : ∃ o, ops[m]? = some o := ⟨ops[m]'(by rw [HN'.out]; omega), List.getElem?_eq_getElem _⟩
    obtain ⟨k, hk⟩ : ∃ k, ks[m]? = some k := ⟨ks[m]'(by rw [HN.out, HN'.out]; omega), List.getElem?_eq_getElem _⟩
    have hT := HTT.out m k o hk ho; have HP := hid' (HPK.out wr _ i m o S1 (by rw [List.length_append, HN'.out, HA.out]; omega) (by rw [List.getElem?_append_right (by rw [HA.out]; omega), HA.out, Nat.add_sub_cancel_left]; exact ho)); have hz := at6 hcur (m := m) (o := O.nil) (by rw [show n - i = m + 1 by omega]; unfold fromEnd; rw [List.getElem?_append_left (by simp)]; simp); obtain ⟨z0, z1, z2, z3, z4, z5⟩ := hz; simp only [O.nil] at z0 z1 z2 z3 z4 z5; have hkd := may_kind (HMY.out o (List.mem_append_right _ (List.mem_of_getElem? ho))); have HI := hid' (fun w => hand_is o k hkd.1 hkd.2 w); rw [hT] at HI
    have e1 : (n : Int) - 1 - i = m := by omega
    have e2 : (i : Int) < n := by omega
    have e3 : (m : Int) < n := by omega
    have e4 : (0 : Int) ≤ m := by omega
    have HC := hid' hcur; have HO := hid' ho
    have hkk : (ks.map (Value.int .i64)).toArray[m]? = some (.int .i64 k) := by simp [hk]
    have HM := hid' hm; clear ho hcur hT hk hkd hm; obtain ⟨kk, kx, kn, kp, kl, s⟩ := o; go_wp2_with fail
    refine HP.out.mono ?_; rintro e w2 ⟨rfl, S2⟩
    (try clear Rg); (try clear yg); (try clear Zg)
    have Rg := cells_of (S2.box _ m0); have yg := blk_lt (S2.box _ m0); have Zg := free_of (S2.box _ m0)
    (try simp only at Rg yg Zg)
    go_upto_region 9 with (fail)
    obtain ⟨cur3, hc3, S3⟩ := S2.put6 HC.out m (by rw [fromEnd_len _ _ (by rw [HN'.out]; omega), HN'.out]; have := HM.out; omega) ⟨kk, kx, kn, kp, kl, s⟩; rw [show n - i = m + 1 by have := HM.out; omega, fromEnd_set _ _ _ HO.out] at hc3; simp only [put6] at S3; generalize ((((((w2.setCell ⟨w.heap.size, m * 6, none⟩ (.int .i64 kk)).setCell ⟨w.heap.size, m * 6 + 1, none⟩ (.bool kx)).setCell ⟨w.heap.size, m * 6 + 2, none⟩ (.int .i64 kn)).setCell ⟨w.heap.size, m * 6 + 3, none⟩ (.int .i64 kp)).setCell ⟨w.heap.size, m * 6 + 4, none⟩ (.int .i64 kl)).setCell ⟨w.heap.size, m * 6 + 5, none⟩ (.string s)) = w3 at *; obtain ⟨q0, q1, q2, q3, q4, q5⟩ := at6 hc3 (m := m) (o := ⟨kk, kx, kn, kp, kl, s⟩) (by unfold fromEnd; rw [List.getElem?_append_right (by simp)]; simp; exact HO.out); simp only at q0 q1 q2 q3 q4 q5; have RG := StkAt.cellsOf (w0 := w0) (M := M) (sp := sp) (l := l ++ ops) (m0 (a := (w.heap.size, Obj.cells cur3 49)) (l := K)); have RK := StkAt.cellsOf (w0 := w0) (M := M) (sp := sp) (l := l ++ ops) (List.mem_cons_of_mem (w.heap.size, Obj.cells cur3 49) HK.out); have HC3 := hid' hc3; clear z0 z1 z2 z3 z4 z5 HC S2 Rg yg Zg hc3
    go_region_held3 (fun W' => StkAt w0 W' M ((w.heap.size, .cells cur3 49) :: K) sp (l ++ ops)) (first | assumption | (exact StkAt.drew (by assumption)) | (exact StkAt.pure (by assumption) (by assumption)))
     ((go_at_call 215; refine (HI.out _).mono ?_; rintro r w4 ⟨rfl, X4⟩))
    have S4 := hid' (S3.drew.pure X4); clear S3 X4; go_wp2_with fail
    go_roundw
    case rel => exact ⟨i + 1, cur3, by omega, by go_num, by rw [HC3.out, show n - (i + 1) = m by have := HM.out; omega], S4.out⟩
    case measure => simp [intOf]; omega
  · have hkn : i = n := by omega
    subst hkn; go_wp2
    go_ret2
    exact ⟨_, cur, rfl, by rw [hcur]; simp [fromEnd], S1⟩
def HeldAll (L : List C) (ops : List O) : Prop := ∀ o ∈ ops, isK 1792 o.kind = true → mayH L o = true
set_option maxRecDepth 100000 in
set_option maxHeartbeats 2000000 in
theorem hand_held {hp : Nat} {L : List C} (S : StkAt w0 w M K sp l) (hm : (hp, L) ∈ M) (n g cap : Nat) (cur : Array Value) (off : Nat) (hn : ops.length = n) (hl : n ≤ 1000) (hcap : n ≤ cap) (hg : (g, .cells cur 49) ∈ K)
 (hc : ∀ m o, ops[m]? = some o → ∀ j, j < 6 → cur[off + m * 6 + j]? = o.cells[j]?) (hk : ∀ o ∈ ops, 0 ≤ o.kind ∧ o.kind ≤ 12) (hH : HeldAll L ops) :
 Calls Tryz.prog 154 #[ptr hp, .slice (some ⟨g, off, none⟩) n cap] w fun e w' => e = .returned (.int .i64 0) ∧ StkAt w0 w' M K sp l := by
 have HS := hid' S; have HN := hid' hn; have HM := hid' hm; have HG := hid' hg; have HC := hid' hc; have HK := hid' hk
 have hni : (n : Int) ≤ 1000 := by omega
 have hcp : (n : Int) ≤ cap := by omega
 clear S hn hm hg hc hk; go_enter Tryz.func154, Tryz.ntmps154
 go_wp2_with fail
 go_loopw [5] (fun cv wr => ∃ (i : Nat), i ≤ n ∧ cv = .int .i64 ((i : Int) - 1) ∧ StkAt w0 wr M K sp l) (fun cv _ => (intOf cv + 1).toNat)
 case atStart => exact ⟨n, Nat.le_refl _, rfl, HS.out⟩
 case round =>
  obtain ⟨i, hi, rfl, S1⟩ := hrel
  by_cases h0 : i = 0
  · subst h0; go_wp2
    go_ret; exact ⟨rfl, S1⟩
  · obtain ⟨m, rfl⟩ : ∃ m, i = m + 1 := ⟨i - 1, by omega⟩
    obtain ⟨o, ho⟩ : ∃ o, ops[m]? = some o := ⟨ops[m]'(by rw [HN.out]; omega), List.getElem?_eq_getElem _⟩
    have hq := HC.out m o ho; have hkd := HK.out o (List.mem_of_getElem? ho); have HI := hid' (fun w => hand_is o 1792 hkd.1 hkd.2 w); have HY := hid' (fun (h : isK 1792 o.kind = true) => hH o (List.mem_of_getElem? ho) h); have HA := hid' (fun (w' : World) (S' : StkAt w0 w' M K sp l) => S'.ask (r := .bool (mayH L o)) (fun K' A => at_may A o rfl HM.out))
    have e1 : ((m + 1 : Nat) : Int) - 1 = m := by omega
    have e3 : (m : Int) < n := by omega
    have e4 : (0 : Int) ≤ m := by omega
    have q0 := hq 0 (by omega); have q1 := hq 1 (by omega); have q2 := hq 2 (by omega); have q3 := hq 3 (by omega); have q4 := hq 4 (by omega); have q5 := hq 5 (by omega); clear ho hq hkd h0 hi; rw [e1]; clear e1; obtain ⟨kk, kx, kn, kp, kl, s⟩ := o; simp only [O.cells, List.getElem?_cons_zero, List.getElem?_cons_succ, Nat.add_zero] at q0 q1 q2 q3 q4 q5
    (try clear Rg); (try clear yg); (try clear Zg)
    have Rg := cells_of (S1.box _ HG.out); have yg := blk_lt (S1.box _ HG.out)
    (try simp only at Rg yg)
    by_cases hb : isK 1792 kk = true
    · have hb' := HY.out hb; rw [hb] at HI; rw [hb'] at HA; clear hb hb' HY; go_wp2_with fail
      refine (HI.out _).mono ?_; rintro e w2 ⟨rfl, X2⟩; have S2 := S1.pure X2
      (try clear Rg); (try clear yg); (try clear Zg)
      have Rg := cells_of (S2.box _ HG.out); have yg := blk_lt (S2.box _ HG.out)
      (try simp only at Rg yg)
      go_wp2_with fail
      refine (HA.out _ S2).mono ?_; rintro e w3 ⟨rfl, S3⟩; clear Rg yg S2 S1 X2; go_wp2_with fail
      go_roundw
      case rel => exact ⟨m, by omega, rfl, S3⟩
      case measure => simp [intOf]
    · have hb' : isK 1792 kk = false := by simpa using hb
      rw [hb'] at HI; clear hb hb' HY; go_wp2_with fail
      refine (HI.out _).mono ?_; rintro e w2 ⟨rfl, X2⟩; have S2 := S1.pure X2; clear Rg yg S1 X2; go_wp2_with fail
      go_roundw
      case rel => exact ⟨m, by omega, rfl, S2⟩
      case measure => simp [intOf]
theorem kind_in (h : ∀ o ∈ l ++ ops, mayO o = true) : ∀ o ∈ ops, 0 ≤ o.kind ∧ o.kind ≤ 12 := fun o ho => may_kind (h o (List.mem_append_right _ ho))
theorem reads_of (hc : cur.toList = ops.flatMap O.cells) : ∀ m o, ops[m]? = some o → ∀ j, j < 6 → cur[0 + m * 6 + j]? = o.cells[j]? := by
 intro m o h j hj; rw [Nat.zero_add, ← Array.getElem?_toList, hc]; exact flat_at ops m j o h hj
set_option maxRecDepth 100000 in
theorem hand_from {hp : Nat} {L : List C} (S : StkAt w0 w M K sp (l ++ ops)) (hm : (hp, L) ∈ M) (ks : List Int) (kb : Nat) (hk : (kb, .cells (ks.map (Value.int .i64)).toArray 3) ∈ K) (hn : ks.length = ops.length)
 (hT : ∀ (i : Nat) (k : Int) (o : O), ks[i]? = some k → ops[i]? = some o → isK k o.kind = true) (hH : HeldAll L ops) (n : Nat) (hn' : ops.length = n) :
 Calls Tryz.prog 146 #[ptr hp, ptr sp, .slice (some ⟨kb, 0, none⟩) n n] w (Taken w0 M K sp (l ++ ops) ops n) := by
 have HT := hid' (hand_take S ks kb hk hn hT n hn'); have hlen := S.len
 have hn2 : n ≤ 200 := by simp at hlen; omega
 have HH := hid' (fun (w' : World) (g : Nat) (cur : Array Value) (hc : cur.toList = ops.flatMap O.cells) (S' : StkAt w0 w' M ((g, .cells cur 49) :: K) sp (l ++ ops)) =>
  hand_held S' hm n g n cur 0 hn' (by omega) (Nat.le_refl _) m0 (reads_of hc) (kind_in S.may) hH)
 clear S hm hk hn hT hH hn' hlen hn2; go_enter Tryz.func146, Tryz.ntmps146
 go_wp2_with fail
 refine HT.out.mono ?_; rintro e w2 ⟨g, cur, rfl, hc, S2⟩; have HC := hid' hc; clear hc; go_wp2_with fail
 refine (HH.out _ _ _ HC.out S2).mono ?_; rintro e w3 ⟨rfl, S3⟩; go_wp2_with fail
 go_ret2
 exact ⟨g, cur, rfl, HC.out, S3⟩
set_option maxRecDepth 100000 in
theorem hand_room (S : StkAt w0 w M K sp l) (n k : Nat) (hn : n ≤ l.length) (hk : k ≤ 1000) (h : l.length - n + k ≤ 200) :
 Calls Tryz.prog 122 #[ptr sp, .int .i64 n, .int .i64 k] w fun e w' => e = .returned (.bool true) ∧ w = w' := by
 have HL := hid' (stk_len S); have hlen := S.len
 obtain ⟨a, ha⟩ : ∃ a, l.length = a := ⟨_, rfl⟩
 rw [ha] at hn h HL hlen
 have h1 : (a : Int) - n + k ≤ 200 := by omega
 have h2 : (a : Int) ≤ 200 := by omega
 have h3 : (n : Int) ≤ a := by omega
 have h4 : (k : Int) ≤ 1000 := by omega
 clear ha S hlen hn h hk; go_enter Tryz.func122, Tryz.ntmps122
 go_wp2_with fail
 refine HL.out.mono ?_; rintro e w2 ⟨rfl, rfl⟩; go_wp2_with fail
 go_ret; exact ⟨by simp, rfl⟩
set_option maxRecDepth 100000 in
set_option maxHeartbeats 2000000 in
theorem hand_give {gv : List O} (S : StkAt w0 w M K sp (l ++ ops)) (n : Nat) (hn : ops.length = n) (k : Nat) (hk : gv.length = k) (hroom : l.length + k ≤ 200) (hmay : ∀ o ∈ gv, mayO o = true)
 (a : Option Addr) (cap : Nat) (hcap : k ≤ cap) (hread : ∀ m o, gv[m]? = some o → ∃ g off cur fz, a = some ⟨g, off, none⟩ ∧ (g, Obj.cells cur 49 fz) ∈ K ∧ ∀ j, j < 6 → cur[off + m * 6 + j]? = o.cells[j]?) :
 Calls Tryz.prog 123 #[ptr sp, .int .i64 n, .slice a k cap] w fun e w' => e = .returned (.int .i64 0) ∧ StkAt w0 w' M K sp (l ++ gv) := by
 have HR := hid' (hand_room S n k (by simp [hn]) (by omega) (by simp [hn]; omega)); have HS := hid' S; have HN := hid' hn; have HK := hid' hk; have HRM := hid' hroom; have HMY := hid' hmay; have HRD := hid' hread
 have hki : (k : Int) ≤ 200 := by omega
 have hkc : (k : Int) ≤ cap := by omega
 have hni : (n : Int) ≤ 200 := by have := S.len; simp [hn] at this; omega
 clear S hn hk hroom hmay hread; go_enter Tryz.func123, Tryz.ntmps123
 go_wp2_with fail
 refine HR.out.mono ?_; rintro e w2 ⟨rfl, rfl⟩; go_wp2_with fail
 go_loopw [16] (fun cv wr => ∃ (i : Nat), i ≤ n ∧ cv = .int .i64 i ∧ StkAt w0 wr M K sp (l ++ ops.take (n - i))) (fun cv _ => n - (intOf cv).toNat)
 case atStart => exact ⟨0, Nat.zero_le _, rfl, by rw [Nat.sub_zero, List.take_of_length_le (by rw [HN.out]; exact Nat.le_refl _)]; exact HS.out⟩
 case round =>
  obtain ⟨i, hi, rfl, S1⟩ := hrel
  by_cases hlt : i < n
  · obtain ⟨m, hm⟩ : ∃ m, n = m + 1 + i := ⟨n - 1 - i, by omega⟩
    have hmo : m < ops.length := by rw [HN.out]; omega
    rw [show n - i = m + 1 by omega, List.take_succ_eq_append_getElem hmo, ← List.append_assoc] at S1; generalize ops[m] = o at S1; have HP := hid' (stk_pop S1); have HM := hid' hm; clear S1 hm hmo; go_wp2_with fail
    refine HP.out.mono ?_; rintro e w3 ⟨rfl, S3⟩; clear HP; go_wp2_with fail
    go_roundw
    case rel => exact ⟨i + 1, by omega, by go_num, by rw [show n - (i + 1) = m by have := HM.out; omega]; exact S3⟩
    case measure => simp [intOf]; omega
  · obtain rfl : i = n := by omega
    rw [Nat.sub_self, List.take_zero, List.append_nil] at S1; go_wp2_with fail
    go_loopw [23] (fun cv wr => ∃ (i : Nat), i ≤ k ∧ cv = .int .i64 i ∧ StkAt w0 wr M K sp (l ++ gv.take i)) (fun cv _ => k - (intOf cv).toNat)
    case atStart => exact ⟨0, Nat.zero_le _, rfl, by simpa using S1⟩
    case round =>
     obtain ⟨m, hm, rfl, S2⟩ := hrel
     by_cases hlt2 : m < k
     · obtain ⟨o, ho⟩ : ∃ o, gv[m]? = some o := ⟨gv[m]'(by rw [HK.out]; omega), List.getElem?_eq_getElem _⟩
       obtain ⟨g, off, cur, fz, rfl, hg, hq⟩ := HRD.out m o ho; have HTK := hid' (show gv.take (m + 1) = gv.take m ++ [o] by rw [List.take_add_one, ho]; rfl); have HMO := hid' (HMY.out o (List.mem_of_getElem? ho)); have q0 := hq 0 (by omega); have q1 := hq 1 (by omega); have q2 := hq 2 (by omega); have q3 := hq 3 (by omega); have q4 := hq 4 (by omega); have q5 := hq 5 (by omega)
       have e3 : (m : Int) < k := by omega
       have e4 : (0 : Int) ≤ m := by omega
       clear ho hq S1; obtain ⟨kk, kx, kn, kp, kl, ks⟩ := o; simp only [O.cells, List.getElem?_cons_zero, List.getElem?_cons_succ, Nat.add_zero] at q0 q1 q2 q3 q4 q5
       (try clear Rg); (try clear yg); (try clear Zg)
       have Rg := cells_of (S2.box _ hg); have yg := blk_lt (S2.box _ hg)
       (try simp only at Rg yg)
       have S3 := S2.alloc (Obj.cells #[.int .i64 kk, .bool kx, .int .i64 kn, .int .i64 kp, .int .i64 kl, .string ks] 49)
       (try clear Rb); (try clear yb); (try clear Zb)
       have Rb := cells_of (S3.box _ m0); have yb := blk_lt (S3.box _ m0)
       (try simp only at Rb yb)
       have HP := hid' (stk_push S3 ⟨kk, kx, kn, kp, kl, ks⟩ HMO.out (by have := HRM.out; simp; omega)); clear S2 S3; go_wp2_with fail
       refine HP.out.mono ?_; rintro e w3 ⟨rfl, S4⟩; clear HP Rg yg Rb yb; go_wp2_with fail
       go_roundw
       case rel => exact ⟨m + 1, by omega, by go_num, by rw [HTK.out, ← List.append_assoc]; exact S4.keep (List.sublist_cons_self _ _)⟩
       case measure => simp [intOf]; omega
     · obtain rfl : m = k := by omega
       rw [List.take_of_length_le (by rw [HK.out]; exact Nat.le_refl _)] at S2; go_wp2
       go_ret; exact ⟨rfl, S2⟩
end Go.Proofs.YtpiomapnmempoaaGreat
