/- Parts of the proof: Vng. -/
import Derived.Test.YtpiomapnmempoaaGreatY36
import Derived.Test.YtpiomapnmempoaaGreatY39
namespace Go.Proofs.YtpiomapnmempoaaGreat
open Go.RowKit
variable {w w0 : World} {M M' : List (Nat × List C)} {K : List (Nat × Obj)} {hp sp : Nat} {l l' : List O} {L : List C} {e : Int}
section
def GB (w0 : World) (sp : Nat) (KB : List (Nat × Obj)) (W : World) : Prop := ∃ M l E, StkAt w0 W M (E ++ KB) sp l
section
variable {w0 W W' : World} {M : List (Nat × List C)} {sp : Nat} {l : List O} {KB : List (Nat × Obj)}
theorem GB.of (S : StkAt w0 W M KB sp l) : GB w0 sp KB W := ⟨M, l, [], S⟩
theorem GB.more {q : Nat × Obj} (S : StkAt w0 W M (q :: KB) sp l) : GB w0 sp KB W := ⟨M, l, [q], S⟩
theorem GB.pure (h : GB w0 sp KB W) (X : Chg NoB W W') : GB w0 sp KB W' := by obtain ⟨M, l, E, S⟩ := h; exact ⟨M, l, E, S.pure X⟩
theorem GB.drew (h : GB w0 sp KB W) : GB w0 sp KB W.drew := h.pure (Chg.refl NoB W).drew
theorem GB.cells {g : Nat} {cs : Array Value} {T : TypeId} {fz : Nat × Nat} (hm : (g, Obj.cells cs T fz) ∈ KB) : ∀ W, GB w0 sp KB W → ∀ i, W.cell? ⟨g, i, none⟩ = cs[i]? := by
 rintro W ⟨M, l, E, S⟩ i; exact cells_of (S.box _ (List.mem_append_right _ hm)) i
theorem GB.lt {q : Nat × Obj} (hm : q ∈ KB) : ∀ W, GB w0 sp KB W → q.1 < W.heap.size := by
 rintro W ⟨M, l, E, S⟩; exact blk_lt (S.box q (List.mem_append_right _ hm))
end
def LQ (w0 : World) (M : List (Nat × List C)) (b : Nat) (KB : List (Nat × Obj)) (sp : Nat) (l : List O) (v : O) (s6 : Value) (wx : World) : Prop :=
 s6 = .int .i64 0 ∧ StkAt w0 wx M ((b, obox v) :: KB) sp l
set_option maxRecDepth 100000 in
set_option maxHeartbeats 2000000 in
theorem seq_get_dic (a b : O) (S : StkAt w0 w ((hp, L) :: M) K sp (l ++ [a, b])) (v : O) (hv : mayO v = true) (ha : a.kind = 10) (hH : HeldAll L [a, b])
 (H : ∀ W K', Ats w0 W ((hp, L) :: M) K' → Calls Tryz.prog 100 #[ptr hp, a.val, b.val] W fun r w' => r = .returned (.tuple #[v.val, .int .i64 0]) ∧ Ats w0 w' ((hp, L) :: M) K') :
 Calls Tryz.prog 151 #[ptr hp, ptr sp] w fun r w' => r = .returned (.int .i64 0) ∧ StkAt w0 w' ((hp, L) :: M) K sp (l ++ [v]) := by
 have hmay := S.may
 have ha1 : isK 1792 a.kind = true := by rw [ha]; decide +kernel
 have HT1 := hid' (fun (w' : World) (g : Nat) (K' : List (Nat × Obj)) (S' : StkAt w0 w' ((hp, L) :: M) ((g, .cells #[.int .i64 1792, .int .i64 (-1)] 3) :: K') sp (l ++ [a, b])) => hand_take S' [1792, -1] g m0 rfl (kindsB ha1 (isK_all (hmay b (by simp)))) 2 rfl); have HHD := hid' (fun (w' : World) (g : Nat) (K' : List (Nat × Obj)) (cur : Array Value) (hc : cur.toList = [a, b].flatMap O.cells) (S' : StkAt w0 w' ((hp, L) :: M) ((g, .cells cur 49) :: K') sp (l ++ [a, b])) => hand_held S' m0 2 g 2 cur 0 rfl (by omega) (Nat.le_refl _) m0 (reads_of hc) (kind_in S'.may) hH); have HC := hid' (fun (W : World) (K' : List (Nat × Obj)) (S' : StkAt w0 W ((hp, L) :: M) K' sp (l ++ [a, b])) => S'.ask (M' := (hp, L) :: M) (r := .tuple #[v.val, .int .i64 0]) (fun K2 A => H W K2 A)); have HG := hid' (fun (W : World) (g : Nat) (K' : List (Nat × Obj)) (cur : Array Value) (hc : cur.toList = [v].flatMap O.cells) (S' : StkAt w0 W ((hp, L) :: M) ((g, .cells cur 49) :: K') sp (l ++ [a, b])) => giveV S' hc 2 rfl 1 rfl (by have := S'.len; simp at this ⊢; omega) (fun o ho => by rw [List.mem_singleton.1 ho]; exact hv)); obtain ⟨ak, ax, an, ap, al, aw⟩ := a; obtain ⟨bk, bx, bn, bp, bl, bw⟩ := b; have ha : ak = 10 := ha; subst ha; obtain ⟨vk, vx, vn, vp, vl, vw⟩ := v; have S1 := S.alloc (.cells #[.int .i64 1792, .int .i64 (-1)] 3); clear S H hmay hH ha1; go_enter Tryz.func151, Tryz.ntmps151
 go_wp2_with fail
 refine (HT1.out _ _ _ S1).mono ?_; rintro r w2 ⟨g, cur, rfl, hc, S2⟩; obtain ⟨p0, p1, p2, p3, p4, p5⟩ := at6 hc (m := 0) rfl; obtain ⟨q0, q1, q2, q3, q4, q5⟩ := at6 hc (m := 1) rfl; simp only [Nat.zero_mul, Nat.zero_add, Nat.one_mul, Nat.reduceAdd] at p0 p1 p2 p3 p4 p5 q0 q1 q2 q3 q4 q5
 (try clear Rg); (try clear yg); (try clear Zg)
 have Rg := cells_of (S2.box _ m0); have yg := blk_lt (S2.box _ m0)
 (try simp only at Rg yg)
 go_wp2_with fail
 refine (HHD.out _ _ _ _ hc S2).mono ?_; clear Rg yg; rintro r w5 ⟨rfl, S5⟩
 obtain ⟨KB, S6, hgm, hsub⟩ : ∃ KB, StkAt w0 w5 ((hp, L) :: M) KB sp (l ++ [⟨10, ax, an, ap, al, aw⟩, ⟨bk, bx, bn, bp, bl, bw⟩]) ∧ (g, Obj.cells cur 49) ∈ KB ∧ K.Sublist KB := ⟨_, S5, m0, (by repeat (first | exact List.Sublist.refl _ | apply List.Sublist.cons))⟩
 clear S1 S2 S5 hc; have RG := GB.cells (w0 := w0) (sp := sp) hgm; have S7 := S6.alloc (obox O.nil); have k7 := GB.more S7; have lg7 := GB.lt hgm _ k7; have R7 := RG _ (GB.of S6); have lg6 := GB.lt hgm _ (GB.of S6); simp only at lg7 lg6; generalize hbs : w5.heap.size = b5 at *; have HS7 := hid' S7; clear S6
 go_upto_region 10 with (fail)
 clear R7 lg6; simp only [O.nil] at HS7 S7 k7 lg7; generalize World.alloc _ _ = w7 at *; clear S7
 go_cut [6] (fun s6 wx => LQ w0 ((hp, L) :: M) b5 KB sp (l ++ [⟨10, ax, an, ap, al, aw⟩, ⟨bk, bx, bn, bp, bl, bw⟩]) ⟨vk, vx, vn, vp, vl, vw⟩ s6 wx)
 case first =>
  go_region_held3 (fun W' => GB w0 sp KB W') (repeat' (first | (with_reducible assumption) | (with_reducible refine GB.drew ?_)))
   ((go_at_call 100; refine (HC.out _ _ (by first | (with_reducible exact HS7.out) | (with_reducible exact HS7.out.drew))).mono ?_; rintro r w8 ⟨rfl, S8⟩; have k8 := GB.more S8; have R8 := cells_of (S8.box _ m0); have Z8 := free_of (S8.box _ m0); have y8 := blk_lt (S8.box _ m0); simp only at y8; have t8 := GB.more (S8.putO vk vx vn vp vl vw)))
  all_goals
   go_wp2_with fail
   go_meet
   exact ⟨rfl, S8.putO vk vx vn vp vl vw⟩
 case rest =>
  obtain ⟨rfl, S8⟩ := hcut; have R8 := cells_of (S8.box _ m0); have y8 := blk_lt (S8.box _ m0); simp only at y8; have S9 := S8.alloc (.cells (O.cells ⟨vk, vx, vn, vp, vl, vw⟩).toArray 49); simp only [O.cells] at S9; clear k7 lg7 HS7 HC; go_wp2_with fail
  refine (HG.out _ _ _ _ ?_ S9).mono ?_
  · rfl
  rintro r w9 ⟨rfl, S10⟩; go_wp2_with fail
  go_ret; exact ⟨rfl, S10.keep (hsub.trans (List.sublist_cons_self _ _))⟩
set_option maxRecDepth 100000 in
set_option maxHeartbeats 2000000 in
theorem seq_get_row (a b : O) (S : StkAt w0 w ((hp, L) :: M) K sp (l ++ [a, b])) (v : O) (hv : mayO v = true) (ha : a.kind = 8 ∨ a.kind = 9) (hb : b.kind = 3) (hH : HeldAll L [a, b])
 (H : ∀ W K', Ats w0 W ((hp, L) :: M) K' → Calls Tryz.prog 72 #[ptr hp, a.val, .int .i64 b.n] W fun r w' => r = .returned (.tuple #[v.val, .int .i64 0]) ∧ Ats w0 w' ((hp, L) :: M) K') :
 Calls Tryz.prog 151 #[ptr hp, ptr sp] w fun r w' => r = .returned (.int .i64 0) ∧ StkAt w0 w' ((hp, L) :: M) K sp (l ++ [v]) := by
 have hmay := S.may
 have ha1 : isK 1792 a.kind = true := by rcases ha with h | h <;> rw [h] <;> decide +kernel
 have ha2 : isK 768 a.kind = true := by rcases ha with h | h <;> rw [h] <;> decide +kernel
 have hb2 : isK 8 b.kind = true := by rw [hb]; decide +kernel
 have hk10 : (a.kind == 10) = false := by rcases ha with h | h <;> rw [h] <;> rfl
 have hk10n : a.kind ≠ 10 := by rcases ha with h | h <;> rw [h] <;> decide
 have HT1 := hid' (fun (w' : World) (g : Nat) (K' : List (Nat × Obj)) (S' : StkAt w0 w' ((hp, L) :: M) ((g, .cells #[.int .i64 1792, .int .i64 (-1)] 3) :: K') sp (l ++ [a, b])) => hand_take S' [1792, -1] g m0 rfl (kindsB ha1 (isK_all (hmay b (by simp)))) 2 rfl); have HT2 := hid' (fun (w' : World) (g : Nat) (K' : List (Nat × Obj)) (S' : StkAt w0 w' ((hp, L) :: M) ((g, .cells #[.int .i64 768, .int .i64 8] 3) :: K') sp (l ++ [a, b])) => hand_take S' [768, 8] g m0 rfl (kindsB ha2 hb2) 2 rfl); have HHD := hid' (fun (w' : World) (g : Nat) (K' : List (Nat × Obj)) (cur : Array Value) (hc : cur.toList = [a, b].flatMap O.cells) (S' : StkAt w0 w' ((hp, L) :: M) ((g, .cells cur 49) :: K') sp (l ++ [a, b])) => hand_held S' m0 2 g 2 cur 0 rfl (by omega) (Nat.le_refl _) m0 (reads_of hc) (kind_in S'.may) hH); have HC := hid' (fun (W : World) (K' : List (Nat × Obj)) (S' : StkAt w0 W ((hp, L) :: M) K' sp (l ++ [a, b])) => S'.ask (M' := (hp, L) :: M) (r := .tuple #[v.val, .int .i64 0]) (fun K2 A => H W K2 A)); have HG := hid' (fun (W : World) (g : Nat) (K' : List (Nat × Obj)) (cur : Array Value) (hc : cur.toList = [v].flatMap O.cells) (S' : StkAt w0 W ((hp, L) :: M) ((g, .cells cur 49) :: K') sp (l ++ [a, b])) => giveV S' hc 2 rfl 1 rfl (by have := S'.len; simp at this ⊢; omega) (fun o ho => by rw [List.mem_singleton.1 ho]; exact hv)); obtain ⟨ak, ax, an, ap, al, aw⟩ := a; obtain ⟨bk, bx, bn, bp, bl, bw⟩ := b; have hb : bk = 3 := hb; subst hb; simp only at hk10 hk10n; obtain ⟨vk, vx, vn, vp, vl, vw⟩ := v
 have S1 := S.alloc (.cells #[.int .i64 1792, .int .i64 (-1)] 3); clear S H hmay hH ha1 ha2 hb2 ha; go_enter Tryz.func151, Tryz.ntmps151
 go_wp2_with fail
 refine (HT1.out _ _ _ S1).mono ?_; rintro r w2 ⟨g, cur, rfl, hc, S2⟩; obtain ⟨p0, p1, p2, p3, p4, p5⟩ := at6 hc (m := 0) rfl; obtain ⟨q0, q1, q2, q3, q4, q5⟩ := at6 hc (m := 1) rfl; simp only [Nat.zero_mul, Nat.zero_add, Nat.one_mul, Nat.reduceAdd] at p0 p1 p2 p3 p4 p5 q0 q1 q2 q3 q4 q5
 (try clear Rg); (try clear yg); (try clear Zg)
 have Rg := cells_of (S2.box _ m0); have yg := blk_lt (S2.box _ m0)
 (try simp only at Rg yg)
 have S3 := S2.alloc (.cells #[.int .i64 768, .int .i64 8] 3); clear S1; go_wp2_with fail
 refine (HT2.out _ _ _ S3).mono ?_; clear Rg yg p0 p1 p2 p3 p4 p5 q0 q1 q2 q3 q4 q5 S2 S3; rintro r w4 ⟨g4, cur4, rfl, hc4, S4⟩; obtain ⟨p0, p1, p2, p3, p4, p5⟩ := at6 hc4 (m := 0) rfl; obtain ⟨q0, q1, q2, q3, q4, q5⟩ := at6 hc4 (m := 1) rfl; simp only [Nat.zero_mul, Nat.zero_add, Nat.one_mul, Nat.reduceAdd] at p0 p1 p2 p3 p4 p5 q0 q1 q2 q3 q4 q5
 (try clear Rg); (try clear yg); (try clear Zg)
 have Rg := cells_of (S4.box _ m0); have yg := blk_lt (S4.box _ m0)
 (try simp only at Rg yg)
 go_wp2_with fail
 refine (HHD.out _ _ _ _ hc4 S4).mono ?_; clear Rg yg; rintro r w5 ⟨rfl, S5⟩
 obtain ⟨KB, S6, hgm, hsub⟩ : ∃ KB, StkAt w0 w5 ((hp, L) :: M) KB sp (l ++ [⟨ak, ax, an, ap, al, aw⟩, ⟨3, bx, bn, bp, bl, bw⟩]) ∧ (g4, Obj.cells cur4 49) ∈ KB ∧ K.Sublist KB := ⟨_, S5, m0, (by repeat (first | exact List.Sublist.refl _ | apply List.Sublist.cons))⟩
 clear S4 S5 hc4; have RG := GB.cells (w0 := w0) (sp := sp) hgm; have S7 := S6.alloc (obox O.nil); have k7 := GB.more S7; have lg7 := GB.lt hgm _ k7; have R7 := RG _ (GB.of S6); have lg6 := GB.lt hgm _ (GB.of S6); simp only at lg7 lg6; generalize hbs : w5.heap.size = b5 at *; have HS7 := hid' S7; clear S6
 go_upto_region 11 with (fail)
 clear R7 lg6; simp only [O.nil] at HS7 S7 k7 lg7; generalize World.alloc _ _ = w7 at *; clear S7
 go_cut [6] (fun s6 wx => LQ w0 ((hp, L) :: M) b5 KB sp (l ++ [⟨ak, ax, an, ap, al, aw⟩, ⟨3, bx, bn, bp, bl, bw⟩]) ⟨vk, vx, vn, vp, vl, vw⟩ s6 wx)
 case first =>
  go_region_held3 (fun W' => GB w0 sp KB W') (repeat' (first | (with_reducible assumption) | (with_reducible refine GB.drew ?_)))
   ((go_at_call 72; refine (HC.out _ _ (by first | (with_reducible exact HS7.out) | (with_reducible exact HS7.out.drew))).mono ?_; rintro r w8 ⟨rfl, S8⟩; have k8 := GB.more S8; have R8 := cells_of (S8.box _ m0); have Z8 := free_of (S8.box _ m0); have y8 := blk_lt (S8.box _ m0); simp only at y8; have t8 := GB.more (S8.putO vk vx vn vp vl vw)))
  all_goals
   go_wp2_with fail
   go_meet
   exact ⟨rfl, S8.putO vk vx vn vp vl vw⟩
 case rest =>
  obtain ⟨rfl, S8⟩ := hcut; have R8 := cells_of (S8.box _ m0); have y8 := blk_lt (S8.box _ m0); simp only at y8; have S9 := S8.alloc (.cells (O.cells ⟨vk, vx, vn, vp, vl, vw⟩).toArray 49); simp only [O.cells] at S9; clear k7 lg7 HS7 HC; go_wp2_with fail
  refine (HG.out _ _ _ _ ?_ S9).mono ?_
  · rfl
  rintro r w9 ⟨rfl, S10⟩; go_wp2_with fail
  go_ret; exact ⟨rfl, S10.keep (hsub.trans (List.sublist_cons_self _ _))⟩
set_option maxRecDepth 100000 in
set_option maxHeartbeats 2000000 in
theorem seq_put_dic {L' : List C} (a b c : O) (S : StkAt w0 w ((hp, L) :: M) K sp (l ++ [a, b, c])) (ha : a.kind = 10) (hH : HeldAll L [a, b, c])
 (H : ∀ W K', Ats w0 W ((hp, L) :: M) K' → Calls Tryz.prog 38 #[ptr hp, a.val, b.val, c.val] W fun r w' => r = .returned (.int .i64 0) ∧ Ats w0 w' ((hp, L') :: M) K') :
 Calls Tryz.prog 152 #[ptr hp, ptr sp] w fun r w' => r = .returned (.int .i64 0) ∧ StkAt w0 w' ((hp, L') :: M) K sp l := by
 have hmay := S.may
 have ha1 : isK 1792 a.kind = true := by rw [ha]; decide +kernel
 have HT1 := hid' (fun (w' : World) (g : Nat) (K' : List (Nat × Obj)) (S' : StkAt w0 w' ((hp, L) :: M) ((g, .cells #[.int .i64 1792, .int .i64 (-1), .int .i64 (-1)] 3) :: K') sp (l ++ [a, b, c])) => hand_take S' [1792, -1, -1] g m0 rfl (kindsC ha1 (isK_all (hmay b (by simp))) (isK_all (hmay c (by simp)))) 3 rfl); have HHD := hid' (fun (w' : World) (g : Nat) (K' : List (Nat × Obj)) (cur : Array Value) (hc : cur.toList = [a, b, c].flatMap O.cells) (S' : StkAt w0 w' ((hp, L) :: M) ((g, .cells cur 49) :: K') sp (l ++ [a, b, c])) => hand_held S' m0 3 g 3 cur 0 rfl (by omega) (Nat.le_refl _) m0 (reads_of hc) (kind_in S'.may) hH); have HC := hid' (fun (W : World) (K' : List (Nat × Obj)) (S' : StkAt w0 W ((hp, L) :: M) K' sp (l ++ [a, b, c])) => S'.ask (M' := (hp, L') :: M) (r := .int .i64 0) (fun K2 A => H W K2 A)); have HG := hid' (fun (W : World) (K' : List (Nat × Obj)) (S' : StkAt w0 W ((hp, L') :: M) K' sp (l ++ [a, b, c])) => hand_give (gv := []) S' 3 rfl 0 rfl (by have := S'.len; simp at this ⊢; omega) (by simp) none 0 (Nat.le_refl _) (by simp)); obtain ⟨ak, ax, an, ap, al, aw⟩ := a; obtain ⟨bk, bx, bn, bp, bl, bw⟩ := b; obtain ⟨ck, cx, cn, cp, cl, cw⟩ := c; have ha : ak = 10 := ha; subst ha; have S1 := S.alloc (.cells #[.int .i64 1792, .int .i64 (-1), .int .i64 (-1)] 3); clear S H hmay hH ha1; go_enter Tryz.func152, Tryz.ntmps152
 go_wp2_with fail
 refine (HT1.out _ _ _ S1).mono ?_; rintro r w2 ⟨g, cur, rfl, hc, S2⟩; obtain ⟨p0, p1, p2, p3, p4, p5⟩ := at6 hc (m := 0) rfl; obtain ⟨q0, q1, q2, q3, q4, q5⟩ := at6 hc (m := 1) rfl; obtain ⟨s0, s1, s2, s3, s4, s5⟩ := at6 hc (m := 2) rfl; simp only [Nat.zero_mul, Nat.zero_add, Nat.one_mul, Nat.reduceMul, Nat.reduceAdd] at p0 p1 p2 p3 p4 p5 q0 q1 q2 q3 q4 q5 s0 s1 s2 s3 s4 s5
 (try clear Rg); (try clear yg); (try clear Zg)
 have Rg := cells_of (S2.box _ m0); have yg := blk_lt (S2.box _ m0)
 (try simp only at Rg yg)
 go_wp2_with fail
 refine (HHD.out _ _ _ _ hc S2).mono ?_; clear Rg yg; rintro r w5 ⟨rfl, S5⟩
 obtain ⟨KB, S6, hgm, hsub⟩ : ∃ KB, StkAt w0 w5 ((hp, L) :: M) KB sp (l ++ [⟨10, ax, an, ap, al, aw⟩, ⟨bk, bx, bn, bp, bl, bw⟩, ⟨ck, cx, cn, cp, cl, cw⟩]) ∧ (g, Obj.cells cur 49) ∈ KB ∧ K.Sublist KB := ⟨_, S5, m0, (by repeat (first | exact List.Sublist.refl _ | apply List.Sublist.cons))⟩
 clear S1 S2 S5 hc; have RG := GB.cells (w0 := w0) (sp := sp) hgm; have k6 := GB.of S6; have R6 := RG _ k6; have lg6 := GB.lt hgm _ k6; simp only at lg6; have HS6 := hid' S6; clear S6
 go_upto_region 9 with (fail)
 clear R6
 go_region_held3 (fun W' => GB w0 sp KB W') (repeat' (first | (with_reducible assumption) | (with_reducible refine GB.drew ?_)))
  ((go_at_call 38; refine (HC.out _ _ (by first | (with_reducible exact HS6.out) | (with_reducible exact HS6.out.drew))).mono ?_; rintro r w8 ⟨rfl, S8⟩; have k8 := GB.of S8))
 go_wp2_with fail
 refine (HG.out _ _ S8).mono ?_; rintro r w9 ⟨rfl, S10⟩; go_wp2_with fail
 go_ret; rw [List.append_nil] at S10; exact ⟨rfl, S10.keep hsub⟩
set_option maxRecDepth 100000 in
set_option maxHeartbeats 2000000 in
theorem seq_put_row {L' : List C} (a b c : O) (S : StkAt w0 w ((hp, L) :: M) K sp (l ++ [a, b, c])) (ha : a.kind = 8 ∨ a.kind = 9) (hb : b.kind = 3) (hH : HeldAll L [a, b, c])
 (H : ∀ W K', Ats w0 W ((hp, L) :: M) K' → Calls Tryz.prog 61 #[ptr hp, a.val, .int .i64 b.n, c.val] W fun r w' => r = .returned (.int .i64 0) ∧ Ats w0 w' ((hp, L') :: M) K') :
 Calls Tryz.prog 152 #[ptr hp, ptr sp] w fun r w' => r = .returned (.int .i64 0) ∧ StkAt w0 w' ((hp, L') :: M) K sp l := by
 have hmay := S.may
 have ha1 : isK 1792 a.kind = true := by rcases ha with h | h <;> rw [h] <;> decide +kernel
 have ha2 : isK 768 a.kind = true := by rcases ha with h | h <;> rw [h] <;> decide +kernel
 have hb2 : isK 8 b.kind = true := by rw [hb]; decide +kernel
 have hk10 : (a.kind == 10) = false := by rcases ha with h | h <;> rw [h] <;> rfl
 have hk10n : a.kind ≠ 10 := by rcases ha with h | h <;> rw [h] <;> decide
 have HT1 := hid' (fun (w' : World) (g : Nat) (K' : List (Nat × Obj)) (S' : StkAt w0 w' ((hp, L) :: M) ((g, .cells #[.int .i64 1792, .int .i64 (-1), .int .i64 (-1)] 3) :: K') sp (l ++ [a, b, c])) => hand_take S' [1792, -1, -1] g m0 rfl (kindsC ha1 (isK_all (hmay b (by simp))) (isK_all (hmay c (by simp)))) 3 rfl); have HT2 := hid' (fun (w' : World) (g : Nat) (K' : List (Nat × Obj)) (S' : StkAt w0 w' ((hp, L) :: M) ((g, .cells #[.int .i64 768, .int .i64 8, .int .i64 (-1)] 3) :: K') sp (l ++ [a, b, c])) => hand_take S' [768, 8, -1] g m0 rfl (kindsC ha2 hb2 (isK_all (hmay c (by simp)))) 3 rfl); have HHD := hid' (fun (w' : World) (g : Nat) (K' : List (Nat × Obj)) (cur : Array Value) (hc : cur.toList = [a, b, c].flatMap O.cells) (S' : StkAt w0 w' ((hp, L) :: M) ((g, .cells cur 49) :: K') sp (l ++ [a, b, c])) => hand_held S' m0 3 g 3 cur 0 rfl (by omega) (Nat.le_refl _) m0 (reads_of hc) (kind_in S'.may) hH); have HC := hid' (fun (W : World) (K' : List (Nat × Obj)) (S' : StkAt w0 W ((hp, L) :: M) K' sp (l ++ [a, b, c])) => S'.ask (M' := (hp, L') :: M) (r := .int .i64 0) (fun K2 A => H W K2 A)); have HG := hid' (fun (W : World) (K' : List (Nat × Obj)) (S' : StkAt w0 W ((hp, L') :: M) K' sp (l ++ [a, b, c])) => hand_give (gv := []) S' 3 rfl 0 rfl (by have := S'.len; simp at this ⊢; omega) (by simp) none 0 (Nat.le_refl _) (by simp)); obtain ⟨ak, ax, an, ap, al, aw⟩ := a; obtain ⟨bk, bx, bn, bp, bl, bw⟩ := b; obtain ⟨ck, cx, cn, cp, cl, cw⟩ := c; have hb : bk = 3 := hb; subst hb; simp only at hk10 hk10n
 have S1 := S.alloc (.cells #[.int .i64 1792, .int .i64 (-1), .int .i64 (-1)] 3); clear S H hmay hH ha1 ha2 hb2 ha; go_enter Tryz.func152, Tryz.ntmps152
 go_wp2_with fail
 refine (HT1.out _ _ _ S1).mono ?_; rintro r w2 ⟨g, cur, rfl, hc, S2⟩; obtain ⟨p0, p1, p2, p3, p4, p5⟩ := at6 hc (m := 0) rfl; obtain ⟨q0, q1, q2, q3, q4, q5⟩ := at6 hc (m := 1) rfl; obtain ⟨s0, s1, s2, s3, s4, s5⟩ := at6 hc (m := 2) rfl; simp only [Nat.zero_mul, Nat.zero_add, Nat.one_mul, Nat.reduceMul, Nat.reduceAdd] at p0 p1 p2 p3 p4 p5 q0 q1 q2 q3 q4 q5 s0 s1 s2 s3 s4 s5
 (try clear Rg); (try clear yg); (try clear Zg)
 have Rg := cells_of (S2.box _ m0); have yg := blk_lt (S2.box _ m0)
 (try simp only at Rg yg)
 have S3 := S2.alloc (.cells #[.int .i64 768, .int .i64 8, .int .i64 (-1)] 3); clear S1; go_wp2_with fail
 refine (HT2.out _ _ _ S3).mono ?_; clear Rg yg p0 p1 p2 p3 p4 p5 q0 q1 q2 q3 q4 q5 s0 s1 s2 s3 s4 s5 S2 S3; rintro r w4 ⟨g4, cur4, rfl, hc4, S4⟩; obtain ⟨p0, p1, p2, p3, p4, p5⟩ := at6 hc4 (m := 0) rfl; obtain ⟨q0, q1, q2, q3, q4, q5⟩ := at6 hc4 (m := 1) rfl; obtain ⟨s0, s1, s2, s3, s4, s5⟩ := at6 hc4 (m := 2) rfl; simp only [Nat.zero_mul, Nat.zero_add, Nat.one_mul, Nat.reduceMul, Nat.reduceAdd] at p0 p1 p2 p3 p4 p5 q0 q1 q2 q3 q4 q5 s0 s1 s2 s3 s4 s5
 (try clear Rg); (try clear yg); (try clear Zg)
 have Rg := cells_of (S4.box _ m0); have yg := blk_lt (S4.box _ m0)
 (try simp only at Rg yg)
 go_wp2_with fail
 refine (HHD.out _ _ _ _ hc4 S4).mono ?_; clear Rg yg; rintro r w5 ⟨rfl, S5⟩
 obtain ⟨KB, S6, hgm, hsub⟩ : ∃ KB, StkAt w0 w5 ((hp, L) :: M) KB sp (l ++ [⟨ak, ax, an, ap, al, aw⟩, ⟨3, bx, bn, bp, bl, bw⟩, ⟨ck, cx, cn, cp, cl, cw⟩]) ∧ (g4, Obj.cells cur4 49) ∈ KB ∧ K.Sublist KB := ⟨_, S5, m0, (by repeat (first | exact List.Sublist.refl _ | apply List.Sublist.cons))⟩
 clear S4 S5 hc4; have RG := GB.cells (w0 := w0) (sp := sp) hgm; have k6 := GB.of S6; have R6 := RG _ k6; have lg6 := GB.lt hgm _ k6; simp only at lg6; have HS6 := hid' S6; clear S6
 go_upto_region 10 with (fail)
 clear R6
 go_region_held3 (fun W' => GB w0 sp KB W') (repeat' (first | (with_reducible assumption) | (with_reducible refine GB.drew ?_)))
  ((go_at_call 61; refine (HC.out _ _ (by first | (with_reducible exact HS6.out) | (with_reducible exact HS6.out.drew))).mono ?_; rintro r w8 ⟨rfl, S8⟩; have k8 := GB.of S8))
 go_wp2_with fail
 refine (HG.out _ _ S8).mono ?_; rintro r w9 ⟨rfl, S10⟩; go_wp2_with fail
 go_ret; rw [List.append_nil] at S10; exact ⟨rfl, S10.keep hsub⟩
set_option maxRecDepth 100000 in
theorem sdn_49 (hf : ∀ w, Calls Tryz.prog 131 #[.int .i64 49] w fun r w' => r = .returned (.int .i64 2) ∧ Chg NoB w w') (S : StkAt w0 w M K sp l)
 (HS : ∀ w', StkAt w0 w' M K sp l → Calls Tryz.prog 151 #[ptr hp, ptr sp] w' fun r w2 => r = .returned (.int .i64 e) ∧ StkAt w0 w2 M' K sp l') :
 Calls Tryz.prog 133 #[ptr hp, ptr sp, .int .i64 49] w fun r w' => r = .returned (.int .i64 e) ∧ StkAt w0 w' M' K sp l' := by
 have HF := hid' hf; have HS := hid' HS; go_enter Tryz.func133, Tryz.ntmps133
 go_wp2_with fail
 refine (HF.out _).mono ?_; rintro r w2 ⟨rfl, X2⟩; have S2 := S.pure X2; clear S X2; go_wp2_with fail
 refine (HS.out _ S2).mono ?_; rintro r w3 ⟨rfl, S3⟩; go_wp2_with fail
 go_ret; exact ⟨rfl, S3⟩
set_option maxRecDepth 100000 in
theorem sdn_50 (hf : ∀ w, Calls Tryz.prog 131 #[.int .i64 50] w fun r w' => r = .returned (.int .i64 2) ∧ Chg NoB w w') (S : StkAt w0 w M K sp l)
 (HS : ∀ w', StkAt w0 w' M K sp l → Calls Tryz.prog 152 #[ptr hp, ptr sp] w' fun r w2 => r = .returned (.int .i64 e) ∧ StkAt w0 w2 M' K sp l') :
 Calls Tryz.prog 133 #[ptr hp, ptr sp, .int .i64 50] w fun r w' => r = .returned (.int .i64 e) ∧ StkAt w0 w' M' K sp l' := by
 have HF := hid' hf; have HS := hid' HS; go_enter Tryz.func133, Tryz.ntmps133
 go_wp2_with fail
 refine (HF.out _).mono ?_; rintro r w2 ⟨rfl, X2⟩; have S2 := S.pure X2; clear S X2; go_wp2_with fail
 refine (HS.out _ S2).mono ?_; rintro r w3 ⟨rfl, S3⟩; go_wp2_with fail
 go_ret; exact ⟨rfl, S3⟩
set_option maxRecDepth 100000 in
theorem sdn_57 (hf : ∀ w, Calls Tryz.prog 131 #[.int .i64 57] w fun r w' => r = .returned (.int .i64 2) ∧ Chg NoB w w') (S : StkAt w0 w M K sp l)
 (HS : ∀ w', StkAt w0 w' M K sp l → Calls Tryz.prog 158 #[ptr hp, ptr sp] w' fun r w2 => r = .returned (.int .i64 e) ∧ StkAt w0 w2 M' K sp l') :
 Calls Tryz.prog 133 #[ptr hp, ptr sp, .int .i64 57] w fun r w' => r = .returned (.int .i64 e) ∧ StkAt w0 w' M' K sp l' := by
 have HF := hid' hf; have HS := hid' HS; go_enter Tryz.func133, Tryz.ntmps133
 go_wp2_with fail
 refine (HF.out _).mono ?_; rintro r w2 ⟨rfl, X2⟩; have S2 := S.pure X2; clear S X2; go_wp2_with fail
 refine (HS.out _ S2).mono ?_; rintro r w3 ⟨rfl, S3⟩; go_wp2_with fail
 go_ret; exact ⟨rfl, S3⟩
end
end Go.Proofs.YtpiomapnmempoaaGreat
