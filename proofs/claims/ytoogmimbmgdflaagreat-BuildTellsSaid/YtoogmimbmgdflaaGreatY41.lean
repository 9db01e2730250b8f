/- Parts of the proof: Uxg, Uxh, Uxi. -/
import Derived.Test.YtoogmimbmgdflaaGreatY23
import Derived.Test.YtoogmimbmgdflaaGreatY40
namespace Go.Proofs.YtoogmimbmgdflaaGreat
open Go.RowKit
variable {b cp gp : Nat} {w w0 : World} {M : List (Nat × List C)} {K : List (Nat × Obj)}
section
def opV (gs : List Int) (vs : List Value) : List Value := ((List.zip gs vs).reverse).flatMap fun p => [.int .i64 p.1, p.2]
theorem opV_cons (a : Int) (gs : List Int) (v : Value) (vs : List Value) : opV (a :: gs) (v :: vs) = opV gs vs ++ [.int .i64 a, v] := by simp [opV]
theorem opV_length : ∀ (gs : List Int) (vs : List Value), gs.length = vs.length → (opV gs vs).length = vs.length * 2
 | [], [], _ => rfl
 | [], _ :: _, h => by simp at h
 | _ :: _, [], h => by simp at h
 | a :: gs, v :: vs, h => by
  have := opV_length gs vs (by simpa using h); rw [opV_cons, List.length_append, this]; simp; omega
def RAt (w0 w : World) (gp cp : Nat) (M : List (Nat × List C)) (K : List (Nat × Obj)) (L : List C) (v : Value) (ls : List (List O)) (bg : List Int) : Prop :=
 ∃ RR vs RL, Rows RR vs ls ∧ bg.length + 1 = ls.length ∧ RowG 85 2 RL v ls.length (opV (bg ++ [0]) vs) ∧ RScp w0 w gp M (RR ++ (RL ++ K)) L cp (dsQ 2)
section
variable {w0 w w' : World} {gp cp sp : Nat} {M : List (Nat × List C)} {K K' KK : List (Nat × Obj)} {L L' : List C} {v : Value} {ls : List (List O)} {bg : List Int} {ds : List O}
theorem RAt.chg (S : RAt w0 w gp cp M K L v ls bg) : Chg NoB w0 w := by
 obtain ⟨RR, vs, RL, -, -, -, S⟩ := S; exact S.chg
theorem RAt.pure (S : RAt w0 w gp cp M K L v ls bg) (X : Chg NoB w w') : RAt w0 w' gp cp M K L v ls bg := by
 obtain ⟨RR, vs, RL, h1, h2, h3, S⟩ := S; exact ⟨RR, vs, RL, h1, h2, h3, S.pure X⟩
theorem RAt.alloc (S : RAt w0 w gp cp M K L v ls bg) (o : Obj) : RAt w0 (w.alloc o) gp cp M ((w.heap.size, o) :: K) L v ls bg := by
 obtain ⟨RR, vs, RL, h1, h2, h3, S⟩ := S
 exact ⟨RR, vs, RL, h1, h2, h3, (S.alloc o).perm (by
  classical refine List.perm_iff_count.2 fun z => ?_
  simp only [List.count_append, List.count_cons]
  omega)⟩
theorem RAt.keep (S : RAt w0 w gp cp M K L v ls bg) (h : K'.Sublist K) : RAt w0 w gp cp M K' L v ls bg := by
 obtain ⟨RR, vs, RL, h1, h2, h3, S⟩ := S; exact ⟨RR, vs, RL, h1, h2, h3, S.keep ((h.append_left _).append_left _)⟩
theorem RAt.box (S : RAt w0 w gp cp M K L v ls bg) (q : Nat × Obj) (hq : q ∈ K) : w.heap[q.1]? = some q.2 := by
 obtain ⟨RR, vs, RL, h1, h2, h3, S⟩ := S; exact S.box q (List.mem_append_right _ (List.mem_append_right _ hq))
theorem RAt.over (S : RAt w0 w gp cp M K L v ls bg) (h : ∀ E, RScp w0 w gp M (E ++ K) L cp (dsQ 2) → RScp w0 w' gp M (E ++ K') L' cp (dsQ 2)) : RAt w0 w' gp cp M K' L' v ls bg := by
 obtain ⟨RR, vs, RL, h1, h2, h3, S⟩ := S; refine ⟨RR, vs, RL, h1, h2, h3, ?_⟩; have := h (RR ++ RL) (by simpa using S)
 simpa using this
theorem RAt.putO {c0 c1 c2 c3 c4 c5 : Value} {T' : TypeId} (S : RAt w0 w gp cp M ((b, .cells #[c0, c1, c2, c3, c4, c5] T') :: K) L v ls bg) (kk : Int) (kx : Bool) (kn kp kl : Int) (ks : ByteArray) :
 RAt w0 ((((((w.setCell ⟨b, 0, none⟩ (.int .i64 kk)).setCell ⟨b, 1, none⟩ (.bool kx)).setCell ⟨b, 2, none⟩ (.int .i64 kn)).setCell ⟨b, 3, none⟩ (.int .i64 kp)).setCell ⟨b, 4, none⟩ (.int .i64 kl)).setCell ⟨b, 5, none⟩ (.string ks)) gp cp M ((b, .cells #[.int .i64 kk, .bool kx, .int .i64 kn, .int .i64 kp, .int .i64 kl, .string ks] T') :: K) L v ls bg :=
 S.over fun _ S => ((S.perm List.perm_middle).putO kk kx kn kp kl ks).perm List.perm_middle.symm
theorem RAt.ask {f : Nat} {args : Array Value} {r : Value} (S : RAt w0 w gp cp M K L v ls bg)
 (h : ∀ E, RScp w0 w gp M (E ++ K) L cp (dsQ 2) → Calls Tryz.prog f args w fun e w' => e = .returned r ∧ RScp w0 w' gp M (E ++ K) L' cp (dsQ 2)) :
 Calls Tryz.prog f args w fun e w' => e = .returned r ∧ RAt w0 w' gp cp M K L' v ls bg := by
 obtain ⟨RR, vs, RL, h1, h2, h3, S⟩ := S
 refine (h (RR ++ RL) (by simpa using S)).mono fun e w' ⟨e1, S'⟩ => ⟨e1, RR, vs, RL, h1, h2, h3, by simpa using S'⟩
theorem RScp.lay {R K2 : List (Nat × Obj)} {o : Obj} (S : RScp w0 w gp M KK L sp ds) (h : KK.Perm (R ++ ((b, o) :: K2))) :
 ∃ Y, Ats w0 w M (R ++ ((b, o) :: (K2 ++ Y))) ∧ ∀ w' R' o', Ats w0 w' M (R' ++ ((b, o') :: (K2 ++ Y))) → RScp w0 w' gp M (R' ++ ((b, o') :: K2)) L sp ds := by
 obtain ⟨g, cap, cur, h1, h2, h3, h4, E, H, A⟩ := S; refine ⟨E ++ [(g, .cells cur 39), (sp, .cells #[ptr gp, .slice (some ⟨g, 0, none⟩) ds.length cap] 74)], A.perm ?_, fun w' R' o' A' => ⟨g, cap, cur, h1, h2, h3, h4, E, H, A'.perm ?_⟩⟩
 · refine (List.Perm.append_left E (((h.cons _).cons _))).trans ?_
   classical refine List.perm_iff_count.2 fun z => ?_
   simp only [List.count_append, List.count_cons, List.count_nil]; omega
 · classical refine List.perm_iff_count.2 fun z => ?_
   simp only [List.count_append, List.count_cons, List.count_nil]; omega
end
def regR (n : Nat) : Code → Option Code
 | .region i ops b => match Nat.beq i n with
  | true => some (.region i ops b)
  | false => none
 | .seq a b => match regR n a with
  | some c => some c
  | none => regR n b
 | .cond _ a b => match regR n a with
  | some c => some c
  | none => regR n b
 | .block _ c => regR n c
 | .loop c => regR n c
 | _ => none
def NPR (K : Act → World → Prop) : Exit → Act → World → Prop
 | .normal, a, w => K a w
 | _, _, _ => False
set_option maxRecDepth 100000 in
set_option maxHeartbeats 8000000 in
theorem rput22 (code : Code) (hcode : (Tryz.f11.body).bind (regR 23) = some code) {t0 t1 t2 t3 t4 t5 t6 t7 t8 t10 t12 t13 t14 t15 t16 t17 t18 t19 t20 t21 t22 t23 t24 t25 t26 t27 t28 t29 t30 t31 t32 t33 t34 t35 t36 t37 t38 t39 t40 t41 t42 t43 t44 t45 t46 t47 t48 t49 t50 t51 t52 t53 t54 t55 t56 t57 t58 t59 t60 t61 t62 t63 t64 t65 t66 t67 t68 t69 t70 t71 t72 t73 t74 t75 t76 t77 t78 t79 t80 t81 t82 t83 t84 t85 t86 t87 t88 t89 t90 t91 t92 t93 t94 t95 t96 t97 t98 t99 t100 t101 t102 t103 t104 t105 t106 t107 t108 t109 t110 t111 : Value} {w0 w1 : World} {gp cp gL q capL b11 : Nat} {M : List (Nat × List C)} {K : List (Nat × Obj)} {L : List C} {l : List O} {ls : List (List O)} {bg : List Int} {xk : Int} {xx : Bool} {xn xp xl : Int} {xs : ByteArray}
 (S : RAt w0 w1 gp cp M ((b11, Obj.cells #[.int .i64 xk, .bool xx, .int .i64 xn, .int .i64 xp, .int .i64 xl, .string xs] 39) :: K) L (.slice (some ⟨gL, 0, none⟩) q capL) (l :: ls) bg) (hl : l.length ≤ 100000) (hls : ls.length ≤ 1000)
 (K' : Act → World → Prop) (hK : ∀ (u82 u83 u84 u85 u86 u87 u88 u89 u90 u91 u92 u93 u94 u95 u96 u97 : Value) (wx : World), RAt w0 wx gp cp M ((b11, Obj.cells #[.int .i64 xk, .bool xx, .int .i64 xn, .int .i64 xp, .int .i64 xl, .string xs] 39) :: K) L (.slice (some ⟨gL, 0, none⟩) q capL) ((l ++ [⟨xk, xx, xn, xp, xl, xs⟩]) :: ls) bg → K' { tmps := #[t0, t1, t2, t3, t4, t5, t6, t7, t8, .slice (some ⟨gL, 0, none⟩) q capL, t10, .pointer (some ⟨b11, 0, none⟩), t12, t13, t14, t15, t16, t17, t18, t19, t20, t21, t22, t23, t24, t25, t26, t27, t28, t29, t30, t31, t32, t33, t34, t35, t36, t37, t38, t39, t40, t41, t42, t43, t44, t45, t46, t47, t48, t49, t50, t51, t52, t53, t54, t55, t56, t57, t58, t59, t60, t61, t62, t63, t64, t65, t66, t67, t68, t69, t70, t71, t72, t73, t74, t75, t76, t77, t78, t79, t80, t81, u82, u83, u84, u85, u86, u87, u88, u89, u90, u91, u92, u93, u94, u95, u96, u97, t98, t99, t100, t101, t102, t103, t104, t105, t106, t107, t108, t109, t110, t111], defers := [] } wx) :
 code.wp Tryz.prog (NPR K') { tmps := #[t0, t1, t2, t3, t4, t5, t6, t7, t8, .slice (some ⟨gL, 0, none⟩) q capL, t10, .pointer (some ⟨b11, 0, none⟩), t12, t13, t14, t15, t16, t17, t18, t19, t20, t21, t22, t23, t24, t25, t26, t27, t28, t29, t30, t31, t32, t33, t34, t35, t36, t37, t38, t39, t40, t41, t42, t43, t44, t45, t46, t47, t48, t49, t50, t51, t52, t53, t54, t55, t56, t57, t58, t59, t60, t61, t62, t63, t64, t65, t66, t67, t68, t69, t70, t71, t72, t73, t74, t75, t76, t77, t78, t79, t80, t81, t82, t83, t84, t85, t86, t87, t88, t89, t90, t91, t92, t93, t94, t95, t96, t97, t98, t99, t100, t101, t102, t103, t104, t105, t106, t107, t108, t109, t110, t111], defers := [] } w1 := by
 have h : (Tryz.f11.body).bind (regR 23) = some _ := rfl; obtain rfl := Option.some.inj (hcode.symm.trans h); clear h hcode; obtain ⟨RR0, vs0, RL, hrows, hbg, hRL, S⟩ := S
 cases hrows with
 | @cons R RR v0 vs _ _ hR hRR =>
 have hvl := hRR.length
 obtain ⟨n, hn⟩ : ∃ n, ls.length = n := ⟨_, rfl⟩
 rw [hn] at hvl
 rcases hRL with ⟨-, h0, -⟩ | ⟨gL', capL', curL, hv, rfl, c1, c2, c3, c4, c5⟩
 · simp at h0
 simp only [Value.slice.injEq, Option.some.injEq, Addr.mk.injEq, and_true] at hv; obtain ⟨rfl, hq0, rfl⟩ := hv; simp only [List.length_cons, hn] at c1 c3 c4 c5 hbg hq0; have hq : n + 1 = q := hq0.symm
 obtain ⟨a0, gs, has⟩ : ∃ a0 gs, bg ++ [0] = a0 :: gs := by
  cases bg with
  | nil => exact ⟨_, _, rfl⟩
  | cons b bg => exact ⟨_, _, rfl⟩
 have hasl : gs.length = n := by
  have := congrArg List.length has; simp only [List.length_append, List.length_cons, List.length_nil] at this; omega
 rw [has, opV_cons] at c4 c5; have hol := opV_length gs vs (by rw [hasl, hvl]); rw [hvl] at hol
 have cv : curL[n * 2 + 1]? = some v0 := by
  have h := congrArg (fun z => z[n * 2 + 1]?) c4; simp only [List.getElem?_take_of_lt (show n * 2 + 1 < (n + 1) * 2 by omega), Array.getElem?_toList] at h; rw [h, List.getElem?_append_right (by rw [hol]; omega), hol]; simp
 clear hq0; rw [hq] at c1 c4 c5
 obtain ⟨Y, A2, hback⟩ := S.lay (R := R) (b := gL) (o := Obj.cells curL 85) (K2 := RR ++ ((b11, Obj.cells #[.int .i64 xk, .bool xx, .int .i64 xn, .int .i64 xp, .int .i64 xl, .string xs] 39) :: K)) (by
  classical refine List.perm_iff_count.2 fun z => ?_
  simp only [List.count_append, List.count_cons, List.count_nil]
  omega)
 obtain ⟨KX, hKX⟩ : ∃ KX, KX = RR ++ ((b11, Obj.cells #[.int .i64 xk, .bool xx, .int .i64 xn, .int .i64 xp, .int .i64 xl, .string xs] 39) :: K) ++ Y := ⟨_, rfl⟩
 rw [← hKX] at A2 hback
 have mbx : (b11, Obj.cells #[.int .i64 xk, .bool xx, .int .i64 xn, .int .i64 xp, .int .i64 xl, .string xs] 39) ∈ KX := by rw [hKX]; simp
 have hSub : KX.Sublist (R ++ ((gL, Obj.cells curL 85) :: KX)) := (List.sublist_cons_self _ _).trans (List.sublist_append_right _ _); have mgL : (gL, Obj.cells curL 85) ∈ R ++ ((gL, Obj.cells curL 85) :: KX) := List.mem_append_right _ m0
 have q1 : (q : Int) - 1 = n := by omega
 have qn := IntWalk.i64_in (n : Int) (by omega)
 have n0 : (0 : Int) ≤ n := by omega
 have nq : (n : Int) < q := by omega
 have HL := hid' hl; have HR := hid' hR
 have HFIN := hid' (fun (W : World) (R8 : List (Nat × Obj)) (g2 cap2 : Nat) (hR8 : RowG 39 6 R8 (.slice (some ⟨g2, 0, none⟩) (l.length + 1) cap2) (l.length + 1) (l.flatMap O.cells ++ O.cells ⟨xk, xx, xn, xp, xl, xs⟩)) (A8 : Ats w0 W M (R8 ++ ((gL, Obj.cells curL 85) :: KX))) => (show RAt w0 (W.setCell ⟨gL, n * 2 + 1, none⟩ (.slice (some ⟨g2, 0, none⟩) (l.length + 1) cap2)) gp cp M ((b11, Obj.cells #[.int .i64 xk, .bool xx, .int .i64 xn, .int .i64 xp, .int .i64 xl, .string xs] 39) :: K) L (.slice (some ⟨gL, 0, none⟩) q capL) ((l ++ [⟨xk, xx, xn, xp, xl, xs⟩]) :: ls) bg by
  have A9 : Ats w0 (W.setCell ⟨gL, n * 2 + 1, none⟩ (.slice (some ⟨g2, 0, none⟩) (l.length + 1) cap2)) M (R8 ++ ((gL, Obj.cells (curL.setIfInBounds (n * 2 + 1) (.slice (some ⟨g2, 0, none⟩) (l.length + 1) cap2)) 85) :: KX)) := ((A8.perm List.perm_middle).put (n * 2 + 1) _).perm List.perm_middle.symm; have S9 := hback _ _ _ A9
  have hlen : (l ++ [(⟨xk, xx, xn, xp, xl, xs⟩ : O)]).length = l.length + 1 := by rw [List.length_append]; rfl
  have hRow : RowG 39 6 R8 (.slice (some ⟨g2, 0, none⟩) (l.length + 1) cap2) (l ++ [(⟨xk, xx, xn, xp, xl, xs⟩ : O)]).length ((l ++ [(⟨xk, xx, xn, xp, xl, xs⟩ : O)]).flatMap O.cells) := by
   rw [hlen, List.flatMap_append, List.flatMap_cons, List.flatMap_nil, List.append_nil]; exact hR8
  refine ⟨R8 ++ RR, _ :: vs, [(gL, Obj.cells (curL.setIfInBounds (n * 2 + 1) (.slice (some ⟨g2, 0, none⟩) (l.length + 1) cap2)) 85)], .cons hRow hRR, by rw [List.length_cons, hn]; omega, ?_, S9.perm ?_⟩
  · rw [List.length_cons, hn, hq, has, opV_cons]; refine .inr ⟨gL, capL, _, rfl, rfl, c1, c2, by rw [Array.size_setIfInBounds, c3], ?_, by rw [List.length_append, hol]; simp; omega⟩; rw [takeB_set, c4, List.set_append_right _ _ (by rw [hol]; omega), hol]; simp
  · classical refine List.perm_iff_count.2 fun z => ?_
    simp only [List.count_append, List.count_cons, List.count_nil]
    omega))
 have HPUT := hid' (fun (W : World) (R8 : List (Nat × Obj)) (vv : Value) (A8 : Ats w0 W M (R8 ++ ((gL, Obj.cells curL 85) :: KX))) => (((A8.perm List.perm_middle).put (n * 2 + 1) vv).perm List.perm_middle.symm : Ats w0 (W.setCell ⟨gL, n * 2 + 1, none⟩ vv) M (R8 ++ ((gL, Obj.cells (curL.setIfInBounds (n * 2 + 1) vv) 85) :: KX))))
 obtain ⟨m, hm⟩ : ∃ m, l.length = m := ⟨_, rfl⟩
 rw [hm] at HR HL HFIN; have HK := hid' hK; obtain ⟨i0, hi, hz0, hz1, hz2⟩ := info_parts Tryz.infoObj
 have hcapL : (q : Int) ≤ capL := by omega
 clear c1 c2 c3 c4 c5 hR hRR hKX hvl hn hq hls hl hm S hback hK hasl hol has hbg; have Rg := cells_of (A2.box _ mgL); have yg := blk_lt (A2.box _ mgL); have ybx := blk_lt (A2.box _ (hSub.subset mbx)); simp only at yg ybx; have hS1 : AnyB w0 M KX w1 := A2.keep hSub; have QX := AnyB.cells (w0 := w0) (M := M) mbx; have HA := hid' A2; clear A2; refine wp_region_held_drew (S := fun W' => AnyB w0 M KX W') (by kernel_rfl) hS1.drew (fun hHeld => ?_); refine wpAnyH_take (i := 0) (oi := { dst := some 82, op := _, type := _, pos := _, after := _, guard := _ }) (v := ?_) rfl (by kernel_rfl) (by kernel_rfl) (by kernel_rfl) (fun _ _ _ h => h) (Or.inl ⟨by rfl, ?_⟩) (by assumption) ?_; rotate_left
 · intro w hSw; go_simp; try with_reducible rfl
 try simp only [Act.put, List.setIfInBounds_toArray, List.set_cons_zero, List.set_cons_succ]
 refine wpAnyH_take (i := 1) (oi := { dst := some 83, op := _, type := _, pos := _, after := _, guard := _ }) (v := ?_) rfl (by kernel_rfl) (by kernel_rfl) (by kernel_rfl) (fun _ _ _ h => h) (Or.inl ⟨by rfl, ?_⟩) (by assumption) ?_; rotate_left
 · intro w hSw; go_simp; try with_reducible rfl
 try simp only [Act.put, List.setIfInBounds_toArray, List.set_cons_zero, List.set_cons_succ]
 refine wpAnyH_take (i := 2) (oi := { dst := some 84, op := _, type := _, pos := _, after := _, guard := _ }) (v := ?_) rfl (by kernel_rfl) (by kernel_rfl) (by kernel_rfl) (fun _ _ _ h => h) (Or.inl ⟨by rfl, ?_⟩) (by assumption) ?_; rotate_left
 · intro w hSw; go_simp; try with_reducible rfl
 try simp only [Act.put, List.setIfInBounds_toArray, List.set_cons_zero, List.set_cons_succ]
 refine wpAnyH_take (i := 3) (oi := { dst := some 85, op := _, type := _, pos := _, after := _, guard := _ }) (v := ?_) rfl (by kernel_rfl) (by kernel_rfl) (by kernel_rfl) (fun _ _ _ h => h) (Or.inl ⟨by rfl, ?_⟩) (by assumption) ?_; rotate_left
 · intro w hSw; go_simp; try with_reducible rfl
 try simp only [Act.put, List.setIfInBounds_toArray, List.set_cons_zero, List.set_cons_succ]
 refine wpAnyH_take (i := 4) (oi := { dst := some 86, op := _, type := _, pos := _, after := _, guard := _ }) (v := ?_) rfl (by kernel_rfl) (by kernel_rfl) (by kernel_rfl) (fun _ _ _ h => h) (Or.inl ⟨by rfl, ?_⟩) (by assumption) ?_; rotate_left
 · intro w hSw; go_simp; try with_reducible rfl
 try simp only [Act.put, List.setIfInBounds_toArray, List.set_cons_zero, List.set_cons_succ]
 refine wpAnyH_take (i := 5) (oi := { dst := some 87, op := _, type := _, pos := _, after := _, guard := _ }) (v := ?_) rfl (by kernel_rfl) (by kernel_rfl) (by kernel_rfl) (fun _ _ _ h => h) (Or.inl ⟨by rfl, ?_⟩) (by assumption) ?_; rotate_left
 · intro w hSw; go_simp; try with_reducible rfl
 try simp only [Act.put, List.setIfInBounds_toArray, List.set_cons_zero, List.set_cons_succ]
 refine wpAnyH_take (i := 6) (oi := { dst := some 88, op := _, type := _, pos := _, after := _, guard := _ }) (v := ?_) rfl (by kernel_rfl) (by kernel_rfl) (by kernel_rfl) (fun _ _ _ h => h) (Or.inl ⟨by rfl, ?_⟩) (by assumption) ?_; rotate_left
 · intro w hSw; go_simp; try with_reducible rfl
 try simp only [Act.put, List.setIfInBounds_toArray, List.set_cons_zero, List.set_cons_succ]
 refine wpAnyH_take (i := 7) (oi := { dst := some 89, op := _, type := _, pos := _, after := _, guard := _ }) (v := ?_) rfl (by kernel_rfl) (by kernel_rfl) (by kernel_rfl) (fun _ _ _ h => h) (Or.inl ⟨by rfl, ?_⟩) (by assumption) ?_; rotate_left
 · intro w hSw; go_simp; try with_reducible rfl
 try simp only [Act.put, List.setIfInBounds_toArray, List.set_cons_zero, List.set_cons_succ]
 refine wpAnyH_take (i := 8) (oi := { dst := some 90, op := _, type := _, pos := _, after := _, guard := _ }) (v := ?_) rfl (by kernel_rfl) (by kernel_rfl) (by kernel_rfl) (fun _ _ _ h => h) (Or.inl ⟨by rfl, ?_⟩) (by assumption) ?_; rotate_left
 · intro w hSw; go_simp; try with_reducible rfl
 try simp only [Act.put, List.setIfInBounds_toArray, List.set_cons_zero, List.set_cons_succ]
 refine wpAnyH_take (i := 9) (oi := { dst := some 91, op := _, type := _, pos := _, after := _, guard := _ }) (v := ?_) rfl (by kernel_rfl) (by kernel_rfl) (by kernel_rfl) (fun _ _ _ h => h) (Or.inl ⟨by rfl, ?_⟩) (by assumption) ?_; rotate_left
 · intro w hSw; go_simp; try with_reducible rfl
 try simp only [Act.put, List.setIfInBounds_toArray, List.set_cons_zero, List.set_cons_succ]
 refine wpAnyH_take (i := 11) (oi := { dst := some 93, op := _, type := _, pos := _, after := _, guard := _ }) (v := ?_) rfl (by kernel_rfl) (by kernel_rfl) (by kernel_rfl) (fun _ _ _ h => h) (Or.inl ⟨by rfl, ?_⟩) (by assumption) ?_; rotate_left
 · intro w hSw; go_simp; try with_reducible rfl
 try simp only [Act.put, List.setIfInBounds_toArray, List.set_cons_zero, List.set_cons_succ]
 refine wpAnyH_ready (rs := [10, 12]) (by kernel_rfl) (by simp) ?_; refine AllReadyH.cons (o := { dst := some 92, op := _, type := _, pos := _, after := _, guard := _ }) rfl (fun K' hK' => ?_) (AllReadyH.cons (o := { dst := some 94, op := _, type := _, pos := _, after := _, guard := _ }) rfl (fun K' hK' => ?_) AllReadyH.nil)
 · go_simp
   refine hK'.out _ _ ?_ (fun hHeld2 => ?_)
   · with_reducible assumption
   clear hK' K'
   try simp only [Act.put, List.setIfInBounds_toArray, List.set_cons_zero, List.set_cons_succ]
   refine wpAnyH_ready (rs := [12]) (by kernel_rfl) (by simp) ?_; refine AllReadyH.cons (o := { dst := some 94, op := _, type := _, pos := _, after := _, guard := _ }) rfl (fun K' hK' => ?_) AllReadyH.nil; go_simp
   refine hK'.out _ _ ?_ (fun hHeld2 => ?_)
   · exact AnyB.grow (by assumption) _
   clear hK' K'
   try simp only [Act.put, List.setIfInBounds_toArray, List.set_cons_zero, List.set_cons_succ]
   refine wpAnyH_ready (rs := [13]) (by kernel_rfl) (by simp) ?_; refine AllReadyH.cons (o := { dst := some 95, op := _, type := _, pos := _, after := _, guard := _ }) rfl (fun K' hK' => ?_) AllReadyH.nil; refine stepB_app rfl (.tmp 92) (.tmp 94) 42 rfl 39 i0 O.nil.val 6 56 Tryz.underObjs hi hz0 hz1 hz2 rfl (by decide) R ((gL, Obj.cells curL 85) :: KX) v0 m (l.flatMap O.cells) (by first | exact HA.out.pure ((Chg.refl NoB w1).alloc _) | exact HA.out.pure (((Chg.refl NoB w1).alloc _).drew) | exact HA.out.pure (((Chg.refl NoB w1).drew).alloc _)) HR.out rfl ⟨w1.heap.size, 0, none⟩ 1 1 (O.cells (⟨xk, xx, xn, xp, xl, xs⟩ : O)) rfl rfl (newsB_all (T := 39) (fz := (0, 0)) (by first | exact blk_new w1 _ | exact blk_drew (blk_new w1 _) | exact blk_new w1.drew _)) (one6 _) (by decide) (by have := HL.out; unfold maxLen; omega) (by have := HL.out; omega) ?_; intro g2 cap2 w8 R8 hR8 A8; have HR8 := hid' hR8; have HA8 := hid' A8; have Rg8 := cells_of (A8.box _ (List.mem_append_right R8 (m0 (a := (gL, Obj.cells curL 85)) (l := KX)))); have Zg8 := free_of (A8.box _ (List.mem_append_right R8 (m0 (a := (gL, Obj.cells curL 85)) (l := KX)))); have yg8 := blk_lt (A8.box _ (List.mem_append_right R8 (m0 (a := (gL, Obj.cells curL 85)) (l := KX)))); simp only at yg8; have t8 : AnyB w0 M KX w8 := A8.keep ((List.sublist_cons_self _ _).trans (List.sublist_append_right _ _)); clear hR8 A8; refine hK'.out _ _ ?_ (fun hHeld2 => ?_)
   · exact t8
   clear hK' K'
   try simp only [Act.put, List.setIfInBounds_toArray, List.set_cons_zero, List.set_cons_succ]
   refine wpAnyH_take (i := 14) (oi := { dst := some 96, op := _, type := _, pos := _, after := _, guard := _ }) (v := ?_) rfl (by kernel_rfl) (by kernel_rfl) (by kernel_rfl) (fun _ _ _ h => h) (Or.inl ⟨by rfl, ?_⟩) (by assumption) ?_; rotate_left
   · intro w hSw; go_simp; try with_reducible rfl
   try simp only [Act.put, List.setIfInBounds_toArray, List.set_cons_zero, List.set_cons_succ]
   refine wpAnyH_take (i := 15) (oi := { dst := some 97, op := _, type := _, pos := _, after := _, guard := _ }) (v := ?_) rfl (by kernel_rfl) (by kernel_rfl) (by kernel_rfl) (fun _ _ _ h => h) (Or.inl ⟨by rfl, ?_⟩) (by assumption) ?_; rotate_left
   · intro w hSw; go_simp; try with_reducible rfl
   try simp only [Act.put, List.setIfInBounds_toArray, List.set_cons_zero, List.set_cons_succ]
   refine wpAnyH_ready (rs := [16]) (by kernel_rfl) (by simp) ?_; refine AllReadyH.cons (o := { dst := none, op := _, type := _, pos := _, after := _, guard := _ }) rfl (fun K' hK' => ?_) AllReadyH.nil; go_simp
   refine hK'.out _ _ ?_ (fun hHeld2 => ?_)
   · exact (HPUT.out _ _ _ HA8.out).keep ((List.sublist_cons_self _ _).trans (List.sublist_append_right _ _))
   clear hK' K'
   try simp only [Act.put, List.setIfInBounds_toArray, List.set_cons_zero, List.set_cons_succ]
   refine wpAnyH_done (by kernel_rfl) ?_ _; exact HK.out _ _ _ _ _ _ _ _ _ _ _ _ _ _ _ _ _ (HFIN.out _ _ _ _ HR8.out HA8.out)
 · go_simp
   refine hK'.out _ _ ?_ (fun hHeld2 => ?_)
   · exact AnyB.grow (by assumption) _
   clear hK' K'
   try simp only [Act.put, List.setIfInBounds_toArray, List.set_cons_zero, List.set_cons_succ]
   refine wpAnyH_ready (rs := [10]) (by kernel_rfl) (by simp) ?_; refine AllReadyH.cons (o := { dst := some 92, op := _, type := _, pos := _, after := _, guard := _ }) rfl (fun K' hK' => ?_) AllReadyH.nil; go_simp
   refine hK'.out _ _ ?_ (fun hHeld2 => ?_)
   · with_reducible assumption
   clear hK' K'
   try simp only [Act.put, List.setIfInBounds_toArray, List.set_cons_zero, List.set_cons_succ]
   refine wpAnyH_ready (rs := [13]) (by kernel_rfl) (by simp) ?_; refine AllReadyH.cons (o := { dst := some 95, op := _, type := _, pos := _, after := _, guard := _ }) rfl (fun K' hK' => ?_) AllReadyH.nil; refine stepB_app rfl (.tmp 92) (.tmp 94) 42 rfl 39 i0 O.nil.val 6 56 Tryz.underObjs hi hz0 hz1 hz2 rfl (by decide) R ((gL, Obj.cells curL 85) :: KX) v0 m (l.flatMap O.cells) (by first | exact HA.out.pure ((Chg.refl NoB w1).alloc _) | exact HA.out.pure (((Chg.refl NoB w1).alloc _).drew) | exact HA.out.pure (((Chg.refl NoB w1).drew).alloc _)) HR.out rfl ⟨w1.heap.size, 0, none⟩ 1 1 (O.cells (⟨xk, xx, xn, xp, xl, xs⟩ : O)) rfl rfl (newsB_all (T := 39) (fz := (0, 0)) (by first | exact blk_new w1 _ | exact blk_drew (blk_new w1 _) | exact blk_new w1.drew _)) (one6 _) (by decide) (by have := HL.out; unfold maxLen; omega) (by have := HL.out; omega) ?_; intro g2 cap2 w8 R8 hR8 A8; have HR8 := hid' hR8; have HA8 := hid' A8; have Rg8 := cells_of (A8.box _ (List.mem_append_right R8 (m0 (a := (gL, Obj.cells curL 85)) (l := KX)))); have Zg8 := free_of (A8.box _ (List.mem_append_right R8 (m0 (a := (gL, Obj.cells curL 85)) (l := KX)))); have yg8 := blk_lt (A8.box _ (List.mem_append_right R8 (m0 (a := (gL, Obj.cells curL 85)) (l := KX)))); simp only at yg8; have t8 : AnyB w0 M KX w8 := A8.keep ((List.sublist_cons_self _ _).trans (List.sublist_append_right _ _)); clear hR8 A8; refine hK'.out _ _ ?_ (fun hHeld2 => ?_)
   · exact t8
   clear hK' K'
   try simp only [Act.put, List.setIfInBounds_toArray, List.set_cons_zero, List.set_cons_succ]
   refine wpAnyH_take (i := 14) (oi := { dst := some 96, op := _, type := _, pos := _, after := _, guard := _ }) (v := ?_) rfl (by kernel_rfl) (by kernel_rfl) (by kernel_rfl) (fun _ _ _ h => h) (Or.inl ⟨by rfl, ?_⟩) (by assumption) ?_; rotate_left
   · intro w hSw; go_simp; try with_reducible rfl
   try simp only [Act.put, List.setIfInBounds_toArray, List.set_cons_zero, List.set_cons_succ]
   refine wpAnyH_take (i := 15) (oi := { dst := some 97, op := _, type := _, pos := _, after := _, guard := _ }) (v := ?_) rfl (by kernel_rfl) (by kernel_rfl) (by kernel_rfl) (fun _ _ _ h => h) (Or.inl ⟨by rfl, ?_⟩) (by assumption) ?_; rotate_left
   · intro w hSw; go_simp; try with_reducible rfl
   try simp only [Act.put, List.setIfInBounds_toArray, List.set_cons_zero, List.set_cons_succ]
   refine wpAnyH_ready (rs := [16]) (by kernel_rfl) (by simp) ?_; refine AllReadyH.cons (o := { dst := none, op := _, type := _, pos := _, after := _, guard := _ }) rfl (fun K' hK' => ?_) AllReadyH.nil; go_simp
   refine hK'.out _ _ ?_ (fun hHeld2 => ?_)
   · exact (HPUT.out _ _ _ HA8.out).keep ((List.sublist_cons_self _ _).trans (List.sublist_append_right _ _))
   clear hK' K'
   try simp only [Act.put, List.setIfInBounds_toArray, List.set_cons_zero, List.set_cons_succ]
   refine wpAnyH_done (by kernel_rfl) ?_ _; exact HK.out _ _ _ _ _ _ _ _ _ _ _ _ _ _ _ _ _ (HFIN.out _ _ _ _ HR8.out HA8.out)
end
section
theorem infoOpen : (Tryz.prog.info? 85).map (fun i => (i.zero, i.size, i.bytes)) = some (some (.agg #[.int .i64 0, .slice none 0 0]), 2, 32) := by kernel_rfl
theorem underOpens : Tryz.prog.underlying 86 = some (.slice 85) := by kernel_rfl
theorem npr_any {Q : Exit → Act → World → Prop} {code : Code} {a : Act} (h : code.wp Tryz.prog (NPR fun a w => Q .normal a w) a w) : code.wp Tryz.prog Q a w :=
 Code.wp_mono (fun e a w h => by cases e <;> first | exact h | exact h.elim) h
theorem obj_err {F : List C → ByteArray → O × Int} {L0 L1 : List C} {toks : List Tok} {k : Nat} {a e1 : Int} (hk : runO F 0 (toks.take k) (L0, [[]], []) = .inr (L1, a, e1)) : objsB F L0 toks = (L1, [], a, e1) := by
 unfold objsB; have := runO_err F (toks.take k) (toks.drop k) 0 _ _ hk; rw [List.take_append_drop] at this; rw [this]
theorem leaf_base {F : List C → ByteArray → O × Int} {L L' : List C} {t : Tok} {o : O} {e : Int} (h : leafB F L t = (L', o, e)) : ∃ Z, L' = L ++ Z := by
 unfold leafB at h; split at h
 · unfold stringH makeH at h; split at h
   · simp only [Prod.mk.injEq] at h; exact ⟨[], by rw [← h.1, List.append_nil]⟩
   · split at h
     · simp only [Prod.mk.injEq] at h; exact ⟨[], by rw [← h.1, List.append_nil]⟩
     · simp only [Prod.mk.injEq] at h; exact ⟨[_], h.1.symm⟩
 split at h
 · simp only [Prod.mk.injEq] at h; exact ⟨[], by rw [← h.1, List.append_nil]⟩
 split at h
 · simp only [Prod.mk.injEq] at h; exact ⟨[], by rw [← h.1, List.append_nil]⟩
 split at h
 · simp only [Prod.mk.injEq] at h; exact ⟨[], by rw [← h.1, List.append_nil]⟩
 split at h
 · simp only [Prod.mk.injEq] at h; exact ⟨[], by rw [← h.1, List.append_nil]⟩
 · simp only [Prod.mk.injEq] at h; exact ⟨[], by rw [← h.1, List.append_nil]⟩
section
variable {w0 w w' : World} {gp cp sp : Nat} {M : List (Nat × List C)} {K K' KK : List (Nat × Obj)} {L L' : List C} {v : Value} {ls : List (List O)} {bg : List Int} {ds : List O}
theorem RScp.front {R K2 : List (Nat × Obj)} (S : RScp w0 w gp M KK L sp ds) (h : KK.Perm (R ++ K2)) :
 ∃ Y, Ats w0 w M (R ++ (K2 ++ Y)) ∧ ∀ w' R', Ats w0 w' M (R' ++ (K2 ++ Y)) → RScp w0 w' gp M (R' ++ K2) L sp ds := by
 obtain ⟨g, cap, cur, h1, h2, h3, h4, E, H, A⟩ := S; refine ⟨E ++ [(g, .cells cur 39), (sp, .cells #[ptr gp, .slice (some ⟨g, 0, none⟩) ds.length cap] 74)], A.perm ?_, fun w' R' A' => ⟨g, cap, cur, h1, h2, h3, h4, E, H, A'.perm ?_⟩⟩
 · refine (List.Perm.append_left E (((h.cons _).cons _))).trans ?_
   classical refine List.perm_iff_count.2 fun z => ?_
   simp only [List.count_append, List.count_cons, List.count_nil]; omega
 · classical refine List.perm_iff_count.2 fun z => ?_
   simp only [List.count_append, List.count_cons, List.count_nil]; omega
theorem RScp.put {cs : Array Value} {T : TypeId} {fz : Nat × Nat} (S : RScp w0 w gp M ((b, .cells cs T fz) :: K) L sp ds) (i : Nat) (x : Value) : RScp w0 (w.setCell ⟨b, i, none⟩ x) gp M ((b, .cells (cs.setIfInBounds i x) T fz) :: K) L sp ds := by
 obtain ⟨g, cap, cur, h1, h2, h3, h4, E, H, A⟩ := S; refine ⟨g, cap, cur, h1, h2, h3, h4, E, H, ?_⟩
 have A1 := (A.perm (K' := (b, .cells cs T fz) :: (E ++ ((g, .cells cur 39) :: (sp, .cells #[ptr gp, .slice (some ⟨g, 0, none⟩) ds.length cap] 74) :: K))) (by
  classical refine List.perm_iff_count.2 fun z => ?_
  simp only [List.count_append, List.count_cons]
  omega)).put i x
 exact A1.perm (by
  classical refine List.perm_iff_count.2 fun z => ?_
  simp only [List.count_append, List.count_cons]
  omega)
theorem RAt.put {cs : Array Value} {T : TypeId} {fz : Nat × Nat} (S : RAt w0 w gp cp M ((b, .cells cs T fz) :: K) L v ls bg) (i : Nat) (x : Value) : RAt w0 (w.setCell ⟨b, i, none⟩ x) gp cp M ((b, .cells (cs.setIfInBounds i x) T fz) :: K) L v ls bg :=
 S.over fun _ S => ((S.perm List.perm_middle).put i x).perm List.perm_middle.symm
theorem RAt.open {l : List O} {lr : List (List O)} (S : RAt w0 w gp cp M K L v (l :: lr) bg) : ∃ gL q capL curL av c0, v = .slice (some ⟨gL, 0, none⟩) q capL ∧ lr.length + 1 = q ∧ q ≤ capL ∧ bg.length = lr.length ∧ w.heap[gL]? = some (.cells curL 85) ∧
 curL[lr.length * 2]? = some (.int .i64 ((bg ++ [0]).headD 0)) ∧ curL[lr.length * 2 + 1]? = some (.slice av l.length c0) ∧ l.length ≤ c0 ∧
 (∀ L1 o e, arr19 L l = (L1, o, e) → Calls Tryz.prog 45 #[ptr gp, .slice av l.length c0] w fun r w' => r = .returned (.tuple #[o.val, .int .i64 e]) ∧ RAt w0 w' gp cp M K L1 v (l :: lr) bg) ∧
 (lr = [] → ∃ R, RowG 39 6 R (.slice av l.length c0) l.length (l.flatMap O.cells) ∧ RScp w0 w gp M (R ++ K) L cp (dsQ 2)) ∧
 (∀ l2 lr2, lr = l2 :: lr2 → ∀ b bg2, bg = b :: bg2 → RAt w0 w gp cp M K L (.slice (some ⟨gL, 0, none⟩) lr.length capL) lr bg2) := by
 obtain ⟨RR0, vs0, RL, hrows, hbg, hRL, S⟩ := S
 cases hrows with
 | @cons R RR v0 vs _ _ hR hRR =>
 have hvl := hRR.length; have hRL0 := hRL
 rcases hRL with ⟨-, h0, -⟩ | ⟨gL, capL, curL, rfl, rfl, c1, c2, c3, c4, c5⟩
 · simp at h0
 simp only [List.length_cons] at c1 c4 c5 hbg
 obtain ⟨a0, gs, has⟩ : ∃ a0 gs, bg ++ [0] = a0 :: gs := by
  cases bg with
  | nil => exact ⟨_, _, rfl⟩
  | cons b bg => exact ⟨_, _, rfl⟩
 have hgl : gs.length = lr.length := by
  have := congrArg List.length has; simp only [List.length_append, List.length_cons, List.length_nil] at this; omega
 rw [has, opV_cons] at c4 c5; have hol := opV_length gs vs (by rw [hgl, hvl]); rw [hvl] at hol
 have cat : ∀ j, j < 2 → curL[lr.length * 2 + j]? = [Value.int .i64 a0, v0][j]? := fun j hj => by
  have h := congrArg (fun z => z[lr.length * 2 + j]?) c4; simp only [List.getElem?_take_of_lt (show lr.length * 2 + j < (lr.length + 1) * 2 by omega), Array.getElem?_toList] at h; rw [h, List.getElem?_append_right (by rw [hol]; omega), hol, show lr.length * 2 + j - lr.length * 2 = j by omega]
 obtain ⟨av, c0, rfl, hc0⟩ := rowG_slice hR; refine ⟨gL, lr.length + 1, capL, curL, av, c0, rfl, rfl, c1, by omega, S.box (gL, .cells curL 85) (by simp), by rw [has]; exact cat 0 (by decide), cat 1 (by decide), hc0, ?_, ?_, ?_⟩
 · intro L1 o e hr; obtain ⟨g, cap, cur, d1, d2, d3, d4, T⟩ := S; refine (rarr19_any T av l.length c0 l rfl hc0 (fun h0 => ?_) hr).mono ?_
   · obtain ⟨g', cap', cur', e1, e2, e3⟩ := hR.shape h0; simp only [Value.slice.injEq] at e1; refine ⟨g', cur', (0, 0), e1.1, by rw [e2]; simp, fun i x hx j hj => ?_⟩; have hi : i < l.length := (List.getElem?_eq_some_iff.1 hx).1; rw [e3 _ (by omega)]; exact flatB_at l i j x hx hj
   · rintro r w' ⟨rfl, T'⟩; exact ⟨rfl, _, _, _, .cons hR hRR, by simpa using hbg, hRL0, g, cap, cur, d1, d2, d3, d4, T'⟩
 · rintro rfl
   cases hRR with
   | nil => exact ⟨R, hR, S.keep (by simp)⟩
 · rintro l2 lr2 rfl b bg2 rfl; refine ⟨RR, vs, [(gL, .cells curL 85)], hRR, by simpa using hbg, ?_, S.keep (by simp)⟩
   have ht := RowG.trunc (n := (l2 :: lr2).length) (xs := opV gs vs) (ys := [.int .i64 a0, .slice av l.length c0]) (T := 85) (sz := 2) (R := [(gL, .cells curL 85)]) (a := some ⟨gL, 0, none⟩) (c := capL) (by
    rw [has, opV_cons] at hRL0
    exact hRL0) (by rw [hol])
   have hgs : gs = bg2 ++ [0] := by
    rw [List.cons_append] at has
    injection has with _ h
    exact h.symm
   rw [hgs] at ht; exact ht
theorem StkB.may {L0 : List C} {lo0 j hi : Nat} {ls : List (List O)} (h : StkB L0 lo0 j ls hi) (hL : L0.length ≤ 2000) : ∀ l ∈ ls, ∀ x ∈ l, mayH L0 x = true := by
 induction h with
 | base h =>
  intro l hl x hx; simp only [List.mem_cons, List.not_mem_nil, or_false] at hl; subst hl; obtain ⟨a, b, ht⟩ := h.all x hx; exact ht.may hL
 | up _ h ih =>
  intro l hl x hx
  rcases List.mem_cons.1 hl with rfl | hl
  · obtain ⟨a, b, ht⟩ := h.all x hx; exact ht.may hL
  · exact ih l hl x hx
theorem RAt.more (S : RAt w0 w gp cp M K L v ls bg) : ∃ RL Y vs RR, Rows RR vs ls ∧ RowG 85 2 RL v ls.length (opV (bg ++ [0]) vs) ∧ Ats w0 w M (RL ++ ((RR ++ K) ++ Y)) ∧ ∀ w' R' v' (i : Int), RowG 85 2 R' v' (ls.length + 1) (opV (bg ++ [0]) vs ++ [.int .i64 i, .slice none 0 0]) → Ats w0 w' M (R' ++ ((RR ++ K) ++ Y)) → RAt w0 w' gp cp M K L v' ([] :: ls) (i :: bg) := by
 obtain ⟨RR, vs, RL, hrows, hbg, hRL, S⟩ := S
 obtain ⟨Y, A, hback⟩ := S.front (R := RL) (K2 := RR ++ K) (by
  classical refine List.perm_iff_count.2 fun z => ?_
  simp only [List.count_append]
  omega)
 refine ⟨RL, Y, vs, RR, hrows, hRL, A, fun w' R' v' i hR' A' => ⟨RR, .slice none 0 0 :: vs, R', .cons (R := []) (.inl ⟨rfl, rfl, rfl, rfl⟩) hrows, by simp [hbg], ?_, (hback w' R' A').perm ?_⟩⟩
 · rw [List.cons_append, opV_cons]; exact hR'
 · classical refine List.perm_iff_count.2 fun z => ?_
   simp only [List.count_append]; omega
end
def RObjP (w0 : World) (gp cp : Nat) (M : List (Nat × List C)) (K : List (Nat × Obj)) (L' : List C) (os : List O) (at_ e : Int) (r : Ending) (w' : World) : Prop := ∃ v R, r = .returned (.tuple #[v, .int .i64 at_, .int .i64 e]) ∧ RowG 39 6 R v os.length (os.flatMap O.cells) ∧ RScp w0 w' gp M (R ++ K) L' cp (dsQ 2)
set_option maxRecDepth 100000 in
set_option maxHeartbeats 16000000 in
theorem robjs_any (Q : List DQ) (hQ1 : OKQ Q) (hQ2 : 2 ≤ Q.length) (hF : GoodF (lookL Q)) (L0 : List C) (hLX : ∃ X, L0 = hQ Q ++ X) (S : RScp w0 w gp M K L0 cp (dsQ 2)) (hL0 : L0.length ≤ 2000) (hu0 : used L0 ≤ 40000) (ad : Option Addr) (cap n : Nat) (toks : List Tok) (hn : toks.length = n) (h90 : n ≤ 90) (hv : ToksAt w0 (.slice ad n cap) toks) (hok : ∀ t ∈ toks, TokB t)
 {L' : List C} {os : List O} {at_ e : Int} (hres : objsB (lookL Q) L0 toks = (L', os, at_, e)) :
 Calls Tryz.prog 11 #[ptr gp, ptr cp, .slice ad n cap] w (RObjP w0 gp cp M K L' os at_ e) := by
 have HRES := hid' hres; have HV := hid' hv; have HOK := hid' hok; have HN := hid' hn; have HQ1 := hid' hQ1; have HF := hid' hF
 have HCAP : Hid (∀ i, i < n → (∃ b off, ad = some ⟨b, off, none⟩ ∧ b < w0.heap.size ∧ ∀ (i : Nat) (t : Tok), toks[i]? = some t → TokC w0 b (off + i * 4) t) ∧ n ≤ cap) := hid' (fun i hi => by
  obtain ⟨a', c', he, hc, hr⟩ := hv; simp only [Value.slice.injEq] at he; obtain ⟨rfl, h1, rfl⟩ := he
  exact ⟨hr (by omega), by omega⟩)
 have HB0 : Hid (RunB L0.length 0 (L0, [[]], [])) := hid' ⟨0, .base .nil, rfl, by omega, ⟨hL0, hu0, by simp⟩, fun l hl => by simp at hl; rw [hl]; simp⟩
 have hn90 : (n : Int) ≤ 90 := by omega
 have S1 := S.alloc (.cells #[.int .i64 0, .slice none 0 0] 85)
 have A1 : RAt w0 (w.alloc (.cells #[.int .i64 0, .slice none 0 0] 85)) gp cp M K L0 (.slice (some ⟨w.heap.size, 0, none⟩) 1 1) [[]] [] := ⟨[], [.slice none 0 0], [(w.heap.size, .cells #[.int .i64 0, .slice none 0 0] 85)], .cons (R := []) (.inl ⟨rfl, rfl, rfl, rfl⟩) .nil, rfl, .inr ⟨_, 1, _, rfl, rfl, Nat.le_refl _, by decide, rfl, rfl, rfl⟩, S1⟩
 obtain ⟨iS, hi, hz0, hz1, hz2⟩ := info_parts infoOpen; clear S S1 hres hv hok hn hL0 hu0 hQ1 hF; go_enter Tryz.func11, Tryz.ntmps11
 go_upto_region 2 with (fail)
 generalize w.heap.size = bS at *; generalize World.alloc _ _ = w1 at *; go_wp2_with fail
 go_loopw [9, 10] (fun sv iv wr => ∃ (i : Nat) (L : List C) (ls : List (List O)) (bg : List Int), i ≤ n ∧ iv = .int .i64 i ∧ Hid (runO (lookL Q) 0 (toks.take i) (L0, [[]], []) = .inl (L, ls, bg)) ∧ Hid (RunB L0.length i (L, ls, bg)) ∧ (∃ X, L = hQ Q ++ X) ∧ RAt w0 wr gp cp M K L sv ls bg) (fun _ iv _ => n - (intOf iv).toNat)
 case atStart => exact ⟨0, L0, [[]], [], Nat.zero_le _, rfl, hid' rfl, HB0, hLX, A1⟩
 case round =>
 obtain ⟨i, L, ls, bg, hin, rfl, HRUN, HRB, hX, A2⟩ := hrel; clear A1 HB0 hLX
 by_cases hlt : i < n
 · have dl : (i : Int) < n := by omega
   have di : (0 : Int) ≤ i := by omega
   have vi := IntWalk.i64_in ((i : Int) + 1) (by omega); obtain ⟨⟨b, off, rfl, hbl, hcell⟩, hcap⟩ := HCAP.out i hlt
   have hcn : (n : Int) ≤ cap := by omega
   obtain ⟨t, ht⟩ : ∃ t, toks[i]? = some t := ⟨toks[i]'(by rw [HN.out]; exact hlt), List.getElem?_eq_getElem _⟩
   have HSN : Hid (runO (lookL Q) 0 (toks.take (i + 1)) (L0, [[]], []) = stepO (lookL Q) (i : Int) t (L, ls, bg)) := hid' (by
    have hti : toks.take (i + 1) = toks.take i ++ [t] := by
     obtain ⟨hlt', rfl⟩ := List.getElem?_eq_some_iff.1 ht; exact List.take_succ_eq_append_getElem hlt'
    rw [hti, runO_snoc _ _ _ _ _ _ HRUN.out, List.length_take, HN.out, show min i n = i by omega, Int.zero_add])
   have HRBS := hid' (fun s' (h : stepO (lookL Q) (i : Int) t (L, ls, bg) = .inl s') => run_step HF.out (by omega) HRB.out h); have HTC := hid' (fun W (X : Chg NoB w0 W) => (hcell i t ht).pure X); have HBL := hid' hbl; have hB := HOK.out t (List.mem_of_getElem? ht); have HM := hid' (fun w => rmayT_any t hB.1 w); obtain ⟨tk, tn, ts, tp⟩ := t; clear hcell ht hB hbl; have X2 := A2.chg; obtain ⟨c1, c2, c3, c4⟩ := HTC.out _ X2; have bl : b < wr.heap.size := Nat.lt_of_lt_of_le HBL.out X2.size; obtain ⟨j0, hj1, hj2, hj3, hj4, hj5⟩ := HRB.out; simp only at hj1 hj2 hj4 hj5; obtain ⟨l, lr, hls⟩ := hj1.top; have hll := hj5; have HLS := hid' (fun x hx => hj5 x hx); clear hj1 hj4 hj5 hll; subst hls; obtain ⟨gL, q, capL, curL, av, c0, rfl, hq1, hq2, hbgl, hbox, hc0, hc1, hlc, hARR, -, hPOP⟩ := A2.open
   have hlrn : lr.length ≤ 20 := by omega
   have qi : (q : Int) = lr.length + 1 := by omega
   have q9 : (q : Int) ≤ 21 := by omega
   have qc : (q : Int) ≤ capL := by omega
   have HPO := hid' hPOP; clear hPOP hARR hbox hc0 hc1 hlc; go_wp2_with fail
   refine (HM.out _).mono ?_; rintro r w2 ⟨rfl, X3⟩; have A3 := A2.pure X3; clear A2 X2 X3 c1 c2 c3 c4 bl HM
   cases hmv : mayT ⟨tk, tn, ts, tp⟩ with
   | false =>
    have hst : stepO (lookL Q) (i : Int) ⟨tk, tn, ts, tp⟩ (L, l :: lr, bg) = .inr (L, i, 1) := step_may hmv; have hfin := obj_err (HSN.out.trans hst); rw [HRES.out] at hfin; simp only [Prod.mk.injEq] at hfin; obtain ⟨rfl, rfl, rfl, rfl⟩ := hfin; have HA := hid' A3; clear A3 hst hmv; go_wp2_with fail
    refine bodyPost_ret (v := .tuple #[.slice none 0 0, .int .i64 i, .int .i64 1]) (by simp [results, Tryz.results11, go_sem]) rfl ?_; obtain ⟨RR, vs, RL, -, -, -, S⟩ := HA.out; exact ⟨_, [], rfl, .inl ⟨rfl, rfl, rfl, rfl⟩, S.keep ((List.sublist_append_right _ _).trans (List.sublist_append_right _ _))⟩
   | true =>
    have HMV := hid' hmv; have A4 := A3.alloc (Obj.cells #[.int .i64 0, .bool false, .int .i64 0, .int .i64 0, .int .i64 0, .string ⟨#[]⟩] 39)
    go_upto_region 9 with (fail)
    generalize hg : w2.heap.size = b11 at *; generalize hW : w2.alloc _ = w3 at *; clear hW hg A3 hmv; have X2 := A4.chg; obtain ⟨c1, c2, c3, c4⟩ := HTC.out _ X2; have bl : b < w3.heap.size := Nat.lt_of_lt_of_le HBL.out X2.size; clear X2
    by_cases k7 : tk = 7
    · subst k7
      by_cases h20 : bg.length = 20
      · have hst : stepO (lookL Q) (i : Int) ⟨7, tn, ts, tp⟩ (L, l :: lr, bg) = .inr (L, i, 5) := step_full HMV.out h20; have hfin := obj_err (HSN.out.trans hst); rw [HRES.out] at hfin; simp only [Prod.mk.injEq] at hfin; obtain ⟨rfl, rfl, rfl, rfl⟩ := hfin; have HA := hid' A4
        have dq : (20 : Int) < q := by omega
        clear A4 hst; go_wp2_with fail
        refine bodyPost_ret (v := .tuple #[.slice none 0 0, .int .i64 i, .int .i64 5]) (by simp [results, Tryz.results11, go_sem]) rfl ?_; obtain ⟨RR, vs, RL, -, -, -, S⟩ := HA.out; exact ⟨_, [], rfl, .inl ⟨rfl, rfl, rfl, rfl⟩, S.keep (((List.sublist_cons_self _ _).trans (List.sublist_append_right _ _)).trans (List.sublist_append_right _ _))⟩
      · have hst : stepO (lookL Q) (i : Int) ⟨7, tn, ts, tp⟩ (L, l :: lr, bg) = .inl (L, [] :: l :: lr, (i : Int) :: bg) := step_open HMV.out h20
        have dq : ¬ (20 : Int) < q := by omega
        obtain ⟨RL, Y, vs, RR, -, hRL, A5, hback⟩ := A4.more; have HBK := hid' hback; have HST := hid' hst; have HS := hid' A5.chg.size; clear hst hback A4
        go_wp2_with (at_builtin; refine wpList_append_own_at _ rfl (.tmp 49) (.tmp 52) 86 rfl w0.heap.size 85 iS (.agg #[.int .i64 0, .slice none 0 0]) 2 32 underOpens hi hz0 hz1 hz2 rfl (by decide) (.slice (some ⟨gL, 0, none⟩) q capL) (l :: lr).length (opV (bg ++ [0]) vs) rfl (Ats.ownsG (A5.pure ((Chg.refl NoB w3).alloc _)) hRL) _ 1 1 [.int .i64 i, .slice none 0 0] rfl rfl (newsB_all (T := 85) (fz := (0, 0)) (blk_new w3 _)) (by intro u hu; simp only [List.mem_cons, List.not_mem_nil, or_false] at hu; rcases hu with rfl | rfl <;> rfl) ?_ ?_ ?_ ?_; (unfold maxLen; simp only [List.length_cons]; omega); (simp only [List.length_cons]; omega); (simp; have := HS.out; omega); intro v9 w9 hown9 hgr9 _ hob9; have HG := hid' (Ats.grownG (A5.pure ((Chg.refl NoB w3).alloc _)) hRL hown9 hgr9 hob9 (by decide)); clear hown9 hgr9 hob9)
        obtain ⟨R', hR', A6⟩ := HG.out; have A7 := HBK.out _ R' _ i hR' A6; clear HG A5 A6 hR' HS HBK hRL; go_roundw
        case rel => exact ⟨i + 1, L, [] :: l :: lr, (i : Int) :: bg, by omega, by go_num, hid' (HSN.out.trans HST.out), HRBS.out _ HST.out, hX, A7.keep (List.sublist_cons_self _ _)⟩
        case measure => simp [intOf]; omega
    by_cases k8 : tk = 8
    · subst k8
      cases bg with
      | nil =>
       have hst : stepO (lookL Q) (i : Int) ⟨8, tn, ts, tp⟩ (L, l :: lr, []) = .inr (L, i, 3) := step_bare HMV.out; have hfin := obj_err (HSN.out.trans hst); rw [HRES.out] at hfin; simp only [Prod.mk.injEq] at hfin; obtain ⟨rfl, rfl, rfl, rfl⟩ := hfin; have HA := hid' A4
       have dq : (q : Int) = 1 := by simp only [List.length_nil] at hbgl; omega
       clear A4 hst; go_wp2_with fail
       refine bodyPost_ret (v := .tuple #[.slice none 0 0, .int .i64 i, .int .i64 3]) (by simp [results, Tryz.results11, go_sem]) rfl ?_; obtain ⟨RR, vs, RL, -, -, -, S⟩ := HA.out; exact ⟨_, [], rfl, .inl ⟨rfl, rfl, rfl, rfl⟩, S.keep (((List.sublist_cons_self _ _).trans (List.sublist_append_right _ _)).trans (List.sublist_append_right _ _))⟩
      | cons b0 bg =>
       have dq : ¬ (q : Int) = 1 := by simp only [List.length_cons] at hbgl; omega
       obtain ⟨l2, lr2, rfl⟩ : ∃ l2 lr2, lr = l2 :: lr2 := by
        cases lr with
        | nil => simp at hbgl
        | cons a b => exact ⟨_, _, rfl⟩
       obtain ⟨L1, o, e1, harr⟩ : ∃ L1 o e1, arr19 L l = (L1, o, e1) := ⟨_, _, _, rfl⟩
       have hab := arr19_arrB L l; rw [harr] at hab; simp only at hab; obtain ⟨gL', q', capL', curL, av, c0, hv', hq', -, -, hbox, hc0, hc1, hlc, hARR, hEND, hPOP⟩ := A4.open; simp only [Value.slice.injEq, Option.some.injEq, Addr.mk.injEq, and_true] at hv'; obtain ⟨rfl, rfl, rfl⟩ := hv'
       have hlr2 : lr2.length ≤ 1000 := by simp only [List.length_cons] at hlrn; omega
       have HC := hid' (hARR L1 o e1 harr); obtain ⟨ok, ox, on, op, ol, oS⟩ := o; have Rg := cells_of hbox; have yg := blk_lt hbox
       obtain ⟨n1, hn1⟩ : ∃ n1, (l2 :: lr2).length = n1 := ⟨_, rfl⟩
       rw [hn1] at hc0 hc1 hq' qi hq1 hlrn
       have q1 : (q : Int) - 1 = n1 := by omega
       have vq := IntWalk.i64_in (n1 : Int) (by omega)
       have n0 : (0 : Int) ≤ n1 := by omega
       have nq : (n1 : Int) < q := by omega
       have ncap : (n1 : Int) ≤ capL := by omega
       have HN1 := hid' hn1; have HLSB : Hid (l2.length ≤ 100000) := hid' (by have := HLS.out l2 (List.mem_cons_of_mem _ (List.mem_cons_self ..)); omega)
       have hlc' : (l.length : Int) ≤ c0 := by omega
       clear hARR hPOP hEND hbox hn1 harr A4 hq' hlc; go_wp2_with fail
       refine HC.out.mono ?_; rintro r w4 ⟨rfl, A5⟩; clear HC Rg yg hc0 hc1 c1 c2 c3 c4 bl
       (try clear Rx); (try clear yx); (try clear Zx)
       have Rx := cells_of (A5.box _ m0); have yx := blk_lt (A5.box _ m0); have Zx := free_of (A5.box _ m0)
       (try simp only at Rx yx Zx)
       have A6 := A5.putO ok ox on op ol oS
       go_upto_region 19 with (fail)
       generalize (((((w4.setCell _ _).setCell _ _).setCell _ _).setCell _ _).setCell _ _).setCell _ _ = w5 at *; clear A5 Rx yx Zx
       (try clear Rx); (try clear yx); (try clear Zx)
       have Rx := cells_of (A6.box _ m0); have yx := blk_lt (A6.box _ m0); have Zx := free_of (A6.box _ m0)
       (try simp only at Rx yx Zx)
       have A7 : RAt w0 (w5.setCell ⟨b11, 1, none⟩ (.bool true)) gp cp M ((b11, Obj.cells #[.int .i64 ok, .bool true, .int .i64 on, .int .i64 op, .int .i64 ol, .string oS] 39) :: K) L1 (.slice (some ⟨gL, 0, none⟩) q capL) (l :: l2 :: lr2) (b0 :: bg) := A6.put 1 (.bool true)
       go_upto_region 20 with (fail)
       generalize w5.setCell _ _ = w6 at *; clear A6 Rx yx Zx
       have A8 : RAt w0 w6 gp cp M ((b11, Obj.cells #[.int .i64 ok, .bool true, .int .i64 on, .int .i64 op, .int .i64 ol, .string oS] 39) :: K) L1 (.slice (some ⟨gL, 0, none⟩) n1 capL) (l2 :: lr2) bg := by
        obtain ⟨gL', q', capL', curL, av, c0, hv', -, -, -, -, -, -, -, -, -, hPOP⟩ := A7.open; simp only [Value.slice.injEq, Option.some.injEq, Addr.mk.injEq, and_true] at hv'; obtain ⟨rfl, rfl, rfl⟩ := hv'; have := hPOP l2 lr2 rfl b0 bg rfl; rw [HN1.out] at this; exact this
       clear A7
       by_cases he : e1 = 0
       · subst he; rw [if_pos rfl] at hab; have hst : stepO (lookL Q) (i : Int) ⟨8, tn, ts, tp⟩ (L, l :: l2 :: lr2, b0 :: bg) = .inl (L1, (l2 ++ [⟨ok, true, on, op, ol, oS⟩]) :: lr2, bg) := step_shut HMV.out hab
         have HX1 : Hid (∃ X, L1 = hQ Q ++ X) := hid' (by
          obtain ⟨X, rfl⟩ := hX; obtain ⟨j0, hj1, hj2, hj3, hj4, hj5⟩ := HRB.out
          rcases arrB_two _ l hj4.2.1 (by have := hj5 l (List.mem_cons_self ..); omega) (fun x hx => hj1.may hj4.1 l (List.mem_cons_self ..) x hx) with ⟨-, -, h⟩ | h
          · rw [h] at hab; simp only [Prod.mk.injEq] at hab; exact ⟨X ++ [rowC l], by rw [← hab.1, List.append_assoc]⟩
          · rw [h] at hab
            simp at hab)
         have HST := hid' hst; clear hst hab
         go_upto_region 23 with (fail)
         refine npr_any (rput22 _ (by kernel_rfl) A8 (by have := HLS.out; exact HLSB.out) (by omega) _ ?_); intro u82 u83 u84 u85 u86 u87 u88 u89 u90 u91 u92 u93 u94 u95 u96 u97 w9 A9; clear A8; go_wp2_with fail
         go_roundw
         case rel => exact ⟨i + 1, L1, _, bg, by omega, by go_num, hid' (HSN.out.trans HST.out), HRBS.out _ HST.out, HX1.out, A9.keep (List.sublist_cons_self _ _)⟩
         case measure => simp [intOf]; omega
       · have he' : (e1 != 0) = true := by simpa using he
         have hst : stepO (lookL Q) (i : Int) ⟨8, tn, ts, tp⟩ (L, l :: l2 :: lr2, b0 :: bg) = .inr (L1, i, e1) := step_shutE HMV.out hab he; have hfin := obj_err (HSN.out.trans hst); rw [HRES.out] at hfin; simp only [Prod.mk.injEq] at hfin; obtain ⟨rfl, rfl, rfl, rfl⟩ := hfin; have HA := hid' A8; clear A8 hst hab; go_wp2_with fail
         refine bodyPost_ret (v := .tuple #[.slice none 0 0, .int .i64 i, .int .i64 e]) (by simp [results, Tryz.results11, go_sem]) rfl ?_; obtain ⟨RR, vs, RL, -, -, -, S⟩ := HA.out; exact ⟨_, [], rfl, .inl ⟨rfl, rfl, rfl, rfl⟩, S.keep (((List.sublist_cons_self _ _).trans (List.sublist_append_right _ _)).trans (List.sublist_append_right _ _))⟩
    · obtain ⟨L1, o, e1, hlf⟩ : ∃ L1 o e1, leafB (lookL Q) L ⟨tk, tn, ts, tp⟩ = (L1, o, e1) := ⟨_, _, _, rfl⟩
      have HX1 : Hid (∃ X, L1 = hQ Q ++ X) := hid' (by
       obtain ⟨X, rfl⟩ := hX; obtain ⟨Z, rfl⟩ := leaf_base hlf
       exact ⟨X ++ Z, by rw [List.append_assoc]⟩)
      have HC : Hid (Calls Tryz.prog 46 #[ptr gp, ptr cp, Tok.val ⟨tk, tn, ts, tp⟩] w3 fun r w' => r = .returned (.tuple #[o.val, .int .i64 e1]) ∧ RAt w0 w' gp cp M ((b11, Obj.cells #[.int .i64 0, .bool false, .int .i64 0, .int .i64 0, .int .i64 0, .string ⟨#[]⟩] 39) :: K) L1 (.slice (some ⟨gL, 0, none⟩) q capL) (l :: lr) bg) := hid' (A4.ask (fun E S => by
       obtain ⟨X, rfl⟩ := hX
       exact (rplain22_any Q HQ1.out hQ2 X S ⟨tk, tn, ts, tp⟩ HMV.out k7 k8 hlf).mono fun r w' ⟨h1, _, h3⟩ => ⟨h1, h3⟩))
      obtain ⟨ok, ox, on, op, ol, oS⟩ := o; have HLSB : Hid (l.length ≤ 100000) := hid' (by have := HLS.out l (List.mem_cons_self ..); omega); clear A4; go_wp2_with fail
      refine HC.out.mono ?_; rintro r w4 ⟨rfl, A5⟩; clear HC c1 c2 c3 c4 bl
      (try clear Rx); (try clear yx); (try clear Zx)
      have Rx := cells_of (A5.box _ m0); have yx := blk_lt (A5.box _ m0); have Zx := free_of (A5.box _ m0)
      (try simp only at Rx yx Zx)
      have A6 := A5.putO ok ox on op ol oS
      go_upto_region 21 with (fail)
      generalize (((((w4.setCell _ _).setCell _ _).setCell _ _).setCell _ _).setCell _ _).setCell _ _ = w5 at *; clear A5 Rx yx Zx
      by_cases he : e1 = 0
      · subst he; have hst : stepO (lookL Q) (i : Int) ⟨tk, tn, ts, tp⟩ (L, l :: lr, bg) = .inl (L1, (l ++ [⟨ok, ox, on, op, ol, oS⟩]) :: lr, bg) := step_leaf HMV.out k7 k8 hlf; have HST := hid' hst; clear hst hlf
        go_upto_region 23 with (fail)
        refine npr_any (rput22 _ (by kernel_rfl) A6 (by have := HLS.out; exact HLSB.out) (by omega) _ ?_); intro u82 u83 u84 u85 u86 u87 u88 u89 u90 u91 u92 u93 u94 u95 u96 u97 w9 A9; clear A6; go_wp2_with fail
        go_roundw
        case rel => exact ⟨i + 1, L1, _, bg, by omega, by go_num, hid' (HSN.out.trans HST.out), HRBS.out _ HST.out, HX1.out, A9.keep (List.sublist_cons_self _ _)⟩
        case measure => simp [intOf]; omega
      · have he' : (e1 != 0) = true := by simpa using he
        have hst : stepO (lookL Q) (i : Int) ⟨tk, tn, ts, tp⟩ (L, l :: lr, bg) = .inr (L1, i, e1) := step_leafE HMV.out k7 k8 hlf he; have hfin := obj_err (HSN.out.trans hst); rw [HRES.out] at hfin; simp only [Prod.mk.injEq] at hfin; obtain ⟨rfl, rfl, rfl, rfl⟩ := hfin; have HA := hid' A6; clear A6 hst hlf; go_wp2_with fail
        refine bodyPost_ret (v := .tuple #[.slice none 0 0, .int .i64 i, .int .i64 e]) (by simp [results, Tryz.results11, go_sem]) rfl ?_; obtain ⟨RR, vs, RL, -, -, -, S⟩ := HA.out; exact ⟨_, [], rfl, .inl ⟨rfl, rfl, rfl, rfl⟩, S.keep (((List.sublist_cons_self _ _).trans (List.sublist_append_right _ _)).trans (List.sublist_append_right _ _))⟩
 · obtain rfl : i = n := by omega
   have hrun := HRUN.out; rw [List.take_of_length_le (by rw [HN.out]; exact Nat.le_refl _)] at hrun
   obtain ⟨l, lr, rfl⟩ : ∃ l lr, ls = l :: lr := by
    obtain ⟨j0, hj1, -⟩ := HRB.out; exact hj1.top
   obtain ⟨gL, q, capL, curL, av, c0, rfl, hq1, hq2, hbgl, hbox, hc0, hc1, hlc, -, hEND, -⟩ := A2.open
   have hlrn : lr.length ≤ 20 := by
    obtain ⟨j0, hj1, hj2, hj3, -⟩ := HRB.out; simp only at hj2; omega
   have Rg := cells_of hbox; have yg := blk_lt hbox; have HE := hid' hEND; have HRN := hid' hrun; clear hEND hbox hlt hrun
   have qc : (q : Int) ≤ capL := by omega
   cases bg with
   | nil =>
    have hob : objsB (lookL Q) L0 toks = (L, l, 0, 0) := by unfold objsB; simp only [HRN.out]; rfl
    rw [HRES.out] at hob; simp only [Prod.mk.injEq] at hob; obtain ⟨rfl, rfl, rfl, rfl⟩ := hob; obtain rfl : lr = [] := List.eq_nil_of_length_eq_zero (by simpa using hbgl.symm); simp only [List.length_nil, Nat.zero_add, Nat.zero_mul] at hq1 hc0 hc1; subst hq1; clear A2; go_wp2_with fail
    refine bodyPost_ret (v := .tuple #[.slice av os.length c0, .int .i64 0, .int .i64 0]) (by simp [results, Tryz.results11, go_sem]) rfl ?_; obtain ⟨R, hR, S⟩ := HE.out (by first | rfl | trivial); exact ⟨_, R, rfl, hR, S⟩
   | cons b0 bg =>
    have hob : objsB (lookL Q) L0 toks = (L, [], b0, 4) := by unfold objsB; simp only [HRN.out]
    rw [HRES.out] at hob; simp only [Prod.mk.injEq] at hob; obtain ⟨rfl, rfl, rfl, rfl⟩ := hob; simp only [List.length_cons] at hbgl; simp only [List.cons_append, List.headD_cons] at hc0
    obtain ⟨n1, hn1⟩ : ∃ n1, lr.length = n1 := ⟨_, rfl⟩
    rw [hn1] at hc0 hc1 hq1 hlrn hbgl
    have q1 : (q : Int) - 1 = n1 := by omega
    have vq := IntWalk.i64_in (n1 : Int) (by omega)
    have n0 : (0 : Int) ≤ n1 := by omega
    have nq : (n1 : Int) < q := by omega
    have dq : (1 : Int) < q := by omega
    have HA := hid' A2; clear A2 hn1
    go_upto_region 25 with (fail)
    go_quiet (fail)
    go_wp2_with fail
    refine bodyPost_ret (v := .tuple #[.slice none 0 0, .int .i64 at_, .int .i64 4]) (by simp [results, Tryz.results11, go_sem]) rfl ?_; obtain ⟨RR, vs, RL, -, -, -, S⟩ := HA.out; exact ⟨_, [], rfl, .inl ⟨rfl, rfl, rfl, rfl⟩, (S.keep ((List.sublist_append_right _ _).trans (List.sublist_append_right _ _))).pure ((Chg.refl NoB _).drewN _)⟩
end
set_option maxRecDepth 100000 in
set_option maxHeartbeats 8000000 in
theorem rprog_any (Q : List DQ) (hQ1 : OKQ Q) (hQ2 : 2 ≤ Q.length) (hF : GoodF (lookL Q)) (L0 : List C) (hLX : ∃ X, L0 = hQ Q ++ X) (S : RScp w0 w gp M K L0 cp (dsQ 2)) (hL0 : L0.length ≤ 2000) (hu0 : used L0 ≤ 40000) (ad : Option Addr) (cap n : Nat) (toks : List Tok) (hn : toks.length = n) (h90 : n ≤ 90) (hv : ToksAt w0 (.slice ad n cap) toks) (hok : ∀ t ∈ toks, TokB t)
 {L' : List C} {o : O} {at_ e : Int} (hres : progB (lookL Q) L0 toks = (L', o, at_, e)) :
 Calls Tryz.prog 15 #[ptr gp, ptr cp, .slice ad n cap] w fun r w' => r = .returned (.tuple #[o.val, .int .i64 at_, .int .i64 e]) ∧ RScp w0 w' gp M K L' cp (dsQ 2) := by
 obtain ⟨L1, os, a1, e1, ho⟩ : ∃ L1 os a1 e1, objsB (lookL Q) L0 toks = (L1, os, a1, e1) := ⟨_, _, _, _, rfl⟩
 have hres0 := hres; unfold progB at hres; rw [ho] at hres; simp only at hres; rw [hn] at hres; have S1 := S.alloc (Obj.cells #[.int .i64 0, .bool false, .int .i64 0, .int .i64 0, .int .i64 0, .string ⟨#[]⟩] 39); have HO := hid' (fun W (S : RScp w0 W gp M ((w.heap.size, Obj.cells #[.int .i64 0, .bool false, .int .i64 0, .int .i64 0, .int .i64 0, .string ⟨#[]⟩] 39) :: K) L0 cp (dsQ 2)) => robjs_any Q hQ1 hQ2 hF L0 hLX S hL0 hu0 ad cap n toks hn h90 hv hok ho); have HRES := hid' hres; clear S hQ1 hQ2 hF hLX hL0 hu0 hv hok hres hres0 hn; generalize hg : w.heap.size = b6 at *; go_enter Tryz.func15, Tryz.ntmps15
 go_upto_region 1 with (fail)
 generalize hW : w.alloc _ = w1 at *; clear hW hg; go_wp2_with fail
 refine (HO.out _ S1).mono ?_; rintro r w2 ⟨v, R, rfl, hR, S2⟩; clear S1 HO
 by_cases he : e1 = 0
 · subst he; have hres := HRES.out; rw [if_pos rfl] at hres
   obtain ⟨L2, oo, e2, ha⟩ : ∃ L2 oo e2, arr19 L1 os = (L2, oo, e2) := ⟨_, _, _, rfl⟩
   have hab := arr19_arrB L1 os; rw [ha] at hab; rw [hab] at hres; simp only at hres; obtain ⟨av, c, rfl, hc⟩ := rowG_slice hR
   have HAR := hid' (S2.ask (L' := L2) (fun a b T => rarr19_any T av os.length c os rfl hc (fun h0 => by
    obtain ⟨g, cap', cur, e1, e2, e3⟩ := hR.shape h0; simp only [Value.slice.injEq] at e1; refine ⟨g, cur, (0, 0), e1.1, by rw [e2]; simp, fun i x hx j hj => ?_⟩; have hi : i < os.length := (List.getElem?_eq_some_iff.1 hx).1; rw [e3 _ (by omega)]
    exact flatB_at os i j x hx hj) ha))
   have HR := hid' hres; clear hR S2 ha hres hab HRES; obtain ⟨ok, ox, on, op, ol, oS⟩ := oo; go_wp2_with fail
   refine HAR.out.mono ?_; rintro r w3 ⟨rfl, S3⟩; clear HAR; have S4 := (S3.keep (List.sublist_append_right R _)).alloc (Obj.cells #[.int .i64 ok, .bool ox, .int .i64 on, .int .i64 op, .int .i64 ol, .string oS] 39); generalize hg : w3.heap.size = b12 at *
   go_upto_region 5 with (fail)
   generalize hW : w3.alloc _ = w4 at *; clear hW hg S3; have hres := HR.out
   by_cases h2 : e2 = 0
   · subst h2; rw [if_pos rfl] at hres; simp only [if_true, Prod.mk.injEq] at hres; obtain ⟨rfl, rfl, rfl, rfl⟩ := hres
     (try clear Ro); (try clear yo); (try clear Zo)
     have Ro := cells_of (S4.box _ m0); have yo := blk_lt (S4.box _ m0); have Zo := free_of (S4.box _ m0)
     (try simp only at Ro yo Zo)
     go_upto_region 7 with (fail)
     have S5 : RScp w0 (w4.setCell ⟨b12, 1, none⟩ (.bool true)) gp M ((b12, Obj.cells #[.int .i64 ok, .bool true, .int .i64 on, .int .i64 op, .int .i64 ol, .string oS] 39) :: (b6, Obj.cells #[.int .i64 0, .bool false, .int .i64 0, .int .i64 0, .int .i64 0, .string ⟨#[]⟩] 39) :: K) L2 cp (dsQ 2) := S4.put 1 (.bool true)
     go_upto_region 8 with (fail)
     generalize w4.setCell _ _ = w5 at *; clear S4 Ro yo Zo; have S6 := S5.perm (List.Perm.swap _ _ _); clear S5
     (try clear Rb); (try clear yb); (try clear Zb)
     have Rb := cells_of (S6.box _ m0); have yb := blk_lt (S6.box _ m0); have Zb := free_of (S6.box _ m0)
     (try clear Ro); (try clear yo); (try clear Zo)
     have Ro := cells_of (S6.box _ m1); have yo := blk_lt (S6.box _ m1)
     (try simp only at Rb yb Zb Ro yo)
     have S7 := S6.putO ok true on op ol oS; go_wp2_with fail
     have R7 := cells_of (S7.box _ m0); refine bodyPost_ret (v := .tuple #[O.val ⟨ok, true, on, op, ol, oS⟩, .int .i64 0, .int .i64 0]) ?_ rfl ⟨rfl, S7.keep ((List.sublist_cons_self _ _).trans (List.sublist_cons_self _ _))⟩; simp [results, Tryz.results15, go_sem, R7]
   · rw [if_neg h2] at hres; simp only [Prod.mk.injEq] at hres; obtain ⟨rfl, rfl, rfl, rfl⟩ := hres
     have h2' : (e2 != 0) = true := by simpa using h2
     have S6 := S4.perm (List.Perm.swap _ _ _); clear S4
     (try clear Rb); (try clear yb); (try clear Zb)
     have Rb := cells_of (S6.box _ m0); have yb := blk_lt (S6.box _ m0); have Zb := free_of (S6.box _ m0)
     (try simp only at Rb yb Zb)
     have S7 := S6.putO 0 false 0 0 0 ⟨#[]⟩; go_wp2_with fail
     have R7 := cells_of (S7.box _ m0); refine bodyPost_ret (v := .tuple #[O.nil.val, .int .i64 n, .int .i64 e2]) ?_ rfl ⟨rfl, S7.keep ((List.sublist_cons_self _ _).trans (List.sublist_cons_self _ _))⟩; simp [results, Tryz.results15, go_sem, R7, O.nil]
 · have hres := HRES.out; rw [if_neg he] at hres; simp only [Prod.mk.injEq] at hres; obtain ⟨rfl, rfl, rfl, rfl⟩ := hres
   have he' : (e1 != 0) = true := by simpa using he
   have S6 := S2.keep (List.sublist_append_right R _); clear S2 hR
   (try clear Rb); (try clear yb); (try clear Zb)
   have Rb := cells_of (S6.box _ m0); have yb := blk_lt (S6.box _ m0); have Zb := free_of (S6.box _ m0)
   (try simp only at Rb yb Zb)
   have S7 := S6.putO 0 false 0 0 0 ⟨#[]⟩; go_wp2_with fail
   have R7 := cells_of (S7.box _ m0); refine bodyPost_ret (v := .tuple #[O.nil.val, .int .i64 a1, .int .i64 e1]) ?_ rfl ⟨rfl, S7.keep (List.sublist_cons_self _ _)⟩; simp [results, Tryz.results15, go_sem, R7, O.nil]
end Go.Proofs.YtoogmimbmgdflaaGreat
