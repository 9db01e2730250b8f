/- Parts of the proof: Vme, Vmf, Vmg. -/
import Derived.Test.YtpiomapnmempoaaGreatY15
namespace Go.Proofs.YtpiomapnmempoaaGreat
open Go.RowKit
variable {r : Value} {nm : ByteArray} {e : Int}
section
section
variable {p : MP} {x y : MX} {F G : List Fr}
set_option maxRecDepth 100000 in
theorem mrun_plain (o : O) {r : Value} (hk : o.exec = false ∨ o.kind ≠ 5) {nm : ByteArray} {e : Int} (hr : r = .tuple #[.string nm, .int .i64 e])
 (H : Mc p 101 #[ptr p.mp, o.val, .string ⟨#[45]⟩] r x F y G) :
 Mc p 73 #[ptr p.mp, o.val] r x F y G := by
 subst hr; intro w0 K w S; have HP := hid' (fun W K' (S' : MS w0 p K' x F W) => H w0 K' W S'); have S1 := S.alloc (obox o); have lw := blk_lt (S1.box _ (List.mem_cons_self ..))
 have hd : (!o.exec || !decide (o.kind = 5)) = true := by
  rcases hk with h | h <;> simp [h]
 obtain ⟨kk, kx, kn, kp, kl, ks⟩ := o; simp only at hd hk; have R0 := cells_of (S1.box (w.heap.size, obox ⟨kk, kx, kn, kp, kl, ks⟩) (List.mem_cons_self ..)); clear S H; generalize hg : w.heap.size = b at *; simp only at lw
 have hkk : kx = false ∨ (kx = true ∧ (kk == 5) = false) := by
  cases kx with
  | false => exact .inl rfl
  | true => exact .inr ⟨rfl, by simpa using hd⟩
 clear hd hk
 rcases hkk with rfl | ⟨rfl, hk⟩
 all_goals
  go_enter Tryz.func73, Tryz.ntmps73
  go_wp2_with fail
  refine (HP.out _ _ S1).mono ?_; rintro r w4 ⟨rfl, S4⟩; go_wp2_with fail
  refine bodyPost_ret (v := .tuple #[.string nm, .int .i64 e]) ?_ rfl ⟨rfl, ?_⟩
  · simp [results, Tryz.results73, go_sem]
  · exact S4.keep (List.sublist_cons_self _ _)
def LM (w0 : World) (p : MP) (KB : List (Nat × Obj)) (x : MX) (F : List Fr) (v d : O) (e : Int) (s6 s7 s5 : Value) (wx : World) : Prop :=
 s5 = .int .i64 e ∧ ∃ q a, s6 = ptr q ∧ s7 = ptr a ∧ MS w0 p ((q, .cells v.cells.toArray 49) :: (a, .cells d.cells.toArray 49) :: KB) x F wx
set_option maxRecDepth 100000 in
set_option maxHeartbeats 4000000 in
theorem run_name (s : ByteArray) (v d : O) {r : Value} {nm : ByteArray} {e : Int} (hr : r = .tuple #[.string nm, .int .i64 e]) (hv : v.exec = false ∨ v.kind ≠ 5)
 (H : ∀ w0 K w, MS w0 p K x F w → Calls Tryz.prog 69 #[ptr p.cp, (⟨5, true, 0, 0, 0, s⟩ : O).val] w fun r w2 => r = .returned (.tuple #[v.val, d.val, .int .i64 0]) ∧ MS w0 p K x F w2)
 (HD : Mc p 101 #[ptr p.mp, v.val, .string s] r x F y G) :
 Mc p 73 #[ptr p.mp, (⟨5, true, 0, 0, 0, s⟩ : O).val] r x F y G := by
 subst hr; intro w0 K0 w00 S; have S0 := S.alloc (obox ⟨5, true, 0, 0, 0, s⟩); have lw := blk_lt (S0.box _ (List.mem_cons_self ..)); have RG := AnyM.cells (w0 := w0) (p := p) (K := (w00.heap.size, obox ⟨5, true, 0, 0, 0, s⟩) :: K0) (List.mem_cons_self ..); have M1 := AnyM.c1 (w0 := w0) (p := p) (K := (w00.heap.size, obox ⟨5, true, 0, 0, 0, s⟩) :: K0); have lt := AnyM.mlt _ S0.any
 have hvv : v.exec = false ∨ (v.exec = true ∧ (v.kind == 5) = false) := by
  cases h : v.exec with
  | false => exact .inl rfl
  | true => rw [h] at hv; simp at hv; exact .inr ⟨rfl, by simpa using hv⟩
 obtain ⟨vk, vx, vn, vp, vl, vs⟩ := v; obtain ⟨uk, ux, un, up, ul, us⟩ := d; simp only at hvv; generalize hg : w00.heap.size = b at *
 obtain ⟨KB, hKB⟩ : ∃ KB, KB = (b, obox ⟨5, true, 0, 0, 0, s⟩) :: K0 := ⟨_, rfl⟩
 rw [← hKB] at RG M1 S0; have HKB := hid' hKB; have HH := hid' H; have HP := hid' (fun W K' (S' : MS w0 p K' x F W) => HD w0 K' W S'); have R0 := RG _ S0.any; simp only at lw; clear H hKB HD S hv; go_enter Tryz.func73, Tryz.ntmps73
 go_upto_region 3 with (fail)
 clear hg R0; generalize w00.alloc _ = w at *; have HS := hid' S0; have HA1 : Hid (∀ o, MS w0 p ((w.heap.size, o) :: KB) x F (w.alloc o).drew) := hid' (fun o => (S0.alloc o).drew)
 have HA2 : Hid (∀ o o', MS w0 p ((w.heap.size + 1, o') :: (w.heap.size, o) :: KB) x F ((w.alloc o).alloc o').drew) := hid' (fun o o' => by
  have h := ((S0.alloc o).alloc o').drew
  rwa [World.size_alloc] at h)
 have hS1 := S0.any; clear S0
 go_cut [6, 7, 5] (fun s6 s7 s5 wx => LM w0 p KB x F ⟨vk, vx, vn, vp, vl, vs⟩ ⟨uk, ux, un, up, ul, us⟩ 0 s6 s7 s5 wx)
 case first =>
  go_region_held3 (fun W' => AnyM w0 p KB W') (repeat' (first | (with_reducible assumption) | (with_reducible refine AnyM.drew ?_) | (with_reducible refine AnyM.alloc ?_ _)))
   ((go_at_call 69; refine (HH.out _ _ _ (by first | (with_reducible exact HS.out.drew) | (with_reducible exact HA1.out _) | (with_reducible exact HA2.out _ _) | (with_reducible exact HS.out))).mono ?_; rintro r w4 ⟨rfl, S4⟩; (try (with_reducible have k4 : AnyM w0 p KB w4 := MS.any S4)); (try (with_reducible have k4 : AnyM w0 p KB w4 := MS.more S4)); (try (with_reducible have k4 : AnyM w0 p KB w4 := MS.more2 S4)); (try (with_reducible have yz : w.heap.size < w4.heap.size := blk_lt (S4.box _ m0))); (try (with_reducible have Rz : ∀ i, w4.cell? ⟨w.heap.size, i, none⟩ = #[Value.int .i64 0, .bool false, .int .i64 0, .int .i64 0, .int .i64 0, .string ⟨#[]⟩][i]? := cells_of (S4.box _ m0))); (try (with_reducible have Zz : ∀ i, w4.frozen? ⟨w.heap.size, i, none⟩ = false := free_of (S4.box _ m0))); (try (with_reducible have yz : w.heap.size < w4.heap.size := blk_lt (S4.box _ m1))); (try (with_reducible have Rz : ∀ i, w4.cell? ⟨w.heap.size, i, none⟩ = #[Value.int .i64 0, .bool false, .int .i64 0, .int .i64 0, .int .i64 0, .string ⟨#[]⟩][i]? := cells_of (S4.box _ m1))); (try (with_reducible have Zz : ∀ i, w4.frozen? ⟨w.heap.size, i, none⟩ = false := free_of (S4.box _ m1))); (try (with_reducible have yx : w.heap.size + 1 < w4.heap.size := blk_lt (S4.box _ m0))); (try (with_reducible have Rx : ∀ i, w4.cell? ⟨w.heap.size + 1, i, none⟩ = #[Value.int .i64 0, .bool false, .int .i64 0, .int .i64 0, .int .i64 0, .string ⟨#[]⟩][i]? := cells_of (S4.box _ m0))); (try (with_reducible have Zx : ∀ i, w4.frozen? ⟨w.heap.size + 1, i, none⟩ = false := free_of (S4.box _ m0))); (try (with_reducible have t1 := MS.more (S4.putO vk vx vn vp vl vs))); (try (with_reducible have t2 := MS.more (S4.putO uk ux un up ul us))); (try (with_reducible have t3 := MS.more2 ((S4.perm (List.Perm.swap _ _ _)).putO vk vx vn vp vl vs))); (try (with_reducible have t4 := MS.more2 (S4.two_old vk vx vn vp vl vs uk ux un up ul us))); (try (with_reducible have t5 := MS.more2 (S4.putO vk vx vn vp vl vs))); (try (with_reducible have t6 := MS.more2 (S4.two_new vk vx vn vp vl vs uk ux un up ul us)))))
  all_goals
   go_wp2_with fail
   go_meet
  · have S5 := (S4.alloc (Obj.cells #[.int .i64 vk, .bool vx, .int .i64 vn, .int .i64 vp, .int .i64 vl, .string vs] 49)).alloc (Obj.cells #[.int .i64 uk, .bool ux, .int .i64 un, .int .i64 up, .int .i64 ul, .string us] 49); simp only [World.size_alloc] at S5; exact ⟨rfl, _, _, rfl, rfl, S5.perm (List.Perm.swap _ _ _)⟩
  · have S5 := (S4.alloc (Obj.cells #[.int .i64 uk, .bool ux, .int .i64 un, .int .i64 up, .int .i64 ul, .string us] 49)).alloc (Obj.cells #[.int .i64 vk, .bool vx, .int .i64 vn, .int .i64 vp, .int .i64 vl, .string vs] 49); simp only [World.size_alloc] at S5; exact ⟨rfl, _, _, rfl, rfl, S5⟩
  · have S5 := (S4.putO vk vx vn vp vl vs).alloc (Obj.cells #[.int .i64 uk, .bool ux, .int .i64 un, .int .i64 up, .int .i64 ul, .string us] 49); simp only [World.size_setCell] at S5; exact ⟨rfl, _, _, rfl, rfl, S5.perm (List.Perm.swap _ _ _)⟩
  · exact ⟨rfl, _, _, rfl, rfl, S4.two_old vk vx vn vp vl vs uk ux un up ul us⟩
  · have S5 := (S4.putO uk ux un up ul us).alloc (Obj.cells #[.int .i64 vk, .bool vx, .int .i64 vn, .int .i64 vp, .int .i64 vl, .string vs] 49); simp only [World.size_setCell] at S5; exact ⟨rfl, _, _, rfl, rfl, S5⟩
  · exact ⟨rfl, _, _, rfl, rfl, S4.two_new vk vx vn vp vl vs uk ux un up ul us⟩
 case rest =>
  obtain ⟨rfl, q, a, rfl, rfl, S4⟩ := hcut; have S4 : MS w0 p ((q, Obj.cells #[.int .i64 vk, .bool vx, .int .i64 vn, .int .i64 vp, .int .i64 vl, .string vs] 49) :: (a, Obj.cells #[.int .i64 uk, .bool ux, .int .i64 un, .int .i64 up, .int .i64 ul, .string us] 49) :: KB) x F _ := S4; rw [HKB.out] at S4
  rcases hvv with rfl | ⟨rfl, hk⟩
  all_goals
   (try clear Rz); (try clear yz); (try clear Zz)
   have Rz := cells_of (S4.box _ m0); have yz := blk_lt (S4.box _ m0)
   (try clear Rk); (try clear yk); (try clear Zk)
   have Rk := cells_of (S4.box _ m2); have yk := blk_lt (S4.box _ m2); have Zk := free_of (S4.box _ m2)
   (try simp only at Rz yz Rk yk Zk)
   clear HH HS HA1 HA2 RG M1 lw hS1; go_wp2_with fail
   refine (HP.out _ _ S4).mono ?_; rintro r w5 ⟨rfl, S5⟩; go_wp2_with fail
   refine bodyPost_ret (v := .tuple #[.string nm, .int .i64 e]) ?_ rfl ⟨rfl, ?_⟩
   · simp [results, Tryz.results73, go_sem]
   · exact S5.keep (((List.sublist_cons_self _ _).trans (List.sublist_cons_self _ _)).trans (List.sublist_cons_self _ _))
end
end
section
theorem as_body (v : Value) (W : World) : (Instr.typeAssert (.iface 68 v) 101 68 true).run Tryz.prog W = .ok (.tuple #[v, .bool true]) W := by kernel_rfl
section
variable {w0 w w' : World} {p : MP} {K K' KB : List (Nat × Obj)} {x y : MX} {F G : List Fr} {qs : List (Nat × Fr)} {b : Nat}
theorem MS.snoc {fr : Fr} (S : MS w0 p K x (F ++ [fr]) w) : ∃ qs b, qs.map Prod.snd = F ∧ MAt w0 p K x (qs ++ [(b, fr)]) w := by
 obtain ⟨qs, e, S⟩ := S
 obtain ⟨qs', q, rfl⟩ : ∃ qs' q, qs = qs' ++ [q] := ⟨qs.dropLast, qs.getLast (by intro h; rw [h] at e; simp at e), (List.dropLast_concat_getLast _).symm⟩
 rw [List.map_append] at e; obtain ⟨e1, e2⟩ := List.append_inj' e rfl; obtain ⟨b, f⟩ := q; simp only [List.map_cons, List.map_nil, List.cons.injEq, and_true] at e2; subst e2; exact ⟨qs', b, e1, S⟩
theorem MAt.grow (S : MAt w0 p K x qs w) (o : Obj) : MAt w0 p K x qs (w.alloc o) := S.pure ((Chg.refl NoB w).alloc o)
theorem MAt.putO {c0 c1 c2 c3 c4 c5 : Value} {T : TypeId} (S : MAt w0 p ((b, .cells #[c0, c1, c2, c3, c4, c5] T) :: K) x qs w) (kk : Int) (kx : Bool) (kn kp kl : Int) (ks : ByteArray) :
 MAt w0 p ((b, .cells #[.int .i64 kk, .bool kx, .int .i64 kn, .int .i64 kp, .int .i64 kl, .string ks] T) :: K) x qs ((((((w.setCell ⟨b, 0, none⟩ (.int .i64 kk)).setCell ⟨b, 1, none⟩ (.bool kx)).setCell ⟨b, 2, none⟩ (.int .i64 kn)).setCell ⟨b, 3, none⟩ (.int .i64 kp)).setCell ⟨b, 4, none⟩ (.int .i64 kl)).setCell ⟨b, 5, none⟩ (.string ks)) :=
 S.over fun _ _ A => ((A.perm List.perm_middle).putO kk kx kn kp kl ks).perm List.perm_middle.symm
theorem MAt.fcells {fr : Fr} (hm : (b, fr) ∈ qs) : ∀ W, MAt w0 p K x qs W → ∀ i, W.cell? ⟨b, i, none⟩ = fr.cells.toArray[i]? := fun _ S i => cells_of (S.frame hm) i
theorem MAt.c0 : ∀ W, MAt w0 p K x qs W → W.cell? ⟨p.mp, 0, none⟩ = some (ptr p.hp) := fun W S => AnyM.c0 W ⟨x, qs, S⟩
theorem MAt.keep1 {q : Nat × Obj} (S : MAt w0 p (q :: K) x qs w) : MAt w0 p K x qs w := S.keep (List.sublist_cons_self _ _)
theorem MAt.get (S : MAt w0 p K x qs w) (o v : O) (i : Int) (e : Int) (hr : getH x.L o i = (v, e)) :
 Calls Tryz.prog 72 #[ptr p.hp, o.val, .int .i64 i] w fun r w' => r = .returned (.tuple #[v.val, .int .i64 e]) ∧ MAt w0 p K x qs w' :=
 S.tab fun _ _ T => T.ask fun _ A => at_get A o i hr
theorem MAt.putF {fr fr' : Fr} (S : MAt w0 p K x (qs ++ [(b, fr)]) w) (i : Nat) (v : Value) (hs : fr'.st = fr.st) (hp : fr'.pt = fr.pt) (hc : fr'.cells.toArray = fr.cells.toArray.setIfInBounds i v) :
 MAt w0 p K x (qs ++ [(b, fr')]) (w.setCell ⟨b, i, none⟩ v) := by
 obtain ⟨hb, NM, sv, hkp, R, fv, R2, tv, h1, h2, S⟩ := S
 have e : ∀ f : Fr, (qs ++ [(b, f)]).map frV = qs.map frV ++ [.iface f.pt (ptr b)] := fun f => by simp
 refine ⟨by simpa using hb, NM, sv, hkp, R, fv, R2, tv, ?_, h2, ?_⟩
 · rw [e, hp, ← e]; simpa using h1
 · rw [boxes_snoc] at S ⊢
   have e2 : ∀ q : Nat × Obj, (R ++ (R2 ++ ((p.mp, mBox p.hp p.cp p.sp p.vp fv tv x) :: (p.vp, svBox sv x.sl) :: (qs.map frB ++ (q :: K))))).Perm (q :: (R ++ (R2 ++ ((p.mp, mBox p.hp p.cp p.sp p.vp fv tv x) :: (p.vp, svBox sv x.sl) :: (qs.map frB ++ K))))) := fun q => by
    have := (List.perm_middle (l₁ := R ++ (R2 ++ ((p.mp, mBox p.hp p.cp p.sp p.vp fv tv x) :: (p.vp, svBox sv x.sl) :: qs.map frB))) (l₂ := K) (a := q))
    simpa only [List.append_assoc, List.cons_append] using this
   have := ((S.perm (e2 _)).put i v).perm (e2 _).symm; rw [← hc, ← hs] at this; exact this
end
end
section
def LG (w0 : World) (p : MP) (K : List (Nat × Obj)) (x : MX) (qs : List (Nat × Fr)) (v : O) (s5 s6 : Value) (wx : World) : Prop :=
 s6 = .int .i64 0 ∧ ∃ q, s5 = ptr q ∧ MAt w0 p ((q, .cells v.cells.toArray 49) :: K) x qs wx
section
variable {p : MP} {x y : MX} {F G : List Fr}
set_option maxRecDepth 100000 in
set_option maxHeartbeats 4000000 in
theorem one_body (o v : O) (i : Nat) {r : Value} {nm : ByteArray} {e : Int} (hr : r = .tuple #[.string nm, .int .i64 e]) (hi : i ≤ 100000) (hg : getH x.L o i = (v, 0))
 (H : ((v.exec = false ∨ (v.exec = true ∧ v.kind = 9)) ∧ mayO v = true ∧ x.l.length < 200 ∧ nm = ⟨#[45]⟩ ∧ e = 0 ∧ y = { x with l := x.l ++ [v] } ∧ G = F ++ [.body o (i + 1)]) ∨
  (v.exec = true ∧ v.kind ≠ 9 ∧ Mc p 73 #[ptr p.mp, v.val] r x (F ++ [.body o (i + 1)]) y G)) :
 Mc p 45 #[ptr p.mp] r x (F ++ [.body o i]) y G := by
 subst hr; intro w0 K w S; obtain ⟨qs, b, hq, S⟩ := S.snoc; have HT := hid' (m_top S); have HF : Hid (∀ w', Chg NoB w w' → MAt w0 p K x (qs ++ [(b, .body o i)]) w') := hid' fun w' X => S.pure X; have HQ := hid' hq; have HH := hid' H; have HGE := hid' (fun W K' qs' (S' : MAt w0 p K' x qs' W) => S'.get o v i 0 hg); have as1 := as_body
 have hi2 : (i : Int) ≤ 100000 := by omega
 simp only [frV, Fr.pt] at HT; clear S hq H hg hi; go_enter Tryz.func45, Tryz.ntmps45
 go_wp2_with fail
 refine HT.out.mono ?_; rintro r w1 ⟨rfl, X1⟩; have S1 := HF.out _ X1; clear HT HF X1; obtain ⟨ok, ox, on, op, ol, os⟩ := o; obtain ⟨vk, vx, vn, vp, vl, vs⟩ := v
 go_upto_region 4 with (fail)
 obtain ⟨QS, hQS⟩ : ∃ QS, QS = qs ++ [(b, Fr.body ⟨ok, ox, on, op, ol, os⟩ i)] := ⟨_, rfl⟩
 have hmem : (b, Fr.body ⟨ok, ox, on, op, ol, os⟩ i) ∈ QS := by rw [hQS]; simp
 rw [← hQS] at S1; have HQS := hid' hQS; have RB := MAt.fcells (w0 := w0) (p := p) (K := K) (x := x) hmem; have M0 := MAt.c0 (w0 := w0) (p := p) (K := K) (x := x) (qs := QS); simp only [Fr.cells, O.cells, List.cons_append, List.nil_append] at RB; have lb := blk_lt (S1.frame hmem); have lt := AnyM.mlt _ ⟨x, QS, S1⟩; simp only at lb; have HS := hid' S1; have HA : Hid (∀ o, MAt w0 p ((w1.heap.size, o) :: K) x QS (w1.alloc o).drew) := hid' fun o => (S1.alloc o).drew; clear hmem hQS
 go_cut [5, 6] (fun s5 s6 wx => LG w0 p K x QS ⟨vk, vx, vn, vp, vl, vs⟩ s5 s6 wx)
 case first =>
  go_region_held3 (fun W' => MAt w0 p K x QS W') (repeat' (first | (with_reducible assumption) | (with_reducible refine MAt.drew ?_) | (with_reducible refine MAt.grow ?_ _)))
   ((go_at_call 72; refine (HGE.out _ _ _ (by first | (with_reducible exact HS.out.drew) | (with_reducible exact HA.out _) | (with_reducible exact HS.out))).mono ?_; rintro r w4 ⟨rfl, S4⟩; (try (with_reducible have k4 : MAt w0 p K x QS w4 := S4)); (try (with_reducible have k4 : MAt w0 p K x QS w4 := S4.keep1)); (try (with_reducible have yz : w1.heap.size < w4.heap.size := blk_lt (S4.box _ m0))); (try (with_reducible have Rz : ∀ i, w4.cell? ⟨w1.heap.size, i, none⟩ = #[Value.int .i64 0, .bool false, .int .i64 0, .int .i64 0, .int .i64 0, .string ⟨#[]⟩][i]? := cells_of (S4.box _ m0))); (try (with_reducible have Zz : ∀ i, w4.frozen? ⟨w1.heap.size, i, none⟩ = false := free_of (S4.box _ m0))); (try (with_reducible have t1 := (S4.putO vk vx vn vp vl vs).keep1))))
  all_goals
   go_wp2_with fail
   go_meet
  · exact ⟨rfl, _, rfl, S4.alloc (Obj.cells #[.int .i64 vk, .bool vx, .int .i64 vn, .int .i64 vp, .int .i64 vl, .string vs] 49)⟩
  · exact ⟨rfl, _, rfl, S4.putO vk vx vn vp vl vs⟩
 case rest =>
  obtain ⟨rfl, q, rfl, S4⟩ := hcut; have S4 : MAt w0 p ((q, Obj.cells #[.int .i64 vk, .bool vx, .int .i64 vn, .int .i64 vp, .int .i64 vl, .string vs] 49) :: K) x QS _ := S4; rw [HQS.out] at S4; have R5 := cells_of (S4.frame (q := (b, Fr.body ⟨ok, ox, on, op, ol, os⟩ i)) (by simp)); have Z5 := free_of (S4.frame (q := (b, Fr.body ⟨ok, ox, on, op, ol, os⟩ i)) (by simp)); have y5 := blk_lt (S4.frame (q := (b, Fr.body ⟨ok, ox, on, op, ol, os⟩ i)) (by simp)); simp only [Fr.cells, O.cells, List.cons_append, List.nil_append] at R5 y5 Z5; have S5 := hid' (S4.putF (fr' := .body ⟨ok, ox, on, op, ol, os⟩ (i + 1)) 6 (.int .i64 ((i : Int) + 1)) rfl rfl (by simp [Fr.cells, O.cells]))
  (try clear Rz); (try clear yz); (try clear Zz)
  have Rz := cells_of (S4.box _ m0); have yz := blk_lt (S4.box _ m0)
  (try simp only at Rz yz)
  clear S4 HS HA RB lb
  go_upto_region 8 with (fail)
  generalize World.setCell _ _ _ = w5 at *
  have SM : MS w0 p ((q, Obj.cells #[.int .i64 vk, .bool vx, .int .i64 vn, .int .i64 vp, .int .i64 vl, .string vs] 49) :: K) x (F ++ [.body ⟨ok, ox, on, op, ol, os⟩ (i + 1)]) w5 := ⟨_, by simp [HQ.out], S5.out⟩
  clear S5 R5 Z5 y5 Rz yz
  (try clear Rz); (try clear yz); (try clear Zz)
  have Rz := cells_of (SM.box _ m0); have yz := blk_lt (SM.box _ m0)
  (try simp only at Rz yz)
  obtain ⟨K8, hK8⟩ : ∃ K8, K8 = (q, Obj.cells #[.int .i64 vk, .bool vx, .int .i64 vn, .int .i64 vp, .int .i64 vl, .string vs] 49) :: K := ⟨_, rfl⟩
  have RC := AnyM.cells (w0 := w0) (p := p) (K := K8) (by rw [hK8]; exact List.mem_cons_self ..); have M2 := AnyM.c2 (w0 := w0) (p := p) (K := K8); rw [← hK8] at SM; have HK8 := hid' hK8; clear hK8; have lt2 := AnyM.mlt _ SM.any
  rcases HH.out with ⟨hv, hm, hl, rfl, rfl, rfl, rfl⟩ | ⟨hx, hk, HM⟩
  · have HP := hid' (fun W K' (S' : MS w0 p K' x (F ++ [.body ⟨ok, ox, on, op, ol, os⟩ (i + 1)]) W) => S'.spush ⟨vk, vx, vn, vp, vl, vs⟩ hm hl); have HSM := hid' SM; have hS1 := SM.any; clear SM hm hl HH HGE; have hv : vx = false ∨ (vx = true ∧ vk = 9) := hv
    rcases hv with rfl | ⟨rfl, rfl⟩
    all_goals
     go_upto_region 9 with (fail)
     clear Rz yz
     go_region_held3 (fun W' => AnyM w0 p K8 W') (repeat' (first | (with_reducible assumption) | (with_reducible refine AnyM.drew ?_)))
      ((go_at_call 46; refine (HP.out _ _ (by first | (with_reducible exact HSM.out) | (with_reducible exact HSM.out.drew))).mono ?_; rintro r w6 ⟨rfl, S6⟩; have k6 := S6.any))
     go_wp2_with fail
     refine bodyPost_ret (v := .tuple #[.string ⟨#[45]⟩, .int .i64 0]) ?_ rfl ⟨rfl, ?_⟩
     · simp [results, Tryz.results45, go_sem]
     · rw [HK8.out] at S6; exact S6.keep (List.sublist_cons_self _ _)
  · have HP := hid' (fun W K' (S' : MS w0 p K' x (F ++ [.body ⟨ok, ox, on, op, ol, os⟩ (i + 1)]) W) => HM w0 K' W S')
    have hk9 : (vk == 9) = false := by simpa using hk
    clear HM HH HGE hk RC M2; have hx : vx = true := hx; subst hx; go_wp2_with fail
    refine (HP.out _ _ SM).mono ?_; rintro r w6 ⟨rfl, S6⟩; go_wp2_with fail
    refine bodyPost_ret (v := .tuple #[.string nm, .int .i64 e]) ?_ rfl ⟨rfl, ?_⟩
    · simp [results, Tryz.results45, go_sem]
    · rw [HK8.out] at S6; exact S6.keep (List.sublist_cons_self _ _)
end
end
end Go.Proofs.YtpiomapnmempoaaGreat
