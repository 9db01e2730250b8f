/- Parts of the proof: Vmm, Vmn, Vmo, Vmq, Vmr, Vna, Vnc, Vnh, Vni. -/
import Derived.Test.YtpiomapnmempoaaGreatY17
import Derived.Test.YtpiomapnmempoaaGreatY35
namespace Go.Proofs.YtpiomapnmempoaaGreat
open Go.RowKit
variable {w w0 : World} {K : List (Nat × Obj)} {k : Int} {M : List (Nat × List C)} {hp sp : Nat} {l l0 ops : List O} {a : O}
section
def LP (w0 : World) (p : MP) (K : List (Nat × Obj)) (x : MX) (F : List Fr) (v : O) (s6 s4 s5 : Value) (wx : World) : Prop :=
 s4 = .int .i64 0 ∧ s5 = .int .i64 0 ∧ ∃ q, s6 = ptr q ∧ MS w0 p ((q, .cells v.cells.toArray 49) :: K) x F wx
section
variable {w0 w : World} {p : MP} {K : List (Nat × Obj)} {x : MX} {F : List Fr}
theorem MS.awake (S : MS w0 p K x F w) (hd : x.doing = 2) :
 Calls Tryz.prog 28 #[ptr p.mp] w fun r w' => r = .returned (.tuple #[]) ∧ MS w0 p K { x with doing := 0, en := 0, ew := ⟨#[]⟩ } F w' := by
 obtain ⟨qs, e, S⟩ := S
 exact (m_awake S hd).mono fun _ _ ⟨h1, h2⟩ => ⟨h1, qs, e, h2⟩
set_option maxRecDepth 100000 in
set_option maxHeartbeats 4000000 in
theorem load_any (S : MS w0 p K x F w) (vt : Value) (toks : List Tok) (HT : ToksAt w0 vt toks) (htk : ∀ t ∈ toks, TokB t) (hn : toks.length ≤ 1000) (h5 : ∀ t ∈ toks, t.kind ≠ 5)
 {L' : List C} {o : O} (hres : progB noF x.L toks = (L', o, 0, 0)) (hF : F.length < 100) (hd : x.doing = 2) :
 Calls Tryz.prog 12 #[ptr p.mp, vt] w fun r w' => r = .returned (.tuple #[.int .i64 0, .int .i64 0]) ∧ MS w0 p K { x with L := L', doing := 0, en := 0, ew := ⟨#[]⟩ } (F ++ [.body o 0]) w' := by
 have HP := hid' (fun W K' (S' : MS w0 p K' x F W) => S'.tab (L' := L') (ds' := x.ds) (l' := x.l) (fun _ K2 T => T.ask fun K3 A => prog_any (cp := p.cp) A vt toks (fun W M' E A' => HT.pure A'.chg) htk hn noF (fun i L ls bg t h1 h2 h3 => absurd h3 (h5 t (List.mem_of_getElem? h2))) hres)); obtain ⟨ad, cap, rfl, -, -⟩ := HT
 obtain ⟨n, hn0⟩ : ∃ n, toks.length = n := ⟨_, rfl⟩
 rw [hn0] at HP ⊢; have HAW := hid' (fun W K' (S' : MS w0 p K' { x with L := L' } (F ++ [.body o 0]) W) => S'.awake hd); obtain ⟨vk, vx, vn, vp, vl, vs⟩ := o; have HFP := hid' (fun W K' b (S' : MS w0 p ((b, .cells #[.int .i64 vk, .bool vx, .int .i64 vn, .int .i64 vp, .int .i64 vl, .string vs, .int .i64 0] 70) :: K') { x with L := L' } F W) => MS.fpush (q := (b, Fr.body ⟨vk, vx, vn, vp, vl, vs⟩ 0)) S' hF); have hS1 := S.any; have M0 := AnyM.c0 (w0 := w0) (p := p) (K := K); have M1 := AnyM.c1 (w0 := w0) (p := p) (K := K); have lt := AnyM.mlt _ hS1; have HS := hid' S; have HA : Hid (∀ o, MS w0 p ((w.heap.size, o) :: K) x F (w.alloc o).drew) := hid' fun o => (S.alloc o).drew; clear S htk hn h5 hres hF hd hn0; go_enter Tryz.func12, Tryz.ntmps12
 go_upto_region 3 with (fail)
 go_cut [6, 4, 5] (fun s6 s4 s5 wx => LP w0 p K { x with L := L' } F ⟨vk, vx, vn, vp, vl, vs⟩ s6 s4 s5 wx)
 case first =>
  go_region_held3 (fun W' => AnyM w0 p K W') (repeat' (first | (with_reducible assumption) | (with_reducible refine AnyM.drew ?_) | (with_reducible refine AnyM.alloc ?_ _)))
   ((go_at_call 26; refine (HP.out _ _ (by first | (with_reducible exact HS.out.drew) | (with_reducible exact HA.out _) | (with_reducible exact HS.out))).mono ?_; rintro r w4 ⟨rfl, S4⟩; (try (with_reducible have k4 : AnyM w0 p K w4 := S4.any)); (try (with_reducible have k4 : AnyM w0 p K w4 := S4.more)); (try (with_reducible have yz : w.heap.size < w4.heap.size := blk_lt (S4.box _ m0))); (try (with_reducible have Rz : ∀ i, w4.cell? ⟨w.heap.size, i, none⟩ = #[Value.int .i64 0, .bool false, .int .i64 0, .int .i64 0, .int .i64 0, .string ⟨#[]⟩][i]? := cells_of (S4.box _ m0))); (try (with_reducible have Zz : ∀ i, w4.frozen? ⟨w.heap.size, i, none⟩ = false := free_of (S4.box _ m0))); (try (with_reducible have t1 := MS.more (S4.putO vk vx vn vp vl vs)))))
  all_goals
   go_wp2_with fail
   go_meet
  · exact ⟨rfl, rfl, _, rfl, S4.alloc (Obj.cells #[.int .i64 vk, .bool vx, .int .i64 vn, .int .i64 vp, .int .i64 vl, .string vs] 49)⟩
  · exact ⟨rfl, rfl, _, rfl, S4.putO vk vx vn vp vl vs⟩
 case rest =>
  obtain ⟨rfl, rfl, q, rfl, S4⟩ := hcut; have S4 : MS w0 p ((q, Obj.cells #[.int .i64 vk, .bool vx, .int .i64 vn, .int .i64 vp, .int .i64 vl, .string vs] 49) :: K) { x with L := L' } F _ := S4
  (try clear Rz); (try clear yz); (try clear Zz)
  have Rz := cells_of (S4.box _ m0); have yz := blk_lt (S4.box _ m0)
  (try simp only at Rz yz)
  clear HP HS HA M0 M1 lt hS1
  go_upto_region 6 with (fail)
  have S5 := S4.alloc (.cells #[.int .i64 vk, .bool vx, .int .i64 vn, .int .i64 vp, .int .i64 vl, .string vs, .int .i64 0] 70); clear S4; go_wp2_with fail
  refine (HFP.out _ _ _ S5).mono ?_; rintro r w6 ⟨rfl, S6⟩; clear S5 Rz yz; go_wp2_with fail
  refine (HAW.out _ _ S6).mono ?_; rintro r w7 ⟨rfl, S7⟩; go_wp2_with fail
  refine bodyPost_ret (v := .tuple #[.int .i64 0, .int .i64 0]) ?_ rfl ⟨rfl, S7.keep (List.sublist_cons_self _ _)⟩; simp [results, Tryz.results12, go_sem]
end
end
noncomputable def newX (n : Int) : MX := { L := hQ sysQ, ds := dsQ 2, l := [], kp := [], sl := 0, tx := [], most := n, steps := 0, doing := 2, want := 0, en := 0, la := 0, ew := ⟨#[]⟩, lw := ⟨#[]⟩ }
set_option maxRecDepth 100000 in
set_option maxHeartbeats 1000000 in
theorem mnew_any (X : Chg NoB w0 w) (n : Int) (h0 : 0 ≤ n) (h1 : n ≤ 20000) :
 Calls Tryz.prog 11 #[.int .i64 n] w fun r w' => ∃ p : MP, r = .returned (.tuple #[ptr p.mp, .int .i64 0]) ∧ MS w0 p [] (newX n) [] w' := by
 have A := Ats.start X; clear X; go_enter Tryz.func11, Tryz.ntmps11
 go_wp2_with fail
 refine (at_hnew A).mono ?_; rintro r w2 ⟨hp, rfl, A2⟩; clear A; go_wp2_with fail
 refine (q_new A2).mono ?_; rintro r w4 ⟨cp, rfl, S4⟩; clear A2; obtain ⟨g, cap, cur, h1', h2, h3, h4, A4⟩ := S4; have HC := hid' (And.intro h1' (And.intro h2 (And.intro h3 h4))); clear h1' h2 h3 h4; go_wp2_with fail
 refine (stk_new A4).mono ?_; rintro r w6 ⟨sp, rfl, S6⟩
 have S7 : TabAt w0 w6 [(hp, hQ sysQ)] [] cp hp sp (dsQ 2) [] := ⟨g, cap, cur, HC.out.1, HC.out.2.1, HC.out.2.2.1, HC.out.2.2.2, S6⟩
 clear A4 S6 HC; go_wp2_with fail
 refine (snew_any _).mono ?_; rintro r w8 ⟨rfl, rfl⟩; have S8 := S7.alloc (svBox [] 0)
 have key : Hid (∀ m : Int, m = n → MS w0 ⟨hp, cp, sp, w6.heap.size, w6.heap.size + 1⟩ [] (newX n) [] ((w6.alloc (svBox [] 0)).alloc (.cells #[ptr hp, ptr cp, ptr sp, ptr w6.heap.size, .slice none 0 0, .slice none 0 0, .int .i64 m, .int .i64 0, .int .i64 2, .int .i64 0, .int .i64 0, .int .i64 0, .string ⟨#[]⟩, .string ⟨#[]⟩] 61))) := hid' fun m hm => by
  subst hm; have S9 := S8.alloc (.cells #[ptr hp, ptr cp, ptr sp, ptr w6.heap.size, .slice none 0 0, .slice none 0 0, .int .i64 m, .int .i64 0, .int .i64 2, .int .i64 0, .int .i64 0, .int .i64 0, .string ⟨#[]⟩, .string ⟨#[]⟩] 61); rw [World.size_alloc] at S9; exact ⟨[], rfl, ⟨by decide, Nat.zero_le _⟩, [], [], ⟨rfl, fun i q c h => by simp at h⟩, [], .slice none 0 0, [], .slice none 0 0, .inl ⟨rfl, rfl, rfl, rfl⟩, .inl ⟨rfl, rfl, rfl, rfl⟩, S9⟩
 clear S7 S8; go_wp2_with fail
 all_goals
  refine bodyPost_ret (v := .tuple #[ptr (w6.heap.size + 1), .int .i64 0]) ?_ rfl ⟨⟨hp, cp, sp, w6.heap.size, w6.heap.size + 1⟩, rfl, key.out _ ?_⟩
  · simp [results, Tryz.results11, go_sem]
  · omega
noncomputable def loadX (n : Int) (L : List C) : MX := { newX n with L := L, doing := 0 }
set_option maxRecDepth 100000 in
set_option maxHeartbeats 1000000 in
theorem ran_any (w : World) (vt : Value) (toks : List Tok) (HT : ToksAt w vt toks) (htk : ∀ t ∈ toks, TokB t) (hn : toks.length ≤ 1000) (h5 : ∀ t ∈ toks, t.kind ≠ 5) (n : Int) (h0 : 0 ≤ n) (h1 : n ≤ 20000)
 {L' : List C} {o : O} (hres : progB noF (hQ sysQ) toks = (L', o, 0, 0)) {z : MX} {G : List Fr} (hz : z.doing = 2) (HP : ∀ p, ∃ k, Path p 0 20000 k (loadX n L') [.body o 0] z G) :
 Calls Tryz.prog 7 #[vt, .int .i64 n] w fun r w' => ∃ p : MP, r = .returned (ptr p.mp) ∧ MS w p [] z G w' := by
 have HN := hid' (mnew_any (Chg.refl NoB w) n h0 h1); have HL := hid' (fun W p (S' : MS w p [] (newX n) [] W) => load_any S' vt toks HT htk hn h5 hres (by decide) rfl)
 have HR := hid' (fun W p (S' : MS w p [] (loadX n L') [.body o 0] W) => by
  obtain ⟨k, hk⟩ := HP p; have := run_path (x := loadX n L') (n := 20000) (by decide) (by decide) hk (.inr hz) w [] W S'; rw [hz] at this
  exact this)
 obtain ⟨ad, cap, rfl, -, -⟩ := HT
 obtain ⟨m, hm⟩ : ∃ m, toks.length = m := ⟨_, rfl⟩
 rw [hm] at HL ⊢; clear htk hn h5 hres hz HP hm; go_enter Tryz.func7, Tryz.ntmps7
 go_wp2_with fail
 refine HN.out.mono ?_; rintro r w1 ⟨p, rfl, S1⟩; clear HN; go_wp2_with fail
 refine (HL.out _ _ S1).mono ?_; rintro r w2 ⟨rfl, S2⟩; have S2 : MS w p [] (loadX n L') [.body o 0] w2 := S2; clear HL S1; have HS := hid' S2; clear S2; go_wp2_with fail
 go_loopw [28] (fun _ wr => MS w p [] (loadX n L') [.body o 0] wr) (fun _ _ => 0)
 case atStart => exact HS.out
 case round =>
  have S3 := hrel; clear HS; go_wp2_with fail
  refine (HR.out _ _ S3).mono ?_; rintro r w4 ⟨rfl, S4⟩; go_wp2_with fail
  go_ret; exact ⟨p, rfl, S4⟩
section
theorem ToksAt.len' {v : Value} {l : List Tok} (h : ToksAt w v l) : ∃ a c, v = .slice a l.length c := by
 obtain ⟨a, c, h1, -⟩ := h; exact ⟨a, c, h1⟩
set_option maxRecDepth 100000 in
theorem words_any (s : ByteArray) (ts : List Tok) (h : Rds s.toList ts) (hs : s.size ≤ 20000) (hn : ts.length ≤ 4000) (w : World) :
 Calls Tryz.prog 8 #[.string s] w fun r w' => ∃ v us, r = .returned v ∧ us.map k3 = ts.map k3 ∧ ToksAt w' v us ∧ Chg NoB w w' := by
 obtain ⟨us, h1, h2⟩ := h.all3 (by rw [size_lst]; exact hs) hn; have HA := hid' (all_any s (by omega) w); rw [h2] at HA; have H1 := hid' h1; clear h h1 h2 hs hn; go_enter Tryz.func8, Tryz.ntmps8
 go_wp2_with fail
 refine HA.out.mono ?_; rintro r w1 ⟨v, rfl, X, ho, -⟩; have HO := hid' (ToksAt.of_own ho); have HX := hid' X; obtain ⟨a, c, hv⟩ := ToksAt.len' HO.out; subst hv; clear ho X HA; go_wp2_with fail
 go_ret; exact ⟨_, us, rfl, H1.out, HO.out, HX.out⟩
section
variable {w0 w : World} {p : MP} {K : List (Nat × Obj)} {x : MX} {F : List Fr}
set_option maxRecDepth 100000 in
theorem mq_stack (S : MS w0 p K x F w) : Calls Tryz.prog 16 #[ptr p.mp] w fun r w' => r = .returned (ptr p.sp) ∧ w = w' := by
 have M2 := AnyM.c2 _ S.any; clear S; go_enter Tryz.func16, Tryz.ntmps16
 go_wp2_with fail
 go_ret; exact ⟨rfl, rfl⟩
set_option maxRecDepth 100000 in
theorem mq_heap (S : MS w0 p K x F w) : Calls Tryz.prog 19 #[ptr p.mp] w fun r w' => r = .returned (ptr p.hp) ∧ w = w' := by
 have M2 := AnyM.c0 _ S.any; clear S; go_enter Tryz.func19, Tryz.ntmps19
 go_wp2_with fail
 go_ret; exact ⟨rfl, rfl⟩
set_option maxRecDepth 100000 in
theorem mq_frames (S : MS w0 p K x F w) : Calls Tryz.prog 10 #[ptr p.mp] w fun r w' => r = .returned (.int .i64 F.length) ∧ w = w' := by
 obtain ⟨a, c, tv, h⟩ := S.lenM; have R1 := cells_of h; have y1 := blk_lt h; clear S h; go_enter Tryz.func10, Tryz.ntmps10
 go_wp2_with fail
 go_ret; exact ⟨rfl, rfl⟩
set_option maxRecDepth 100000 in
theorem mq_end (S : MS w0 p K x F w) (hd : x.doing = 2) : Calls Tryz.prog 20 #[ptr p.mp] w fun r w' => r = .returned (.tuple #[.int .i64 x.en, .string x.ew]) ∧ Chg NoB w w' := by
 obtain ⟨a, c, tv, h⟩ := S.lenM; have R1 := cells_of h; have y1 := blk_lt h; rw [hd] at R1; clear S h; go_enter Tryz.func20, Tryz.ntmps20
 go_wp2_with fail
 go_quiet (fail)
 go_wp2_with fail
 refine bodyPost_ret (v := .tuple #[.int .i64 x.en, .string x.ew]) ?_ rfl ⟨rfl, (Chg.refl NoB w).drewN _⟩; simp [results, Tryz.results20, go_sem]
theorem MS.textB (S : MS w0 p K x F w) : x.tx.length ≤ 20000 ∧ ∃ a c tv R2, (∃ b c', tv = .slice b x.tx.length c') ∧ RowG 5 1 R2 tv x.tx.length (x.tx.map vu8) ∧ w.ownsRow w0.heap.size 5 1 tv x.tx.length (x.tx.map vu8) ∧ w.heap[p.mp]? = some (mBox p.hp p.cp p.sp p.vp (.slice a F.length c) tv x) := by
 obtain ⟨qs, e, ⟨hb, ht⟩, NM, sv, hkp, R, fv, R2, tv, h1, h2, S⟩ := S; obtain ⟨a, c, rfl, -⟩ := rowG_slice h1; obtain ⟨b, c', rfl, -⟩ := rowG_slice h2; refine ⟨ht, a, c, _, R2, ⟨b, c', rfl⟩, h2, ?_, ?_⟩
 · refine TabAt.ownsG (K := R ++ ((p.mp, mBox p.hp p.cp p.sp p.vp (.slice a qs.length c) (.slice b x.tx.length c') x) :: (p.vp, svBox sv x.sl) :: (qs.map frB ++ K))) (S.perm ?_) h2
   classical refine List.perm_iff_count.2 fun q => ?_
   simp only [List.count_append, List.count_cons]; omega
 · have := S.box (p.mp, mBox p.hp p.cp p.sp p.vp (.slice a qs.length c) (.slice b x.tx.length c') x) mem_me; rw [← e, List.length_map]; exact this
set_option maxRecDepth 100000 in
theorem mq_text (S : MS w0 p K x F w) : Calls Tryz.prog 21 #[ptr p.mp] w fun r w' => r = .returned (.string ⟨x.tx.toArray⟩) ∧ w = w' := by
 obtain ⟨-, a, c, tv, R2, ⟨b, c', rfl⟩, -, ho, h⟩ := S.textB; have hc := own_strF ho; have R1 := cells_of h; have y1 := blk_lt h; clear S h ho; go_enter Tryz.func21, Tryz.ntmps21
 go_wp2_with fail
 go_ret; exact ⟨rfl, rfl⟩
end
end
theorem wpList_append_str_at {P : Program} {ops : Array Oper} {rest : List Oper} {o : Oper} {a : Act} {Q : Exit → Act → World → Prop} (hgd : o.guard = none) (sl x : Operand) (t u : TypeId)
 (ho : o.op = .call { callee := .builtin .append, args := #[sl, x], argTypes := #[t, u] })
 (base : Nat) (e : TypeId) (i : TypeInfo) (ht : P.underlying t = some (.slice e)) (hu : P.underlying u = some .string) (hi : P.info? e = some i) (hz : i.zero = some (.int .u8 0))
 (hsize : i.size = 1) (hby : i.bytes = 1)
 (v : Value) (n : Nat) (xs : List Value) (hs : a.eval sl = v) (hown : w.ownsRow base e 1 v n xs) (s : ByteArray) (hx : a.eval x = .string s)
 (h63 : n + s.size ≤ maxLen) (hbytes : n + s.size ≤ 140737488355328) (hbase : base ≤ w.heap.size)
 (h : ∀ v' w', w'.ownsRow base e 1 v' (n + s.size) (xs ++ Lib.strCells s) → w.grownBy w' v.ownBlock → (v' = .slice none 0 0 ↔ v = .slice none 0 0 ∧ s.size = 0) → (v'.ownBlock = v.ownBlock ∨ v'.ownBlock = some w.heap.size) → wpList P ops Q rest (a.put o.dst v') w') : wpList P ops Q (o :: rest) a w := by
 refine wpList_plain hgd fun K hK => ?_; obtain ⟨v', w', hr, h2, h3, h4, h5⟩ := run_append_str_at (P := P) w base t u o.type e i ht hu hi hz hsize hby v n xs hown s h63 hbytes hbase; unfold Oper.wp execOp; simp only [ho, resolve, invoke, builtin, Sem.run_bind, Sem.run_pure, Result.andThen_ok, List.map_toArray, List.map_cons, List.map_nil, hs, hx, hr]; exact hK _ _ (h v' w' h2 h3 h4 h5)
theorem perm_two {α : Type} (R R2 Z : List α) : (R ++ (R2 ++ Z)).Perm (R2 ++ (R ++ Z)) := by
 classical refine List.perm_iff_count.2 fun q => ?_
 simp only [List.count_append]; omega
set_option maxRecDepth 100000 in
set_option maxHeartbeats 1000000 in
theorem m_tell {p : MP} {x : MX} {F : List Fr} (S : MS w0 p K x F w) (s : ByteArray) (hs : x.tx.length + s.size ≤ 20000) (hp : 0 < s.size) :
 Calls Tryz.prog 190 #[ptr p.mp, .string s] w fun r w' => r = .returned (.int .i64 0) ∧ MS w0 p K { x with tx := x.tx ++ s.toList } F w' := by
 obtain ⟨i0, hi, hz0, hz1, hz2⟩ := info_parts infoU8; obtain ⟨qs, e, ⟨hb, ht⟩, NM, sv, hkp, R, fv, R2, tv, h1, h2, S⟩ := S; obtain ⟨b, c', rfl, -⟩ := rowG_slice h2
 obtain ⟨n, hn⟩ : ∃ n, x.tx.length = n := ⟨_, rfl⟩
 have hsl : s.toList.length = s.size := size_lst s; have S1 := S.perm (perm_two R R2 _); rw [hn] at h2 hs S1; have HR2 := hid' h2; have HR1 := hid' h1; have HN := hid' hn; have HE := hid' e; have R1 := cells_of (S1.box (p.mp, mBox p.hp p.cp p.sp p.vp fv (.slice b n c') x) mem_me); have y1 := blk_lt (S1.box (p.mp, mBox p.hp p.cp p.sp p.vp fv (.slice b n c') x) mem_me); have HS1 := hid' S1
 have hle : decide (20000 - (n : Int) < s.size) = false := by simp; omega
 have HHS := hid' hs; have HHP := hid' hp; have HHB := hid' hb; have HSL := hid' hsl; clear S S1 h1 h2 e hn hs hp hb ht hsl; have hw : wrap64 (20000 - (n : Int)) = 20000 - n := IntWalk.wrap64_in (20000 - (n : Int)) (by have := HHS.out; omega)
 have hle2 : ¬ (20000 - (n : Int) < s.size) := by have := HHS.out; clear hw; omega
 go_enter Tryz.func190, Tryz.ntmps190
 go_upto_region 3 with (fail)
 clear hw hle2
 go_wp2_with (at_builtin; refine wpList_append_str_at rfl (.tmp 18) (.tmp 19) 59 9 rfl w0.heap.size 5 i0 Tryz.underBytes Tryz.underStr hi hz0 hz1 hz2 (.slice b n c') n (x.tx.map vu8) rfl (HS1.out.ownsG HR2.out) s rfl ?_ ?_ ?_ ?_; (have := HHS.out; unfold maxLen; omega); (have := HHS.out; omega); (have := HS1.out.chg.size; exact this); intro v5 w5 hown5 hgr5 _ hob5; obtain ⟨R', hR', S5⟩ := TabAt.grownG HS1.out HR2.out hown5 hgr5 hob5 HHP.out; obtain ⟨g5, cap5, cur5, rfl, rfl, -⟩ := hR'.parts (by have := HHP.out; omega); have R6 := cells_of (S5.box (p.mp, mBox p.hp p.cp p.sp p.vp fv (.slice b n c') x) mem_me); have Z6 := free_of (S5.box (p.mp, mBox p.hp p.cp p.sp p.vp fv (.slice b n c') x) mem_me); have y6 := blk_lt (S5.box (p.mp, mBox p.hp p.cp p.sp p.vp fv (.slice b n c') x) mem_me); simp only at y6; have HS6 := hid' (S5.put2 5 (.slice (some ⟨g5, 0, none⟩) (n + s.size) cap5)); have HR6 := hid' hR'; clear hown5 hgr5 hob5 hR' S5)
 go_wp2_with fail
 go_ret; have S7 := HS6.out; simp only [List.setIfInBounds_toArray, List.set_cons_zero, List.set_cons_succ] at S7; have hR7 := HR6.out
 have hl7 : (x.tx ++ s.toList).length = n + s.size := by rw [List.length_append, HN.out, HSL.out]
 refine ⟨rfl, qs, HE.out, ⟨HHB.out, by show (x.tx ++ s.toList).length ≤ 20000; rw [hl7]; exact HHS.out⟩, NM, sv, hkp, R, fv, _, _, HR1.out, ?_, S7.perm (perm_two _ R _)⟩; show RowG _ _ _ _ (x.tx ++ s.toList).length ((x.tx ++ s.toList).map vu8); rw [hl7, List.map_append, ← strCells_eq]; exact hR7
section
def setObj (w : World) (r : Nat) (o : Obj) : World := { w with heap := w.heap.setIfInBounds r o }
theorem size_setObj (w : World) (r : Nat) (o : Obj) : (setObj w r o).heap.size = w.heap.size := by simp [setObj]
theorem mk_check (w : World) (k : Int) (e : Bool) : (Instr.checkKey e 10000 3 (.int .i64 k)).run Tryz.prog w = .ok () w := MapKept.run_checkKey (k := .int .i64 k) Tryz.underlying3 (by simp [MapKept.IsKey]) e 9999
theorem run_insV {r : Nat} {es : Array MapEntry} {c : Nat} (hb : w.heap[r]? = some (.map es c)) (hf : Instr.findNow (.int .i64) (.int .i64 k) es.toList 0 = some none) (v : Value) :
 (Instr.mapUpdate 243 (.map (some r)) (.int .i64 k) v).run Tryz.prog w = .ok () (setObj w r (.map (es.push { key := .int .i64 k, val := v, born := c }) (c + 1))) := by
 unfold setObj; simp [Instr.mapUpdate, run_underlying Tryz.underlying243, MapKept.run_getObj_map hb, mk_check, MapKept.run_findKey Tryz.underlying3 hf, MapKept.run_setObj_map _ hb, Result.andThen]
theorem run_getV {r : Nat} {es : Array MapEntry} {c : Nat} {i : Nat} {v : Value} (hb : w.heap[r]? = some (.map es c)) (hf : Instr.findNow (.int .i64) (.int .i64 k) es.toList 0 = some (some (i, v))) :
 (Instr.lookup 243 (.map (some r)) (.int .i64 k) false).run Tryz.prog w = .ok v w := by
 simp [Instr.lookup, run_underlying Tryz.underlying243, MapKept.run_getObj_map hb, mk_check, MapKept.run_findKey Tryz.underlying3 hf, Result.andThen]
theorem Ats.putMk {b : Nat} {o : Obj} (A : Ats w0 w M ((b, o) :: K)) (o' : Obj) : Ats w0 { w with heap := w.heap.setIfInBounds b o' } M ((b, o') :: K) := by
 obtain ⟨h, h1, H, X0, D, F, k, n⟩ := A; obtain ⟨kb, kn, kg⟩ := k _ (List.mem_cons_self ..); have hs := MapKept.heap_set (o' := o') kb
 have X : Chg (· = b) w { w with heap := w.heap.setIfInBounds b o' } := ⟨rfl, rfl, rfl, by simp, fun i _ hi => hs.2 i hi⟩
 refine ⟨h, h1, fun x hx => (H x hx).chg X fun c hc e => kn (List.mem_flatMap.2 ⟨x, hx, e ▸ hc⟩), X0.trans' X (fun i hi e => by simp only at e kg; omega), D, F, fun q hq => ?_, n⟩
 rcases List.mem_cons.1 hq with rfl | hq
 · exact ⟨hs.1, kn, kg⟩
 · refine ⟨X.blk (k q (List.mem_cons_of_mem _ hq)).1 fun e => ?_, (k q (List.mem_cons_of_mem _ hq)).2⟩; rw [List.map_cons, List.nodup_cons] at n; exact n.1 (List.mem_map.2 ⟨q, hq, e⟩)
section
variable {w0 w : World} {M : List (Nat × List C)} {K : List (Nat × Obj)} {b : Nat} {o : Obj}
theorem TabAt.putMk {cp : Nat} {ds : List O} (S : TabAt w0 w M ((b, o) :: K) cp hp sp ds l) (o' : Obj) : TabAt w0 { w with heap := w.heap.setIfInBounds b o' } M ((b, o') :: K) cp hp sp ds l :=
 S.over fun _ A => (StkAt.over (A.perm List.perm_middle) (K' := (b, o') :: (_ ++ K)) fun _ B => ((B.perm List.perm_middle).putMk o').perm List.perm_middle.symm).perm List.perm_middle.symm
theorem MS.putMk {p : MP} {x : MX} {F : List Fr} (S : MS w0 p ((b, o) :: K) x F w) (o' : Obj) : MS w0 p ((b, o') :: K) x F (setObj w b o') :=
 S.over fun _ _ A => ((A.perm List.perm_middle).putMk o').perm List.perm_middle.symm
end
end
section
theorem isK_all {o : O} (h : mayO o = true) : isK (-1) o.kind = true := by
 have e : ∀ k : Fin 13, isK (-1) (k.val : Int) = true := by decide +kernel
 obtain ⟨h0, h1⟩ := may_kind h; have := e ⟨o.kind.toNat, by omega⟩; rwa [show ((o.kind.toNat : Nat) : Int) = o.kind by omega] at this
theorem kindsA (h : isK k a.kind = true) : ∀ (i : Nat) (k' : Int) (o : O), ([k] : List Int)[i]? = some k' → [a][i]? = some o → isK k' o.kind = true := fun i k' o h1 h2 => by
 rcases i with _ | i
 · simp at h1 h2; subst h1 h2; exact h
 · simp at h1
theorem kindsB {l : Int} {b : O} (h : isK k a.kind = true) (h' : isK l b.kind = true) : ∀ (i : Nat) (k' : Int) (o : O), ([k, l] : List Int)[i]? = some k' → [a, b][i]? = some o → isK k' o.kind = true := fun i k' o h1 h2 => by
 rcases i with _ | _ | i
 · simp at h1 h2; subst h1 h2; exact h
 · simp at h1 h2; subst h1 h2; exact h'
 · simp at h1
theorem kindsC {l m : Int} {b c : O} (h : isK k a.kind = true) (h' : isK l b.kind = true) (h2 : isK m c.kind = true) : ∀ (i : Nat) (k' : Int) (o : O), ([k, l, m] : List Int)[i]? = some k' → [a, b, c][i]? = some o → isK k' o.kind = true := fun i k' o g1 g2 => by
 rcases i with _ | _ | _ | i
 · simp at g1 g2; subst g1 g2; exact h
 · simp at g1 g2; subst g1 g2; exact h'
 · simp at g1 g2; subst g1 g2; exact h2
 · simp at g1
theorem one_cur {cur : Array Value} {o : O} (h : cur.toList = [o].flatMap O.cells) : cur = o.cells.toArray := by
 apply Array.toList_inj.1
 rw [h]; simp
def MTaken (w0 : World) (p : MP) (K : List (Nat × Obj)) (x : MX) (F : List Fr) (ops : List O) (n : Nat) (e : Ending) (w' : World) : Prop :=
 ∃ g cur, e = .returned (.tuple #[.slice (some ⟨g, 0, none⟩) n n, .int .i64 0]) ∧ cur.toList = ops.flatMap O.cells ∧ MS w0 p ((g, .cells cur 49) :: K) x F w'
section
variable {w0 w w' : World} {p : MP} {K K' : List (Nat × Obj)} {x y : MX} {F G : List Fr}
theorem MS.len (S : MS w0 p K x F w) : x.l.length ≤ 200 := by obtain ⟨qs, e, hb, NM, sv, hkp, R, fv, R2, tv, h1, h2, S⟩ := S; exact S.len
theorem MS.may (S : MS w0 p K x F w) : ∀ o ∈ x.l, mayO o = true := by obtain ⟨qs, e, hb, NM, sv, hkp, R, fv, R2, tv, h1, h2, S⟩ := S; exact S.may
theorem MS.take {f : Nat} {args : Array Value} {n : Nat} (S : MS w0 p K x F w)
 (h : ∀ NM E, StkAt w0 w ((p.hp, x.L) :: NM) (E ++ K) p.sp x.l → Calls Tryz.prog f args w (Taken w0 ((p.hp, x.L) :: NM) (E ++ K) p.sp x.l ops n)) : Calls Tryz.prog f args w (MTaken w0 p K x F ops n) := by
 obtain ⟨qs, e, hb, NM, sv, hkp, R, fv, R2, tv, h1, h2, S⟩ := S
 have ea : ∀ E : List (Nat × Obj), E ++ (R ++ (R2 ++ ((p.mp, mBox p.hp p.cp p.sp p.vp fv tv x) :: (p.vp, svBox sv x.sl) :: (qs.map frB ++ K)))) = (E ++ (R ++ (R2 ++ ((p.mp, mBox p.hp p.cp p.sp p.vp fv tv x) :: (p.vp, svBox sv x.sl) :: qs.map frB)))) ++ K := by
  intro E; simp only [List.append_assoc, List.cons_append]
 refine (S.take (ops := ops) (n := n) fun E T => ?_).mono ?_
 · rw [ea] at T ⊢; exact h _ _ T
 · rintro r w' ⟨g, cur, e1, e2, S'⟩; refine ⟨g, cur, e1, e2, qs, e, hb, NM, sv, hkp, R, fv, R2, tv, h1, h2, S'.perm ?_⟩
   classical refine List.perm_iff_count.2 fun q => ?_
   simp only [List.count_append, List.count_cons]; omega
theorem MS.hfrom (S : MS w0 p K x F w) (hl : x.l = l0 ++ ops) (ks : List Int) (kb : Nat) (hk : (kb, .cells (ks.map (Value.int .i64)).toArray 3) ∈ K) (hn : ks.length = ops.length)
 (hT : ∀ (i : Nat) (k : Int) (o : O), ks[i]? = some k → ops[i]? = some o → isK k o.kind = true) (hH : HeldAll x.L ops) (n : Nat) (hn' : ops.length = n) :
 Calls Tryz.prog 146 #[ptr p.hp, ptr p.sp, .slice (some ⟨kb, 0, none⟩) n n] w (MTaken w0 p K x F ops n) :=
 S.take fun _ E T => by
  rw [hl] at T ⊢; exact hand_from T (List.mem_cons_self ..) ks kb (List.mem_append_right _ hk) hn hT hH n hn'
theorem MS.hgive {gv : List O} (S : MS w0 p K x F w) (hl : x.l = l0 ++ ops) (n : Nat) (hn : ops.length = n) (k : Nat) (hk : gv.length = k) (hroom : l0.length + k ≤ 200) (hmay : ∀ o ∈ gv, mayO o = true)
 (a : Option Addr) (cap : Nat) (hcap : k ≤ cap) (hread : ∀ m o, gv[m]? = some o → ∃ g off cur fz, a = some ⟨g, off, none⟩ ∧ (g, Obj.cells cur 49 fz) ∈ K ∧ ∀ j, j < 6 → cur[off + m * 6 + j]? = o.cells[j]?) :
 Calls Tryz.prog 123 #[ptr p.sp, .int .i64 n, .slice a k cap] w fun e w' => e = .returned (.int .i64 0) ∧ MS w0 p K { x with l := l0 ++ gv } F w' := by
 obtain ⟨qs, e, hb, NM, sv, hkp, R, fv, R2, tv, h1, h2, g, c, cur, i1, i2, i3, i4, T⟩ := S; rw [hl] at T
 refine (hand_give T n hn k hk hroom hmay a cap hcap fun m o ho => ?_).mono fun r w' ⟨r1, T'⟩ => ⟨r1, qs, e, hb, NM, sv, hkp, R, fv, R2, tv, h1, h2, g, c, cur, i1, i2, i3, i4, T'⟩
 obtain ⟨g', off, cur', fz, q1, q2, q3⟩ := hread m o ho; exact ⟨g', off, cur', fz, q1, List.mem_cons_of_mem _ (List.mem_cons_of_mem _ (List.mem_append_right _ (List.mem_append_right _ (List.mem_cons_of_mem _ (List.mem_cons_of_mem _ (List.mem_append_right _ q2)))))), q3⟩
theorem MS.hgive0 (S : MS w0 p K x F w) (hl : x.l = l0 ++ ops) (n : Nat) (hn : ops.length = n) :
 Calls Tryz.prog 123 #[ptr p.sp, .int .i64 n, .slice none 0 0] w fun e w' => e = .returned (.int .i64 0) ∧ MS w0 p K { x with l := l0 } F w' := by
 have hlen := S.len; rw [hl, List.length_append] at hlen; have := S.hgive (gv := []) hl n hn 0 rfl (by omega) (by simp) none 0 (Nat.le_refl _) (by simp); rwa [List.append_nil] at this
end
set_option maxRecDepth 100000 in
theorem hand_take0 (S : StkAt w0 w M K sp l) :
 Calls Tryz.prog 143 #[ptr sp, .slice none 0 0] w (Taken w0 M K sp l [] 0) := by
 have hmk := run_make_objs 0 (by omega) w; rw [show ((0 : Nat) : Int) = 0 from rfl] at hmk; have HLN := hid' (stk_len S)
 have hlen : (l.length : Int) ≤ 200 := by have := S.len; omega
 have h0 : (0 : Int) ≤ l.length := by omega
 have hlt : decide (l.length < 0) = false := by simp
 have HS := hid' S; clear S; go_enter Tryz.func143, Tryz.ntmps143
 go_wp2_with fail
 refine HLN.out.mono ?_; rintro e w1 ⟨rfl, rfl⟩; go_wp2_with fail
 go_loopw [19] (fun cv wr => cv = .int .i64 0 ∧ ∃ cur : Array Value, cur.toList = [] ∧ StkAt w0 wr M ((w.heap.size, .cells cur 49) :: K) sp l) (fun cv _ => 0)
 case atStart => exact ⟨rfl, _, by rw [zrow_toList]; rfl, HS.out.alloc _⟩
 case round =>
  obtain ⟨rfl, cur, hc, S1⟩ := hrel; go_wp2
  go_ret2
  exact ⟨_, cur, rfl, by simpa using hc, S1⟩
set_option maxRecDepth 100000 in
theorem hand_from0 {L : List C} (S : StkAt w0 w M K sp l) (hm : (hp, L) ∈ M) :
 Calls Tryz.prog 146 #[ptr hp, ptr sp, .slice none 0 0] w (Taken w0 M K sp l [] 0) := by
 have HT := hid' (hand_take0 S)
 have HH := hid' (fun (w' : World) (g : Nat) (cur : Array Value) (S' : StkAt w0 w' M ((g, .cells cur 49) :: K) sp l) =>
  hand_held (ops := []) S' hm 0 g 0 cur 0 rfl (by omega) (Nat.le_refl _) m0 (by simp) (by simp) (by intro o ho; simp at ho))
 clear S hm; go_enter Tryz.func146, Tryz.ntmps146
 go_wp2_with fail
 refine HT.out.mono ?_; rintro e w2 ⟨g, cur, rfl, hc, S2⟩; have HC := hid' hc; clear hc; go_wp2_with fail
 refine (HH.out _ _ _ S2).mono ?_; rintro e w3 ⟨rfl, S3⟩; go_wp2_with fail
 go_ret2
 exact ⟨g, cur, rfl, HC.out, S3⟩
theorem MS.hfrom0 {p : MP} {x : MX} {F : List Fr} (S : MS w0 p K x F w) :
 Calls Tryz.prog 146 #[ptr p.hp, ptr p.sp, .slice none 0 0] w (MTaken w0 p K x F [] 0) :=
 S.take fun _ _ T => hand_from0 T (List.mem_cons_self ..)
end
section
section
variable {w0 w w' : World} {p : MP} {K K' : List (Nat × Obj)} {x y : MX} {F G : List Fr}
theorem sv_perm {α : Type} (R3 R R2 Z : List α) (a b c d q : α) : (R3 ++ a :: b :: c :: (R ++ (R2 ++ (d :: q :: Z)))).Perm (q :: (R3 ++ a :: b :: c :: (R ++ (R2 ++ (d :: Z))))) := by
 classical refine List.perm_iff_count.2 fun z => ?_
 simp only [List.count_append, List.count_cons]; omega
theorem MS.vask {f : Nat} {args : Array Value} {r : Value} {L' : List C} {kp' : List (Int × List C)} {sl' : Int} (S : MS w0 p K x F w)
 (h : ∀ NM sv K', KeptIn x.kp NM sv → Ats w0 w ((p.hp, x.L) :: NM) ((p.vp, svBox sv x.sl) :: K') → Calls Tryz.prog f args w fun e w' => e = .returned r ∧ ∃ NM' sv', KeptIn kp' NM' sv' ∧ Ats w0 w' ((p.hp, L') :: NM') ((p.vp, svBox sv' sl') :: K')) :
 Calls Tryz.prog f args w fun e w' => e = .returned r ∧ MS w0 p K { x with L := L', kp := kp', sl := sl' } F w' := by
 obtain ⟨qs, e, hb, NM, sv, hkp, R, fv, R2, tv, h1, h2, g, cap, cur, i1, i2, i3, i4, hl, R3, lv, hr, A⟩ := S; refine (h NM sv _ hkp (A.perm (sv_perm ..))).mono ?_; rintro r' w' ⟨e1, NM', sv', hk', A'⟩; exact ⟨e1, qs, e, hb, NM', sv', hk', R, fv, R2, tv, h1, h2, g, cap, cur, i1, i2, i3, i4, hl, R3, lv, hr, A'.perm (sv_perm ..).symm⟩
theorem MS.svbox (S : MS w0 p K x F w) : ∃ sv, sv.length = x.kp.length ∧ w.heap[p.vp]? = some (svBox sv x.sl) := by
 obtain ⟨qs, e, hb, NM, sv, hkp, R, fv, R2, tv, h1, h2, S⟩ := S; exact ⟨sv, hkp.1, S.box (p.vp, svBox sv x.sl) (List.mem_append_right _ (List.mem_append_right _ (List.mem_cons_of_mem _ (List.mem_cons_self ..))))⟩
theorem MS.svlen (S : MS w0 p K x F w) : Calls Tryz.prog 232 #[ptr p.vp] w fun e w' => e = .returned (.int .i64 x.kp.length) ∧ w = w' := by
 obtain ⟨sv, hl, hb⟩ := S.svbox; rw [← hl]; exact slen_any p.vp sv x.sl w hb
theorem MS.room (S : MS w0 p K x F w) (n k : Nat) (hn : n ≤ x.l.length) (hk : k ≤ 1000) (h : x.l.length - n + k ≤ 200) :
 Calls Tryz.prog 122 #[ptr p.sp, .int .i64 n, .int .i64 k] w fun e w' => e = .returned (.bool true) ∧ w = w' := by
 obtain ⟨qs, e, hb, NM, sv, hkp, R, fv, R2, tv, h1, h2, g, cap, cur, i1, i2, i3, i4, T⟩ := S; exact hand_room T n k hn hk h
theorem MS.save (S : MS w0 p K x F w) (hl : x.kp.length < 10) (h0 : 0 ≤ x.sl) (h1 : x.sl < 1000000) :
 Calls Tryz.prog 233 #[ptr p.vp, ptr p.hp] w fun e w' => e = .returned (.tuple #[(svO (x.sl + 1)).val, .int .i64 0]) ∧ MS w0 p K { x with kp := x.kp ++ [(x.sl + 1, x.L)], sl := x.sl + 1 } F w' :=
 S.vask (L' := x.L) fun NM sv K' hk A => by
  refine (at_save A (List.mem_cons_self ..) (by rw [hk.1]; exact hl) h0 h1).mono ?_; rintro r w' ⟨e1, gp, A'⟩; refine ⟨e1, (gp, x.L) :: NM, _, ⟨by rw [List.length_append, List.length_append, hk.1]; rfl, fun i q c hq hc => ?_⟩, A'.order (List.Perm.swap _ _ _)⟩
  rcases Nat.lt_or_ge i sv.length with hi | hi
  · rw [List.getElem?_append_left hi] at hq; rw [List.getElem?_append_left (by rw [← hk.1]; exact hi)] at hc; obtain ⟨e2, e3⟩ := hk.2 i q c hq hc; exact ⟨e2, List.mem_cons_of_mem _ e3⟩
  · rw [List.getElem?_append_right hi] at hq; rw [List.getElem?_append_right (by rw [← hk.1]; exact hi), ← hk.1] at hc
    rcases hz : i - sv.length with _ | j
    · rw [hz] at hq hc; simp only [List.getElem?_cons_zero, Option.some.injEq] at hq hc; subst hq hc; exact ⟨rfl, List.mem_cons_self ..⟩
    · rw [hz] at hq; simp at hq
end
theorem may_svO (n : Int) (h : 1 ≤ n) (h1 : n ≤ 1000001) : mayO (svO n) = true := by
 have h2 : n ≤ 2147483647 := by omega
 simp [mayO, eqO, bareO, O.nil, h, h2]
def LS (w0 : World) (p : MP) (K : List (Nat × Obj)) (x : MX) (F : List Fr) (v : O) (s3 s4 : Value) (wx : World) : Prop :=
 s4 = .int .i64 0 ∧ ∃ q, s3 = ptr q ∧ MS w0 p ((q, obox v) :: K) x F wx
section
variable {p : MP} {x y : MX} {F G : List Fr}
set_option maxRecDepth 100000 in
set_option maxHeartbeats 2000000 in
theorem m_keep (S : MS w0 p K x F w) (hk : x.kp.length < 10) (h0 : 0 ≤ x.sl) (h1 : x.sl < 1000000) (hl : x.l.length < 200) :
 Calls Tryz.prog 192 #[ptr p.mp] w fun r w' => r = .returned (.int .i64 0) ∧ MS w0 p K { x with kp := x.kp ++ [(x.sl + 1, x.L)], sl := x.sl + 1, l := x.l ++ [svO (x.sl + 1)] } F w' := by
 have HLN := hid' S.svlen; have HRM := hid' (S.room 0 1 (Nat.zero_le _) (by decide) (by omega)); have HSV := hid' (fun W K' (S' : MS w0 p K' x F W) => S'.save hk h0 h1); have HPU := hid' (fun W K' (S' : MS w0 p K' { x with kp := x.kp ++ [(x.sl + 1, x.L)], sl := x.sl + 1 } F W) => S'.spush (svO (x.sl + 1)) (may_svO _ (by omega) (by omega)) hl)
 have hge : decide (10 ≤ (x.kp.length : Int)) = false := by simp; omega
 have hki : (x.kp.length : Int) < 10 := by omega
 have hS := S.any; have HS := hid' S; have HA : Hid (∀ o, MS w0 p ((w.heap.size, o) :: K) x F (w.alloc o)) := hid' fun o => S.alloc o; have M0 := AnyM.c0 (w0 := w0) (p := p) (K := K); have M2 := AnyM.c2 (w0 := w0) (p := p) (K := K); have M3 := AnyM.c3 (w0 := w0) (p := p) (K := K); have lt := AnyM.mlt _ hS; have N2 := M2 _ hS; have N3 := M3 _ hS
 obtain ⟨y, hy⟩ : ∃ y : MX, y = { x with kp := x.kp ++ [(x.sl + 1, x.L)], sl := x.sl + 1 } := ⟨_, rfl⟩
 rw [← hy] at HSV HPU; have HY := hid' hy; clear S hk h0 h1 hl hy; generalize x.kp.length = nk at *; generalize x.sl + 1 = sn at *; go_enter Tryz.func192, Tryz.ntmps192
 go_wp2_with fail
 refine HLN.out.mono ?_; rintro r w1 ⟨rfl, rfl⟩; go_wp2_with fail
 refine HRM.out.mono ?_; rintro r w1 ⟨rfl, rfl⟩
 go_upto_region 5 with (fail)
 clear N2 N3 hge hki HLN HRM
 go_cut [3, 4] (fun s3 s4 wx => LS w0 p K y F (svO sn) s3 s4 wx)
 case first =>
  go_region_held3 (fun W' => AnyM w0 p K W') (repeat' (first | (with_reducible assumption) | (with_reducible refine AnyM.drew ?_) | (with_reducible refine AnyM.alloc ?_ _)))
   ((go_at_call 233; refine (HSV.out _ _ (by first | (with_reducible exact HS.out) | (with_reducible exact HS.out.drew) | (with_reducible exact HA.out _) | (with_reducible exact (HA.out _).drew))).mono ?_; rintro r w4 ⟨rfl, S4⟩; (try (with_reducible have k4 : AnyM w0 p K w4 := S4.any)); (try (with_reducible have k4 : AnyM w0 p K w4 := S4.more)); (try (with_reducible have yz : w.heap.size < w4.heap.size := blk_lt (S4.box _ m0))); (try (with_reducible have Rz : ∀ i, w4.cell? ⟨w.heap.size, i, none⟩ = #[Value.int .i64 0, .bool false, .int .i64 0, .int .i64 0, .int .i64 0, .string ⟨#[]⟩][i]? := cells_of (S4.box _ m0))); (try (with_reducible have Zz : ∀ i, w4.frozen? ⟨w.heap.size, i, none⟩ = false := free_of (S4.box _ m0))); (try (with_reducible have t1 := (S4.putO 11 false sn 0 0 ⟨#[]⟩).more))))
  all_goals
   go_wp2_with fail
   go_meet
  · exact ⟨rfl, _, rfl, S4.alloc (obox (svO sn))⟩
  · exact ⟨rfl, _, rfl, S4.putO 11 false sn 0 0 ⟨#[]⟩⟩
 case rest =>
  obtain ⟨rfl, q, rfl, S4⟩ := hcut
  obtain ⟨K8, S8, hg, hsub⟩ : ∃ K8, MS w0 p K8 y F _ ∧ (q, obox (svO sn)) ∈ K8 ∧ K.Sublist K8 := ⟨_, S4, m0, List.sublist_cons_self _ _⟩
  have RC := AnyM.cells (w0 := w0) (p := p) hg; have M28 := AnyM.c2 (w0 := w0) (p := p) (K := K8); have k8 := S8.any; have lt8 := AnyM.mlt _ k8; have lg8 := AnyM.lt hg _ k8; simp only at lg8; have HS8 := hid' S8; clear S4 S8 M0 M2 M3 HA HS HSV hS lt
  go_upto_region 8 with (fail)
  go_region_held3 (fun W' => AnyM w0 p K8 W') (repeat' (first | (with_reducible assumption) | (with_reducible refine AnyM.drew ?_)))
   ((go_at_call 46; refine (HPU.out _ _ (by first | (with_reducible exact HS8.out) | (with_reducible exact HS8.out.drew))).mono ?_; rintro r w6 ⟨rfl, S6⟩; have k6 := S6.any))
  go_wp2_with fail
  go_ret; rw [HY.out] at S6; exact ⟨rfl, S6.keep hsub⟩
end
end
section
def boolB (b : Bool) : ByteArray := if b = true then ⟨#[116, 114, 117, 101]⟩ else ⟨#[102, 97, 108, 115, 101]⟩
def plainC (o : O) : ByteArray := if o.kind = 2 then boolB (decide (o.n = 1)) else ⟨#[45, 115, 97, 118, 101, 45]⟩
set_option maxRecDepth 100000 in
theorem plain_more (o : O) (hp : Nat) (hk : o.kind = 2 ∨ o.kind = 11) (w : World) :
 Calls Tryz.prog 55 #[ptr hp, o.val] w fun r w' => r = .returned (.string (plainC o)) ∧ Chg NoB w w' := by
 obtain ⟨k, ex, n, a, l, s⟩ := o
 rcases hk with hk | hk
 all_goals
  simp only at hk; subst hk
 · by_cases hn : n = 1
   · subst hn; go_enter Tryz.func55, Tryz.ntmps55
     go_wp2_with fail
     go_ret; exact ⟨rfl, (Chg.refl NoB w).alloc _⟩
   · have e : (n == 1) = false := by simpa using hn
     have HE := hid' (show plainC ⟨2, ex, n, a, l, s⟩ = ⟨#[102, 97, 108, 115, 101]⟩ by simp [plainC, boolB, hn]); clear hn; go_enter Tryz.func55, Tryz.ntmps55
     go_wp2_with fail
     go_ret; rw [HE.out]; exact ⟨rfl, (Chg.refl NoB w).alloc _⟩
 · go_enter Tryz.func55, Tryz.ntmps55
   go_wp2_with fail
   go_ret; exact ⟨rfl, (Chg.refl NoB w).alloc _⟩
set_option maxRecDepth 100000 in
set_option maxHeartbeats 1000000 in
theorem whole_more {bt : Nat} {b : List UInt8} (A : Told w0 w M K hp bt b) (hb : b.length ≤ 1000) (deep : Int) (o : O) (hk : o.kind = 2 ∨ o.kind = 11) :
 Calls Tryz.prog 33 #[ptr bt, o.val, .int .i64 deep] w fun r w' => r = .returned (.bool (decide ((b ++ (plainC o).toList).length < 1000))) ∧ Told w0 w' M K hp bt ((b ++ (plainC o).toList).take 1000) := by
 have hsz : (plainC o).size ≤ 1000000 := by
  unfold plainC boolB; split
  · split <;> decide
  · decide
 have HP := fun w => plain_more o hp hk w; generalize plainC o = T at *
 obtain ⟨R, hR⟩ : ∃ R, decide ((b ++ T.toList).length < 1000) = R := ⟨_, rfl⟩
 obtain ⟨k, ex, n, a, l, s⟩ := o; have HPL := hid' HP; have HR := hid' hR; clear HP hR; have A1 := A.alloc (.cells #[.int .i64 k, .bool ex, .int .i64 n, .int .i64 a, .int .i64 l, .string s] 49); have l1 := blk_lt (A1.box _ (List.mem_cons_self ..)); have RC := fun W => TellS.cells (w0 := w0) (M := M) (K := K) (hp := hp) (bt := bt) (g := w.heap.size) (cs := #[.int .i64 k, .bool ex, .int .i64 n, .int .i64 a, .int .i64 l, .string s]) (T := 49) (fz := (0, 0)) W; have LS := hid' (fun W b => Told.lose (w0 := w0) (w := W) (M := M) (K := K) (hp := hp) (bt := bt) (b := b) (q := (w.heap.size, .cells #[.int .i64 k, .bool ex, .int .i64 n, .int .i64 a, .int .i64 l, .string s] 49))); generalize ((w.heap.size, Obj.cells #[.int .i64 k, .bool ex, .int .i64 n, .int .i64 a, .int .i64 l, .string s] 49) :: K : List (Nat × Obj)) = K' at *
 have FIN : Hid (∀ (w2 : World) (A2 : Told w0 w2 M K' hp bt b),
  Calls Tryz.prog 53 #[ptr bt, .string T] w2 fun r w' => r = .returned (.bool R) ∧ Told w0 w' M K' hp bt ((b ++ T.toList).take 1000)) := hid' (fun w2 A2 => by
  have := at_tput A2 hb T hsz
  rwa [HR.out] at this)
 have HA := hid' A1
 have S0 : TellS w0 M K' hp bt (w.alloc (.cells #[.int .i64 k, .bool ex, .int .i64 n, .int .i64 a, .int .i64 l, .string s] 49)) := ⟨_, A1⟩
 have RT := fun W => TellS.tell (w0 := w0) (M := M) (K := K') (hp := hp) (bt := bt) W; simp only at l1; clear A A1
 rcases hk with hk | hk
 all_goals
  simp only at hk; subst hk; go_enter Tryz.func33, Tryz.ntmps33
  go_wp2_with fail
  generalize hW : w.alloc _ = w1 at *; clear hW; generalize w.heap.size = g at *
  go_region_held3 (fun W' => TellS w0 M K' hp bt W') (first | assumption | (exact TellS.drew (by assumption)) | (exact ⟨_, by assumption⟩))
   (first | (go_at_call 55; refine (HPL.out _).mono ?_; rintro r w4 ⟨rfl, X4⟩; have A4 := HA.out.pure ((Chg.refl NoB w1).drew.trans X4)) | (go_at_call 53; refine (FIN.out _ A4).mono ?_; rintro r w5 ⟨rfl, A5⟩))
  go_wp2_with fail
  go_ret; rw [HR.out]; exact ⟨rfl, LS.out _ _ A5⟩
section
variable {w0 w : World} {M : List (Nat × List C)} {K : List (Nat × Obj)} {hp : Nat} {H : List C}
theorem full_of (A : Ats w0 w M K) (o : O) (T : List UInt8) (hT : T.length ≤ 1000) (HW : ∀ w K bt, Told w0 w M K hp bt [] → Calls Tryz.prog 33 #[ptr bt, o.val, .int .i64 0] w fun r w' => r = .returned (.bool (decide (([] ++ T).length < 1000))) ∧ Told w0 w' M K hp bt (([] ++ T).take 1000)) :
 Calls Tryz.prog 18 #[ptr hp, o.val] w fun r w' => r = .returned (.string ⟨T.toArray⟩) ∧ Ats w0 w' M K := by
 have h := at_fullT A o T (fun w K bt B => (HW w K bt B).mono fun r w' ⟨h1, h2⟩ => ⟨_, h1, h2⟩); rw [List.take_of_length_le hT] at h; exact h
theorem fullM_int (A : Ats w0 w M K) (v : Int) (h0 : -2147483647 ≤ v) (h1 : v ≤ 2147483647) :
 Calls Tryz.prog 18 #[ptr hp, (iO v).val] w fun r w' => r = .returned (.string ⟨(intL v).toArray⟩) ∧ Ats w0 w' M K :=
 full_of A (iO v) (intL v) (by have := decL_short v h0 h1; omega) fun w K bt B => by
  have hm : mayO (iO v) = true := by simp [mayO, eqO, bareO, O.nil, h0, h1]
  have := whole_leaf B (by simp) 0 (iO v) hm (.inr (.inl rfl)); rw [show plainB (iO v) = ⟨(intL v).toArray⟩ from rfl, ByteArray.toList_eq] at this; exact this
theorem full_more (A : Ats w0 w M K) (o : O) (hk : o.kind = 2 ∨ o.kind = 11) :
 Calls Tryz.prog 18 #[ptr hp, o.val] w fun r w' => r = .returned (.string ⟨(plainC o).toList.toArray⟩) ∧ Ats w0 w' M K :=
 full_of A o (plainC o).toList (by
  rw [size_lst]; unfold plainC boolB; split
  · split <;> decide
  · decide) fun w K bt B => whole_more B (by simp) 0 o hk
theorem fullM_str (A : Ats w0 w M K) (hM : (hp, H) ∈ M) (ex : Bool) (n a l : Int) (s x : ByteArray) (e : Int) (hx : bytesH H ⟨8, ex, n, a, l, s⟩ = (x, e)) (hsx : x.size ≤ 100) (hT : (parenL x.toList).length ≤ 1000) :
 Calls Tryz.prog 18 #[ptr hp, O.val ⟨8, ex, n, a, l, s⟩] w fun r w' => r = .returned (.string ⟨(parenL x.toList).toArray⟩) ∧ Ats w0 w' M K :=
 full_of A _ (parenL x.toList) hT fun w K bt B => by
  have := whole_str B (by simp) 0 hM ex n a l s x e hx (by omega); rw [show (bytesB (parenL x.toList)).toList = parenL x.toList by rw [ByteArray.toList_eq]] at this; exact this
end
section
variable {w0 w w' : World} {p : MP} {K K' : List (Nat × Obj)} {x y : MX} {F G : List Fr}
theorem MS.got (S : MS w0 p K x F w) (X : Chg NoB w w') {b : Nat} {o : Obj} (hb : w'.heap[b]? = some o) (hn : w.heap.size ≤ b) : MS w0 p ((b, o) :: K) x F w' :=
 S.over fun _ E A => A.over fun E2 B => (B.got X hb hn).perm (by rw [← List.append_assoc, ← List.append_assoc]; exact List.perm_middle.symm)
def CopyOf (w w' : World) (l : List O) (n : Nat) (e : Ending) : Prop :=
 ∃ g cap cur, e = .returned (.slice (some ⟨g, 0, none⟩) n cap) ∧ w.heap.size ≤ g ∧ w'.heap[g]? = some (.cells cur 49) ∧ n ≤ cap ∧ cap ≤ maxLen ∧ cur.size = cap * 6 ∧ cur.toList.take (n * 6) = l.flatMap O.cells ∧ Chg NoB w w'
set_option maxRecDepth 100000 in
theorem ms_items (S : MS w0 p K x F w) (hl : 0 < x.l.length) (n : Nat) (hn : x.l.length = n) :
 Calls Tryz.prog 17 #[ptr p.sp] w fun e w' => CopyOf w w' x.l n e := by
 subst hn; obtain ⟨i0, hi, hz0, hz1, hz2⟩ := info_parts Tryz.infoObj; have hlen := S.len; obtain ⟨qs, e, hb, NM, sv, hkp, R, fv, R2, tv, h1, h2, g, cap, cur, i1, i2, i3, i4, -, R3, lv, hr, A⟩ := S; obtain ⟨g, cap, cur, rfl, rfl, hcur⟩ := hr.shape hl; have Rs := cells_of (A.box (p.sp, stkBox (.slice (some ⟨g, 0, none⟩) x.l.length cap)) (List.mem_append_right _ (List.mem_cons_self ..))); have hbox := A.box (g, .cells cur 49) (List.mem_append_left _ (List.mem_cons_self ..)); simp only at Rs hbox
 have HN := hid' (fun j u (hj : (x.l.flatMap O.cells)[j]? = some u) => (show w.cell? ((⟨g, 0, none⟩ : Addr).add j) = some u by
  have hjl : j < x.l.length * 6 := by rw [← flat_length O.cells 6 cells_length]; exact (List.getElem?_eq_some_iff.1 hj).1
  exact World.news_of_block hbox j u (by rw [← hj, ← hcur j hjl]; simp)))
 have HL := hid' hl; clear hr A hbox hcur hl i1 i2 i3 i4 h1 h2 hkp hb e; generalize x.l = l at *; go_enter Tryz.func17, Tryz.ntmps17
 go_wp2_with (at_builtin; refine wpList_append_own _ rfl _ _ 44 rfl w.heap.size 49 i0 O.nil.val 6 56 Tryz.underObjs hi hz0 hz1 hz2 rfl (by decide) (.slice none 0 0) 0 [] rfl (World.ownsRow_nil _ _ _ _) ⟨g, 0, none⟩ l.length cap (l.flatMap O.cells) rfl (flat_length O.cells 6 cells_length l) (fun j u hj => HN.out j u hj) (flat_one l) ?_ ?_ ?_ ?_; (unfold maxLen; omega); omega; (simp; try omega); intro v' w2 hown hgr _)
 have X : Chg NoB w w2 := Chg.grown (Chg.refl _ _) hgr (fun k hk => by simp [Value.ownBlock] at hk); go_ret; simp only [Nat.zero_add, List.nil_append] at hown; obtain ⟨hl2, ⟨rfl, h0⟩ | ⟨g', cap', cur', rfl, hg0, hg', c1, c2, c3, c4⟩⟩ := hown
 · have := HL.out; omega
 · exact ⟨g', cap', cur', rfl, hg0, hg', c1, c2, c3, c4, X⟩
end
end
end Go.Proofs.YtpiomapnmempoaaGreat
