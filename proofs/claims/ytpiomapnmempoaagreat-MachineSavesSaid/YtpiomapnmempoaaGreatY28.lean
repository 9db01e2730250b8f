/- Parts of the proof: Uba, Ubb, Ubc. -/
import Derived.Test.YtpiomapnmempoaaGreatY13
import Derived.Test.YtpiomapnmempoaaGreatY14
namespace Go.Proofs.YtpiomapnmempoaaGreat
open Go.RowKit
variable {W w w0 : World} {M : List (Nat × List C)} {K KL : List (Nat × Obj)} {bb bh bl g hp : Nat} {e : Int} {T : TypeId} {fz : Nat × Nat}
def setsB (L : List C) (o : O) (xs : List O) (j : Nat) : List C := (List.range j).foldl (fun L (i : Nat) => (setH L o (i : Int) (xs.getD i O.nil)).1) L
theorem setsB_succ (L : List C) (o : O) (xs : List O) (j : Nat) : setsB L o xs (j + 1) = (setH (setsB L o xs j) o (j : Int) (xs.getD j O.nil)).1 := by
 simp [setsB, List.range_succ]
def arrB (L : List C) (xs : List O) : List C × O × Int :=
 match arrayH L xs.length with
 | (L1, o, e) => if e = 0 then (setsB L1 o xs xs.length, { o with exec := true }, 0) else (L1, O.nil, e)
set_option maxRecDepth 100000 in
set_option maxHeartbeats 2000000 in
theorem barr_any {L L' : List C} {o : O} (A : Ats w0 w ((hp, L) :: M) K) (a : Option Addr) (n cap : Nat) (zs : List O) (hn : zs.length = n) (hc : n ≤ cap)
 (hrow : 0 < n → ∃ g cur fz, a = some ⟨g, 0, none⟩ ∧ (g, Obj.cells cur 49 fz) ∈ K ∧ ∀ i x, zs[i]? = some x → ∀ j, j < 6 → cur[i * 6 + j]? = x.cells[j]?) (hr : arrB L zs = (L', o, e)) :
 Calls Tryz.prog 41 #[ptr hp, .slice a n cap] w fun r w' => r = .returned (.tuple #[o.val, .int .i64 e]) ∧ Ats w0 w' ((hp, L') :: M) K := by
 obtain ⟨L1, o1, e1, ha⟩ : ∃ L1 o1 e1, arrayH L (n : Int) = (L1, o1, e1) := ⟨_, _, _, rfl⟩
 have hr2 : (if e1 = 0 then (setsB L1 o1 zs n, { o1 with exec := true }, 0) else (L1, O.nil, e1)) = (L', o, e) := by
  rw [← hr]; unfold arrB; rw [hn, ha]
 have hle : e1 = 0 → n ≤ 40000 := fun h => by
  subst h; unfold arrayH at ha; split at ha
  · simp at ha
  · omega
 clear hr; have HAR := hid' (fun W K' (A : Ats w0 W ((hp, L) :: M) K') => at_array A (n : Int) ha); have HN := hid' hn; have HROW := hid' hrow; clear hn hrow ha; have A1 := A.alloc (Obj.cells #[.int .i64 0, .bool false, .int .i64 0, .int .i64 0, .int .i64 0, .string ⟨#[]⟩] 49); generalize hg : w.heap.size = b4 at *; go_enter Tryz.func41, Tryz.ntmps41
 go_upto_region 1 with (fail)
 generalize hW : w.alloc _ = w1 at *; clear hW hg A; go_wp2_with fail
 refine (HAR.out _ _ A1).mono ?_; rintro r w2 ⟨rfl, A2⟩; clear HAR A1; obtain ⟨ok, ox, on, op, ol, os⟩ := o1; have A3 := A2.alloc (Obj.cells #[.int .i64 ok, .bool ox, .int .i64 on, .int .i64 op, .int .i64 ol, .string os] 49); generalize hg : w2.heap.size = b6 at *
 go_upto_region 2 with (fail)
 generalize hW : w2.alloc _ = w3 at *; clear hW hg A2
 by_cases he : e1 = 0
 · subst he; rw [if_pos rfl] at hr2; simp only [Prod.mk.injEq] at hr2; obtain ⟨rfl, rfl, rfl⟩ := hr2
   have hni : (n : Int) ≤ 40000 := by have := hle rfl; omega
   clear hle
   (try clear Ra); (try clear ya); (try clear Za)
   have Ra := cells_of (A3.box _ m0); have ya := blk_lt (A3.box _ m0)
   (try simp only at Ra ya)
   have S0 : Ats w0 w3 ((hp, setsB L1 ⟨ok, ox, on, op, ol, os⟩ zs 0) :: M) ((b6, Obj.cells #[.int .i64 ok, .bool ox, .int .i64 on, .int .i64 op, .int .i64 ol, .string os] 49) :: (b4, Obj.cells #[.int .i64 0, .bool false, .int .i64 0, .int .i64 0, .int .i64 0, .string ⟨#[]⟩] 49) :: K) := A3
   have hcn : (n : Int) ≤ cap := by omega
   go_upto_region 5 with (fail)
   clear Ra ya A3; go_wp2_with fail
   go_loopw [23] (fun cv wr => ∃ j : Nat, j ≤ n ∧ cv = .int .i64 j ∧ Ats w0 wr ((hp, setsB L1 ⟨ok, ox, on, op, ol, os⟩ zs j) :: M) ((b6, Obj.cells #[.int .i64 ok, .bool ox, .int .i64 on, .int .i64 op, .int .i64 ol, .string os] 49) :: (b4, Obj.cells #[.int .i64 0, .bool false, .int .i64 0, .int .i64 0, .int .i64 0, .string ⟨#[]⟩] 49) :: K)) (fun cv _ => n - (intOf cv).toNat)
   case atStart => exact ⟨0, Nat.zero_le _, rfl, S0⟩
   case round =>
   obtain ⟨j, hj, rfl, S1⟩ := hrel; clear S0
   by_cases hlt : j < n
   · have dj : (j : Int) < n := by omega
     have d0 : (0 : Int) ≤ j := by omega
     have v1 := IntWalk.i64_in ((j : Int) + 1) (by omega); obtain ⟨g, cur, fz, rfl, mg, hcur⟩ := HROW.out (by omega)
     obtain ⟨x, hx⟩ : ∃ x, zs[j]? = some x := ⟨_, List.getElem?_eq_getElem (by rw [HN.out]; exact hlt)⟩
     have h6 := hcur j x hx; have q0 := h6 0 (by decide); have q1 := h6 1 (by decide); have q2 := h6 2 (by decide); have q3 := h6 3 (by decide); have q4 := h6 4 (by decide); have q5 := h6 5 (by decide); simp only [O.cells, List.getElem?_cons_zero, List.getElem?_cons_succ, Nat.add_zero] at q0 q1 q2 q3 q4 q5; have HSE := hid' (setsB_succ L1 ⟨ok, ox, on, op, ol, os⟩ zs j); rw [show zs.getD j O.nil = x by rw [List.getD_eq_getElem?_getD, hx]; rfl] at HSE; have HST := hid' (fun W K' (A : Ats w0 W ((hp, setsB L1 ⟨ok, ox, on, op, ol, os⟩ zs j) :: M) K') => at_set A ⟨ok, ox, on, op, ol, os⟩ (j : Int) x (L' := (setH (setsB L1 ⟨ok, ox, on, op, ol, os⟩ zs j) ⟨ok, ox, on, op, ol, os⟩ (j : Int) x).1) (e := (setH (setsB L1 ⟨ok, ox, on, op, ol, os⟩ zs j) ⟨ok, ox, on, op, ol, os⟩ (j : Int) x).2) rfl); rw [← HSE.out] at HST; generalize (setH (setsB L1 ⟨ok, ox, on, op, ol, os⟩ zs j) ⟨ok, ox, on, op, ol, os⟩ (j : Int) x).2 = se at *; obtain ⟨xk, xx, xn, xp, xl, xs⟩ := x; simp only at q0 q1 q2 q3 q4 q5; clear h6 hcur hx
     (try clear Ro); (try clear yo); (try clear Zo)
     have Ro := cells_of (S1.box _ m0); have yo := blk_lt (S1.box _ m0)
     (try clear Rg); (try clear yg); (try clear Zg)
     have Rg := cells_of (S1.box _ (List.mem_cons_of_mem _ (List.mem_cons_of_mem _ mg))); have yg := blk_lt (S1.box _ (List.mem_cons_of_mem _ (List.mem_cons_of_mem _ mg)))
     (try simp only at Ro yo Rg yg)
     have S2 := S1.alloc (Obj.cells #[.int .i64 xk, .bool xx, .int .i64 xn, .int .i64 xp, .int .i64 xl, .string xs] 49); generalize hg : wr.heap.size = b9 at *
     go_upto_region 7 with (fail)
     generalize hW : wr.alloc _ = w4 at *; clear hW hg S1 Ro yo Rg yg q0 q1 q2 q3 q4 q5
     (try clear Rx); (try clear yx); (try clear Zx)
     have Rx := cells_of (S2.box _ m0); have yx := blk_lt (S2.box _ m0)
     (try clear Ro); (try clear yo); (try clear Zo)
     have Ro := cells_of (S2.box _ m1); have yo := blk_lt (S2.box _ m1)
     (try simp only at Rx yx Ro yo)
     go_wp2_with fail
     refine (HST.out _ _ S2).mono ?_; rintro r w5 ⟨rfl, S3⟩; have S4 := S3.keep (List.sublist_cons_self _ _); clear S2 S3 Rx yx Ro yo; go_wp2_with fail
     go_roundw
     case rel => exact ⟨j + 1, by omega, by go_num, S4⟩
     case measure => simp [intOf]; omega
   · obtain rfl : j = n := by omega
     (try clear Ro); (try clear yo); (try clear Zo)
     have Ro := cells_of (S1.box _ m0); have yo := blk_lt (S1.box _ m0); have Zo := free_of (S1.box _ m0)
     (try clear Rb); (try clear yb); (try clear Zb)
     have Rb := cells_of (S1.box _ m1); have yb := blk_lt (S1.box _ m1); have Zb := free_of (S1.box _ m1)
     (try simp only at Ro yo Zo Rb yb Zb)
     have S2 : Ats w0 (wr.setCell ⟨b6, 1, none⟩ (.bool true)) ((hp, setsB L1 ⟨ok, ox, on, op, ol, os⟩ zs j) :: M) ((b4, Obj.cells #[.int .i64 0, .bool false, .int .i64 0, .int .i64 0, .int .i64 0, .string ⟨#[]⟩] 49) :: (b6, Obj.cells #[.int .i64 ok, .bool true, .int .i64 on, .int .i64 op, .int .i64 ol, .string os] 49) :: K) := (S1.put 1 (.bool true)).perm (List.Perm.swap _ _ _)
     go_upto_region 10 with (fail)
     generalize wr.setCell _ _ = w6 at *; clear S1 Ro yo Zo Rb yb Zb
     (try clear Rb); (try clear yb); (try clear Zb)
     have Rb := cells_of (S2.box _ m0); have yb := blk_lt (S2.box _ m0); have Zb := free_of (S2.box _ m0)
     (try clear Ro); (try clear yo); (try clear Zo)
     have Ro := cells_of (S2.box _ m1); have yo := blk_lt (S2.box _ m1)
     (try simp only at Rb yb Zb Ro yo)
     go_wp2_with fail
     have S3 := S2.putO ok true on op ol os; have R3 := cells_of (S3.box _ m0); refine bodyPost_ret (v := .tuple #[O.val ⟨ok, true, on, op, ol, os⟩, .int .i64 0]) ?_ rfl ⟨rfl, S3.keep ((List.sublist_cons_self _ _).trans (List.sublist_cons_self _ _))⟩; simp [results, Tryz.results41, go_sem, R3]
 · rw [if_neg he] at hr2; simp only [Prod.mk.injEq] at hr2; obtain ⟨rfl, rfl, rfl⟩ := hr2
   have he' : decide (e1 = 0) = false := by simp [he]
   (try clear Rb); (try clear yb); (try clear Zb)
   have Rb := cells_of (A3.box _ m1); have yb := blk_lt (A3.box _ m1); have Zb := free_of (A3.box _ m1)
   (try simp only at Rb yb Zb)
   go_wp2_with fail
   have S3 := (A3.perm (List.Perm.swap _ _ _)).putO 0 false 0 0 0 ⟨#[]⟩; have R3 := cells_of (S3.box _ m0); refine bodyPost_ret (v := .tuple #[O.val O.nil, .int .i64 e1]) ?_ rfl ⟨rfl, S3.keep ((List.sublist_cons_self _ _).trans (List.sublist_cons_self _ _))⟩; simp [results, Tryz.results41, go_sem, R3, O.nil]
theorem Tryz.infoRowsB : (Tryz.prog.info? 44).map (fun i => (i.zero, i.size, i.bytes)) = some (some (.slice none 0 0), 1, 24) := by kernel_rfl
theorem Tryz.underRowsB : Tryz.prog.underlying 137 = some (.slice 44) := by kernel_rfl
theorem Tryz.infoIntB : (Tryz.prog.info? 3).map (fun i => (i.zero, i.size, i.bytes)) = some (some (.int .i64 0), 1, 8) := by kernel_rfl
theorem Tryz.underIntsB : Tryz.prog.underlying 138 = some (.slice 3) := by kernel_rfl
def AnyB (w0 : World) (M : List (Nat × List C)) (KL : List (Nat × Obj)) (W : World) : Prop := Ats w0 W M KL
theorem AnyB.drew (h : AnyB w0 M KL W) : AnyB w0 M KL W.drew := Ats.drew h
theorem AnyB.grow (h : AnyB w0 M KL W) (o : Obj) : AnyB w0 M KL (W.alloc o) := Ats.pure h ((Chg.refl NoB W).alloc o)
theorem AnyB.cells {cs : Array Value} (hm : (g, Obj.cells cs T fz) ∈ KL) : ∀ W, AnyB w0 M KL W → ∀ i, W.cell? ⟨g, i, none⟩ = cs[i]? :=
 fun _W h => cells_of (Ats.box h _ hm)
theorem stepB_app {ops : Array Oper} {o : Oper} {a : Act} {Q : Act → World → Prop} {Q' : Exit → Act → World → Prop} {E : Prop} (hgd : o.guard = none) (s x : Operand) (t : TypeId)
 (ho : o.op = .call { callee := .builtin .append, args := #[s, x], argTypes := #[t, t] })
 (T : TypeId) (i : TypeInfo) (z : Value) (size bytes : Nat) (ht : Tryz.prog.underlying t = some (.slice T)) (hi : Tryz.prog.info? T = some i) (hz : i.zero = some z)
 (hsize : i.size = size) (hby : i.bytes = bytes) (hzs : z.cells.size = size) (hsz : 0 < size)
 {w0 : World} {M : List (Nat × List C)} (R K : List (Nat × Obj)) (v : Value) (n : Nat) (xs : List Value) (A : Ats w0 w M (R ++ K)) (hR : RowG T size R v n xs) (hs : a.eval s = v)
 (ad : Addr) (m c : Nat) (news : List Value) (hx : a.eval x = .slice (some ad) m c) (hl : news.length = m * size) (hnews : ∀ j u, news[j]? = some u → w.cell? (ad.add j) = some u) (h1 : ∀ u ∈ news, u.oneCell' = true)
 (hm : 0 < m) (h63 : n + m ≤ maxLen) (hbytes : (n + m) * bytes ≤ 140737488355328)
 (h : ∀ g cap w' R', RowG T size R' (.slice (some ⟨g, 0, none⟩) (n + m) cap) (n + m) (xs ++ news) → Ats w0 w' M (R' ++ K) → Q (a.put o.dst (.slice (some ⟨g, 0, none⟩) (n + m) cap)) w') :
 if Region.wanted o (yielded ops a.tmps) = true then Oper.wp Tryz.prog o a w Q Q' else E := by
 refine step_append_lies w hgd s x t ho w0.heap.size T i z size bytes ht hi hz hsize hby hzs hsz v n xs hs (Ats.ownsG A hR) ad m c news hx hl hnews h1 hm h63 hbytes A.chg.size _ rfl ?_; intro g cap w' hown hgr hg hgl
 obtain ⟨R', hR', A'⟩ := Ats.grownG A hR hown hgr (by
  rcases hg with e | e
  · exact .inl (by rw [e]; simp [Value.ownBlock])
  · exact .inr (by simp [Value.ownBlock, e])) hm
 exact h g cap w' R' hR' A'
theorem newsB_take {cur : Array Value} (hb : w.heap[g]? = some (.cells cur T fz)) (n : Nat) (xs : List Value) (hx : cur.toList.take n = xs) : ∀ j u, xs[j]? = some u → w.cell? ((⟨g, 0, none⟩ : Addr).add j) = some u := by
 intro j u hj; refine World.news_of_block hb j u ?_; rw [← hx, List.getElem?_take] at hj; split at hj
 · exact hj
 · simp at hj
theorem newsB_all {cs : List Value} (hb : w.heap[g]? = some (.cells cs.toArray T fz)) : ∀ j u, cs[j]? = some u → w.cell? ((⟨g, 0, none⟩ : Addr).add j) = some u := newsB_take hb cs.length cs (by simp)
theorem flatB_at (l : List O) (m j : Nat) (o : O) (h : l[m]? = some o) (hj : j < 6) : (l.flatMap O.cells)[m * 6 + j]? = o.cells[j]? := by
 rw [flat_get O.cells 6 cells_length j hj, h]; rfl
theorem takeB_set {α : Type} (cur : Array α) (k n : Nat) (v : α) : (cur.setIfInBounds k v).toList.take n = (cur.toList.take n).set k v := by
 rw [Array.toList_setIfInBounds, List.take_set]
inductive Rows : List (Nat × Obj) → List Value → List (List O) → Prop
 | nil : Rows [] [] []
 | cons {R RR : List (Nat × Obj)} {v : Value} {vs : List Value} {l : List O} {ls : List (List O)} : RowG 49 6 R v l.length (l.flatMap O.cells) → Rows RR vs ls → Rows (R ++ RR) (v :: vs) (l :: ls)
theorem Rows.length {RR : List (Nat × Obj)} {vs : List Value} {ls : List (List O)} (h : Rows RR vs ls) : vs.length = ls.length := by
 induction h with
 | nil => rfl
 | cons _ _ ih => simp [ih]
abbrev lsBox (v : Value) : Obj := .cells #[v] 137
abbrev bgBox (v : Value) : Obj := .cells #[v] 138
abbrev hpBox (hp : Nat) : Obj := .cells #[ptr hp] 51
def BAt (w0 w : World) (M : List (Nat × List C)) (K : List (Nat × Obj)) (hp bh bl bb : Nat) (ls : List (List O)) (bg : List Int) : Prop :=
 ∃ RR vs RL vl RB vb, Rows RR vs ls ∧ RowG 44 1 RL vl ls.length vs.reverse ∧ RowG 3 1 RB vb bg.length (bg.reverse.map (.int .i64 ·)) ∧
  Ats w0 w M (RR ++ (RL ++ (RB ++ (bl, lsBox vl) :: (bb, bgBox vb) :: (bh, hpBox hp) :: K)))
theorem BAt.pure {w' : World} {ls : List (List O)} {bg : List Int} (S : BAt w0 w M K hp bh bl bb ls bg) (X : Chg NoB w w') : BAt w0 w' M K hp bh bl bb ls bg := by
 obtain ⟨RR, vs, RL, vl, RB, vb, h1, h2, h3, A⟩ := S; exact ⟨RR, vs, RL, vl, RB, vb, h1, h2, h3, A.pure X⟩
set_option maxRecDepth 100000 in
set_option maxHeartbeats 4000000 in
theorem bput_any {l : List O} {ls : List (List O)} {bg : List Int} (S : BAt w0 w M K hp bh bl bb (l :: ls) bg) (x : O) (hl : l.length ≤ 100000) (hls : ls.length ≤ 1000) :
 Calls Tryz.prog 65 #[x.val, ptr bl] w fun r w' => r = .returned (.tuple #[]) ∧ BAt w0 w' M K hp bh bl bb ((l ++ [x]) :: ls) bg := by
 obtain ⟨RR0, vs0, RL, vl, RB, vb, hrows, hRL, hRB, A⟩ := S
 cases hrows with
 | @cons R RR v vs _ _ hR hRR =>
 have hvl := hRR.length
 obtain ⟨n, hn⟩ : ∃ n, ls.length = n := ⟨_, rfl⟩
 rw [hn] at hvl
 rcases hRL with ⟨-, h0, -⟩ | ⟨gL, capL, curL, rfl, rfl, c1, c2, c3, c4, c5⟩
 · simp at h0
 simp only [List.length_cons, hn, Nat.mul_one, List.reverse_cons] at c1 c3 c4 c5
 have cv : curL[n]? = some v := by
  have h := congrArg (fun z => z[n]?) c4; simp only [List.getElem?_take_of_lt (Nat.lt_succ_self n), Array.getElem?_toList] at h; rw [h, List.getElem?_append_right (by simp [hvl])]; simp [hvl]
 obtain ⟨q, hq⟩ : ∃ q, n + 1 = q := ⟨_, rfl⟩
 simp only [List.length_cons, hn, hq] at A; rw [hq] at c1 c4 c5
 obtain ⟨KT, hKT⟩ : ∃ KT, KT = RR ++ (RB ++ (bl, lsBox (.slice (some ⟨gL, 0, none⟩) q capL)) :: (bb, bgBox vb) :: (bh, hpBox hp) :: K) := ⟨_, rfl⟩
 have A0 : Ats w0 w M (R ++ ((gL, Obj.cells curL 44) :: KT)) := A.perm (by
  rw [hKT]
  classical refine List.perm_iff_count.2 fun z => ?_
  simp only [List.count_append, List.count_cons, List.count_nil]
  omega)
 have mbl : (bl, lsBox (.slice (some ⟨gL, 0, none⟩) q capL)) ∈ KT := by rw [hKT]; simp
 obtain ⟨xk, xx, xn, xp, xl, xs⟩ := x; have A1 := A0.alloc (Obj.cells #[.int .i64 xk, .bool xx, .int .i64 xn, .int .i64 xp, .int .i64 xl, .string xs] 49); generalize hg : w.heap.size = bx at *
 have A2 : Ats w0 (w.alloc (Obj.cells #[.int .i64 xk, .bool xx, .int .i64 xn, .int .i64 xp, .int .i64 xl, .string xs] 49)) M (R ++ ((gL, Obj.cells curL 44) :: ((bx, Obj.cells #[.int .i64 xk, .bool xx, .int .i64 xn, .int .i64 xp, .int .i64 xl, .string xs] 49) :: KT))) := A1.perm (by
  classical refine List.perm_iff_count.2 fun z => ?_
  simp only [List.count_append, List.count_cons]
  omega)
 obtain ⟨KX, hKX⟩ : ∃ KX, KX = (bx, Obj.cells #[.int .i64 xk, .bool xx, .int .i64 xn, .int .i64 xp, .int .i64 xl, .string xs] 49) :: KT := ⟨_, rfl⟩
 rw [← hKX] at A2
 have mbl' : (bl, lsBox (.slice (some ⟨gL, 0, none⟩) q capL)) ∈ KX := by rw [hKX]; exact List.mem_cons_of_mem _ mbl
 have mbx : (bx, Obj.cells #[.int .i64 xk, .bool xx, .int .i64 xn, .int .i64 xp, .int .i64 xl, .string xs] 49) ∈ KX := by rw [hKX]; exact m0
 have hSub : KX.Sublist (R ++ ((gL, Obj.cells curL 44) :: KX)) := (List.sublist_cons_self _ _).trans (List.sublist_append_right _ _); have mgL : (gL, Obj.cells curL 44) ∈ R ++ ((gL, Obj.cells curL 44) :: KX) := List.mem_append_right _ m0
 have q1 : (q : Int) - 1 = n := by omega
 have qn := IntWalk.i64_in (n : Int) (by omega)
 have n0 : (0 : Int) ≤ n := by omega
 have nq : (n : Int) < q := by omega
 have HQ := hid' (And.intro hq (And.intro hn hvl)); have HL := hid' hl; have HR := hid' hR; have HRR := hid' hRR; have HRB := hid' hRB; have HKT := hid' hKT; have HKX := hid' hKX; have HC := hid' (And.intro c1 (And.intro c2 (And.intro c3 (And.intro c4 c5))))
 obtain ⟨m, hm⟩ : ∃ m, l.length = m := ⟨_, rfl⟩
 rw [hm] at HR HL; have HM := hid' hm; obtain ⟨i0, hi, hz0, hz1, hz2⟩ := info_parts Tryz.infoObj; clear c1 c2 c3 c4 c5 hR hRR hRB hKT hKX hvl hn hq A0 A1 mbl hls hl hm A; go_enter Tryz.func65, Tryz.ntmps65
 go_upto_region 1 with (fail)
 generalize hW : w.alloc _ = w1 at *; clear hW hg; have Rb := cells_of (A2.box _ (hSub.subset mbl')); have yb := blk_lt (A2.box _ (hSub.subset mbl')); have Rg := cells_of (A2.box _ mgL); have yg := blk_lt (A2.box _ mgL); simp only at yb yg
 go_upto_region 2 with (fail)
 clear Rb; have hS1 : AnyB w0 M KX w1 := A2.keep hSub; have QB := AnyB.cells (w0 := w0) (M := M) mbl'; have QX := AnyB.cells (w0 := w0) (M := M) mbx; have HPUT := hid' (fun (W : World) (R8 : List (Nat × Obj)) (vv : Value) (A8 : Ats w0 W M (R8 ++ ((gL, Obj.cells curL 44) :: KX))) => (((A8.perm List.perm_middle).put n vv).perm List.perm_middle.symm : Ats w0 (W.setCell ⟨gL, n, none⟩ vv) M (R8 ++ ((gL, Obj.cells (curL.setIfInBounds n vv) 44) :: KX))))
 have HFIN := hid' (fun (W : World) (R8 : List (Nat × Obj)) (g2 cap2 : Nat) (hR8 : RowG 49 6 R8 (.slice (some ⟨g2, 0, none⟩) (m + 1) cap2) (m + 1) (l.flatMap O.cells ++ O.cells ⟨xk, xx, xn, xp, xl, xs⟩)) (A8 : Ats w0 W M (R8 ++ ((gL, Obj.cells curL 44) :: KX))) => (show BAt w0 (W.setCell ⟨gL, n, none⟩ (.slice (some ⟨g2, 0, none⟩) (m + 1) cap2)) M K hp bh bl bb ((l ++ [⟨xk, xx, xn, xp, xl, xs⟩]) :: ls) bg by
  obtain ⟨d1, d2, d3, d4, d5⟩ := HC.out; obtain ⟨e1, e2, e3⟩ := HQ.out
  have hlen : (l ++ [(⟨xk, xx, xn, xp, xl, xs⟩ : O)]).length = m + 1 := by rw [List.length_append, HM.out]; rfl
  have hRow : RowG 49 6 R8 (.slice (some ⟨g2, 0, none⟩) (m + 1) cap2) (l ++ [(⟨xk, xx, xn, xp, xl, xs⟩ : O)]).length ((l ++ [(⟨xk, xx, xn, xp, xl, xs⟩ : O)]).flatMap O.cells) := by
   rw [hlen, List.flatMap_append, List.flatMap_cons, List.flatMap_nil, List.append_nil]; exact hR8
  have hq2 : ((l ++ [(⟨xk, xx, xn, xp, xl, xs⟩ : O)]) :: ls).length = q := by rw [List.length_cons, e2, e1]
  refine ⟨R8 ++ RR, _ :: vs, [(gL, Obj.cells (curL.setIfInBounds n (.slice (some ⟨g2, 0, none⟩) (m + 1) cap2)) 44)], .slice (some ⟨gL, 0, none⟩) q capL, RB, vb, .cons hRow HRR.out, ?_, HRB.out, ?_⟩
  · rw [hq2]; refine .inr ⟨gL, capL, _, rfl, rfl, d1, d2, by rw [Array.size_setIfInBounds, d3, Nat.mul_one], ?_, by simp [e3, e1]⟩; rw [Nat.mul_one, takeB_set, d4, List.set_append_right _ _ (by simp [e3])]; simp [e3]
  · refine ((HPUT.out _ _ (.slice (some ⟨g2, 0, none⟩) (m + 1) cap2) A8).perm (K' := (bx, Obj.cells #[.int .i64 xk, .bool xx, .int .i64 xn, .int .i64 xp, .int .i64 xl, .string xs] 49) :: _) ?_).keep (List.sublist_cons_self _ _); rw [HKX.out, HKT.out]
    classical refine List.perm_iff_count.2 fun z => ?_
    simp only [List.count_append, List.count_cons, List.count_nil]
    omega))
 have HA := hid' A2; clear A2; refine wp_region_held_drew (S := fun W' => AnyB w0 M KX W') (by kernel_rfl) hS1.drew (fun hHeld => ?_); refine wpAnyH_take (i := 0) (oi := { dst := some 7, op := _, type := _, pos := _, after := _, guard := _ }) (v := ?_) rfl (by kernel_rfl) (by kernel_rfl) (by kernel_rfl) (fun _ _ _ h => h) (Or.inl ⟨by rfl, ?_⟩) (by assumption) ?_; rotate_left
 · intro w hSw; go_simp; try with_reducible rfl
 try simp only [Act.put, List.setIfInBounds_toArray, List.set_cons_zero, List.set_cons_succ]
 refine wpAnyH_take (i := 1) (oi := { dst := some 8, op := _, type := _, pos := _, after := _, guard := _ }) (v := ?_) rfl (by kernel_rfl) (by kernel_rfl) (by kernel_rfl) (fun _ _ _ h => h) (Or.inl ⟨by rfl, ?_⟩) (by assumption) ?_; rotate_left
 · intro w hSw; go_simp; try with_reducible rfl
 try simp only [Act.put, List.setIfInBounds_toArray, List.set_cons_zero, List.set_cons_succ]
 refine wpAnyH_take (i := 2) (oi := { dst := some 9, op := _, type := _, pos := _, after := _, guard := _ }) (v := ?_) rfl (by kernel_rfl) (by kernel_rfl) (by kernel_rfl) (fun _ _ _ h => h) (Or.inl ⟨by rfl, ?_⟩) (by assumption) ?_; rotate_left
 · intro w hSw; go_simp; try with_reducible rfl
 try simp only [Act.put, List.setIfInBounds_toArray, List.set_cons_zero, List.set_cons_succ]
 refine wpAnyH_take (i := 3) (oi := { dst := some 10, op := _, type := _, pos := _, after := _, guard := _ }) (v := ?_) rfl (by kernel_rfl) (by kernel_rfl) (by kernel_rfl) (fun _ _ _ h => h) (Or.inl ⟨by rfl, ?_⟩) (by assumption) ?_; rotate_left
 · intro w hSw; go_simp; try with_reducible rfl
 try simp only [Act.put, List.setIfInBounds_toArray, List.set_cons_zero, List.set_cons_succ]
 refine wpAnyH_take (i := 4) (oi := { dst := some 11, op := _, type := _, pos := _, after := _, guard := _ }) (v := ?_) rfl (by kernel_rfl) (by kernel_rfl) (by kernel_rfl) (fun _ _ _ h => h) (Or.inl ⟨by rfl, ?_⟩) (by assumption) ?_; rotate_left
 · intro w hSw; go_simp; try with_reducible rfl
 try simp only [Act.put, List.setIfInBounds_toArray, List.set_cons_zero, List.set_cons_succ]
 refine wpAnyH_take (i := 6) (oi := { dst := some 13, op := _, type := _, pos := _, after := _, guard := _ }) (v := ?_) rfl (by kernel_rfl) (by kernel_rfl) (by kernel_rfl) (fun _ _ _ h => h) (Or.inl ⟨by rfl, ?_⟩) (by assumption) ?_; rotate_left
 · intro w hSw; go_simp; try with_reducible rfl
 try simp only [Act.put, List.setIfInBounds_toArray, List.set_cons_zero, List.set_cons_succ]
 refine wpAnyH_ready (rs := [5, 7]) (by kernel_rfl) (by simp) ?_; refine AllReadyH.cons (o := { dst := some 12, op := _, type := _, pos := _, after := _, guard := _ }) rfl (fun K' hK' => ?_) (AllReadyH.cons (o := { dst := some 14, op := _, type := _, pos := _, after := _, guard := _ }) rfl (fun K' hK' => ?_) AllReadyH.nil)
 · go_simp
   refine hK'.out _ _ ?_ (fun hHeld2 => ?_)
   · with_reducible assumption
   clear hK' K'
   try simp only [Act.put, List.setIfInBounds_toArray, List.set_cons_zero, List.set_cons_succ]
   refine wpAnyH_ready (rs := [7]) (by kernel_rfl) (by simp) ?_; refine AllReadyH.cons (o := { dst := some 14, op := _, type := _, pos := _, after := _, guard := _ }) rfl (fun K' hK' => ?_) AllReadyH.nil; go_simp
   refine hK'.out _ _ ?_ (fun hHeld2 => ?_)
   · exact AnyB.grow (by assumption) _
   clear hK' K'
   try simp only [Act.put, List.setIfInBounds_toArray, List.set_cons_zero, List.set_cons_succ]
   refine wpAnyH_ready (rs := [8]) (by kernel_rfl) (by simp) ?_; refine AllReadyH.cons (o := { dst := some 15, op := _, type := _, pos := _, after := _, guard := _ }) rfl (fun K' hK' => ?_) AllReadyH.nil; refine stepB_app rfl (.tmp 12) (.tmp 14) 44 rfl 49 i0 O.nil.val 6 56 Tryz.underObjs hi hz0 hz1 hz2 rfl (by decide) R ((gL, Obj.cells curL 44) :: KX) v m (l.flatMap O.cells) (by first | exact HA.out.pure ((Chg.refl NoB w1).alloc _) | exact HA.out.pure (((Chg.refl NoB w1).alloc _).drew) | exact HA.out.pure (((Chg.refl NoB w1).drew).alloc _)) HR.out rfl ⟨w1.heap.size, 0, none⟩ 1 1 (O.cells (⟨xk, xx, xn, xp, xl, xs⟩ : O)) rfl rfl (newsB_all (T := 49) (fz := (0, 0)) (by first | exact blk_new w1 _ | exact blk_drew (blk_new w1 _) | exact blk_new w1.drew _)) (one6 _) (by decide) (by have := HL.out; unfold maxLen; omega) (by have := HL.out; omega) ?_; intro g2 cap2 w8 R8 hR8 A8; have HR8 := hid' hR8; have HA8 := hid' A8; have Rg8 := cells_of (A8.box _ (List.mem_append_right R8 (m0 (a := (gL, Obj.cells curL 44)) (l := KX)))); have Zg8 := free_of (A8.box _ (List.mem_append_right R8 (m0 (a := (gL, Obj.cells curL 44)) (l := KX)))); have yg8 := blk_lt (A8.box _ (List.mem_append_right R8 (m0 (a := (gL, Obj.cells curL 44)) (l := KX)))); simp only at yg8; have t8 : AnyB w0 M KX w8 := A8.keep ((List.sublist_cons_self _ _).trans (List.sublist_append_right _ _)); clear hR8 A8; refine hK'.out _ _ ?_ (fun hHeld2 => ?_)
   · exact t8
   clear hK' K'
   try simp only [Act.put, List.setIfInBounds_toArray, List.set_cons_zero, List.set_cons_succ]
   refine wpAnyH_take (i := 9) (oi := { dst := some 16, op := _, type := _, pos := _, after := _, guard := _ }) (v := ?_) rfl (by kernel_rfl) (by kernel_rfl) (by kernel_rfl) (fun _ _ _ h => h) (Or.inl ⟨by rfl, ?_⟩) (by assumption) ?_; rotate_left
   · intro w hSw; go_simp; try with_reducible rfl
   try simp only [Act.put, List.setIfInBounds_toArray, List.set_cons_zero, List.set_cons_succ]
   refine wpAnyH_ready (rs := [10]) (by kernel_rfl) (by simp) ?_; refine AllReadyH.cons (o := { dst := none, op := _, type := _, pos := _, after := _, guard := _ }) rfl (fun K' hK' => ?_) AllReadyH.nil; go_simp
   refine hK'.out _ _ ?_ (fun hHeld2 => ?_)
   · exact (HPUT.out _ _ _ HA8.out).keep ((List.sublist_cons_self _ _).trans (List.sublist_append_right _ _))
   clear hK' K'
   try simp only [Act.put, List.setIfInBounds_toArray, List.set_cons_zero, List.set_cons_succ]
   refine wpAnyH_done (by kernel_rfl) ?_ _; go_wp2_with fail
   go_end0; exact ⟨rfl, HFIN.out _ _ _ _ HR8.out HA8.out⟩
 · go_simp
   refine hK'.out _ _ ?_ (fun hHeld2 => ?_)
   · exact AnyB.grow (by assumption) _
   clear hK' K'
   try simp only [Act.put, List.setIfInBounds_toArray, List.set_cons_zero, List.set_cons_succ]
   refine wpAnyH_ready (rs := [5]) (by kernel_rfl) (by simp) ?_; refine AllReadyH.cons (o := { dst := some 12, op := _, type := _, pos := _, after := _, guard := _ }) rfl (fun K' hK' => ?_) AllReadyH.nil; go_simp
   refine hK'.out _ _ ?_ (fun hHeld2 => ?_)
   · with_reducible assumption
   clear hK' K'
   try simp only [Act.put, List.setIfInBounds_toArray, List.set_cons_zero, List.set_cons_succ]
   refine wpAnyH_ready (rs := [8]) (by kernel_rfl) (by simp) ?_; refine AllReadyH.cons (o := { dst := some 15, op := _, type := _, pos := _, after := _, guard := _ }) rfl (fun K' hK' => ?_) AllReadyH.nil; refine stepB_app rfl (.tmp 12) (.tmp 14) 44 rfl 49 i0 O.nil.val 6 56 Tryz.underObjs hi hz0 hz1 hz2 rfl (by decide) R ((gL, Obj.cells curL 44) :: KX) v m (l.flatMap O.cells) (by first | exact HA.out.pure ((Chg.refl NoB w1).alloc _) | exact HA.out.pure (((Chg.refl NoB w1).alloc _).drew) | exact HA.out.pure (((Chg.refl NoB w1).drew).alloc _)) HR.out rfl ⟨w1.heap.size, 0, none⟩ 1 1 (O.cells (⟨xk, xx, xn, xp, xl, xs⟩ : O)) rfl rfl (newsB_all (T := 49) (fz := (0, 0)) (by first | exact blk_new w1 _ | exact blk_drew (blk_new w1 _) | exact blk_new w1.drew _)) (one6 _) (by decide) (by have := HL.out; unfold maxLen; omega) (by have := HL.out; omega) ?_; intro g2 cap2 w8 R8 hR8 A8; have HR8 := hid' hR8; have HA8 := hid' A8; have Rg8 := cells_of (A8.box _ (List.mem_append_right R8 (m0 (a := (gL, Obj.cells curL 44)) (l := KX)))); have Zg8 := free_of (A8.box _ (List.mem_append_right R8 (m0 (a := (gL, Obj.cells curL 44)) (l := KX)))); have yg8 := blk_lt (A8.box _ (List.mem_append_right R8 (m0 (a := (gL, Obj.cells curL 44)) (l := KX)))); simp only at yg8; have t8 : AnyB w0 M KX w8 := A8.keep ((List.sublist_cons_self _ _).trans (List.sublist_append_right _ _)); clear hR8 A8; refine hK'.out _ _ ?_ (fun hHeld2 => ?_)
   · exact t8
   clear hK' K'
   try simp only [Act.put, List.setIfInBounds_toArray, List.set_cons_zero, List.set_cons_succ]
   refine wpAnyH_take (i := 9) (oi := { dst := some 16, op := _, type := _, pos := _, after := _, guard := _ }) (v := ?_) rfl (by kernel_rfl) (by kernel_rfl) (by kernel_rfl) (fun _ _ _ h => h) (Or.inl ⟨by rfl, ?_⟩) (by assumption) ?_; rotate_left
   · intro w hSw; go_simp; try with_reducible rfl
   try simp only [Act.put, List.setIfInBounds_toArray, List.set_cons_zero, List.set_cons_succ]
   refine wpAnyH_ready (rs := [10]) (by kernel_rfl) (by simp) ?_; refine AllReadyH.cons (o := { dst := none, op := _, type := _, pos := _, after := _, guard := _ }) rfl (fun K' hK' => ?_) AllReadyH.nil; go_simp
   refine hK'.out _ _ ?_ (fun hHeld2 => ?_)
   · exact (HPUT.out _ _ _ HA8.out).keep ((List.sublist_cons_self _ _).trans (List.sublist_append_right _ _))
   clear hK' K'
   try simp only [Act.put, List.setIfInBounds_toArray, List.set_cons_zero, List.set_cons_succ]
   refine wpAnyH_done (by kernel_rfl) ?_ _; go_wp2_with fail
   go_end0; exact ⟨rfl, HFIN.out _ _ _ _ HR8.out HA8.out⟩
section
def AnyH (w0 : World) (KL : List (Nat × Obj)) (W : World) : Prop := ∃ M E, Ats w0 W M (E ++ KL)
section
variable {w0 W : World} {M : List (Nat × List C)} {E KL : List (Nat × Obj)}
theorem AnyH.of (A : Ats w0 W M (E ++ KL)) : AnyH w0 KL W := ⟨M, E, A⟩
theorem AnyH.drew (h : AnyH w0 KL W) : AnyH w0 KL W.drew := by obtain ⟨M, E, A⟩ := h; exact ⟨M, E, A.drew⟩
theorem AnyH.alloc (h : AnyH w0 KL W) (o : Obj) : AnyH w0 KL (W.alloc o) := by obtain ⟨M, E, A⟩ := h; exact ⟨M, _ :: E, A.alloc o⟩
theorem AnyH.cells {cs : Array Value} (hm : (g, Obj.cells cs T fz) ∈ KL) : ∀ W, AnyH w0 KL W → ∀ i, W.cell? ⟨g, i, none⟩ = cs[i]? := by
 rintro W ⟨M, E, A⟩; exact cells_of (A.box _ (List.mem_append_right _ hm))
end
def BG (w0 : World) (M : List (Nat × List C)) (KL : List (Nat × Obj)) (o : O) (e : Int) (s1 s2 : Value) (W : World) : Prop := ∃ b, s1 = ptr b ∧ s2 = .int .i64 e ∧ Ats w0 W M ((b, .cells o.cells.toArray 49) :: KL)
theorem BG.mk {b : Nat} {kk : Int} {kx : Bool} {kn kp kl : Int} {ks : ByteArray} (S : Ats w0 W M ((b, Obj.cells #[.int .i64 kk, .bool kx, .int .i64 kn, .int .i64 kp, .int .i64 kl, .string ks] 49) :: KL)) : BG w0 M KL ⟨kk, kx, kn, kp, kl, ks⟩ e (ptr b) (.int .i64 e) W := ⟨b, rfl, rfl, S⟩
set_option maxRecDepth 100000 in
set_option maxHeartbeats 4000000 in
theorem bshut_any {L L' : List C} {o : O} {l : List O} {ls : List (List O)} {b0 : Int} {bg : List Int} (S : BAt w0 w ((hp, L) :: M) K hp bh bl bb (l :: ls) (b0 :: bg)) (hr : arrB L l = (L', o, e)) (hls : ls.length ≤ 1000) (hbl : bg.length + 1 = ls.length) :
 Calls Tryz.prog 66 #[ptr bl, ptr bh, ptr bb] w fun r w' => r = .returned (.tuple #[o.val, .int .i64 e]) ∧ BAt w0 w' ((hp, L') :: M) K hp bh bl bb ls bg := by
 obtain ⟨RR0, vs0, RL, vl, RB, vb, hrows, hRL, hRB, A⟩ := S
 cases hrows with
 | @cons R RR v vs _ _ hR hRR =>
 have hne : bl ≠ bb := by
  have A' := A.keep (((List.sublist_append_right RB _).trans (List.sublist_append_right RL _)).trans (List.sublist_append_right (R ++ RR) _)); obtain ⟨h, h1, H, X0, D, F, k, nd⟩ := A'; rw [List.map_cons, List.nodup_cons] at nd; exact fun e => nd.1 (by rw [e]; exact List.mem_map.2 ⟨_, m0, rfl⟩)
 have hvl := hRR.length
 obtain ⟨n, hn⟩ : ∃ n, ls.length = n := ⟨_, rfl⟩
 rw [hn] at hvl hbl
 rcases hRL with ⟨-, h0, -⟩ | ⟨gL, capL, curL, rfl, rfl, c1, c2, c3, c4, c5⟩
 · simp at h0
 simp only [List.length_cons, hn, Nat.mul_one, List.reverse_cons] at c1 c3 c4 c5
 have cv : curL[n]? = some v := by
  have h := congrArg (fun z => z[n]?) c4; simp only [List.getElem?_take_of_lt (Nat.lt_succ_self n), Array.getElem?_toList] at h; rw [h, List.getElem?_append_right (by simp [hvl])]; simp [hvl]
 rcases hRB with ⟨-, h0, -⟩ | ⟨gB, capB, curB, rfl, rfl, d1, d2, d3, d4, d5⟩
 · simp at h0
 simp only [List.length_cons, hbl, Nat.mul_one] at d1 d3 d4 d5
 obtain ⟨q, hq⟩ : ∃ q, n + 1 = q := ⟨_, rfl⟩
 obtain ⟨p, hp'⟩ : ∃ p, bg.length = p := ⟨_, rfl⟩
 simp only [List.length_cons, hn, hq, hbl] at A; rw [hq] at c1 c4 c5
 obtain ⟨KT, hKT⟩ : ∃ KT, KT = R ++ (RR ++ ((gL, Obj.cells curL 44) :: (gB, Obj.cells curB 3) :: (bl, lsBox (.slice (some ⟨gL, 0, none⟩) q capL)) :: (bb, bgBox (.slice (some ⟨gB, 0, none⟩) n capB)) :: (bh, hpBox hp) :: K)) := ⟨_, rfl⟩
 have A0 : Ats w0 w ((hp, L) :: M) KT := A.perm (by
  rw [hKT]
  classical refine List.perm_iff_count.2 fun z => ?_
  simp only [List.count_append, List.count_cons, List.count_nil]
  omega)
 have A1 := A0.alloc (Obj.cells #[.int .i64 0, .bool false, .int .i64 0, .int .i64 0, .int .i64 0, .string ⟨#[]⟩] 49); generalize hg : w.heap.size = b3 at *
 obtain ⟨KX, hKX⟩ : ∃ KX, KX = (b3, Obj.cells #[.int .i64 0, .bool false, .int .i64 0, .int .i64 0, .int .i64 0, .string ⟨#[]⟩] 49) :: KT := ⟨_, rfl⟩
 rw [← hKX] at A1
 have m3 : (b3, Obj.cells #[.int .i64 0, .bool false, .int .i64 0, .int .i64 0, .int .i64 0, .string ⟨#[]⟩] 49) ∈ KX := by rw [hKX]; exact m0
 have mbl : (bl, lsBox (.slice (some ⟨gL, 0, none⟩) q capL)) ∈ KX := by rw [hKX, hKT]; simp
 have mbb : (bb, bgBox (.slice (some ⟨gB, 0, none⟩) n capB)) ∈ KX := by rw [hKX, hKT]; simp
 have mbh : (bh, hpBox hp) ∈ KX := by rw [hKX, hKT]; simp
 have mgL : (gL, Obj.cells curL 44) ∈ KX := by rw [hKX, hKT]; simp
 obtain ⟨av, cv', hv, hcv⟩ := rowG_slice hR
 have hrow : 0 < l.length → ∃ g cur fz, av = some ⟨g, 0, none⟩ ∧ (g, Obj.cells cur 49 fz) ∈ KX ∧ ∀ i x, l[i]? = some x → ∀ j, j < 6 → cur[i * 6 + j]? = x.cells[j]? := fun h0 => by
  obtain ⟨g, cap, cur, e1, e2, e3⟩ := hR.shape h0; rw [hv] at e1; simp only [Value.slice.injEq] at e1; refine ⟨g, cur, (0, 0), e1.1, by rw [hKX, hKT, e2]; exact List.mem_cons_of_mem _ (List.mem_append_left _ m0), fun i x hx j hj => ?_⟩; have hi : i < l.length := (List.getElem?_eq_some_iff.1 hx).1; rw [e3 _ (by omega)]; exact flatB_at l i j x hx hj
 obtain ⟨m, hm⟩ : ∃ m, l.length = m := ⟨_, rfl⟩
 rw [hm] at hcv hrow hv; subst hv; have HAR := hid' (fun W E (A : Ats w0 W ((hp, L) :: M) (E ++ KX)) => barr_any A av m cv' l hm hcv (fun h => by obtain ⟨g, cur, fz, h1, h2, h3⟩ := hrow h; exact ⟨g, cur, fz, h1, List.mem_append_right _ h2, h3⟩) hr)
 have q1 : (q : Int) - 1 = n := by omega
 have p1 : (n : Int) - 1 = p := by omega
 have qn := IntWalk.i64_in (n : Int) (by omega); have pn := IntWalk.i64_in (p : Int) (by omega)
 have n0 : (0 : Int) ≤ n := by omega
 have p0 : (0 : Int) ≤ p := by omega
 have nq : (n : Int) < q := by omega
 have nc : (n : Int) ≤ capL := by omega
 have pc : (p : Int) ≤ capB := by omega
 have HF := hid' (fun W (A : Ats w0 W ((hp, L') :: M) ((bl, lsBox (.slice (some ⟨gL, 0, none⟩) n capL)) :: (bb, bgBox (.slice (some ⟨gB, 0, none⟩) p capB)) :: (gL, Obj.cells curL 44) :: (gB, Obj.cells curB 3) :: (RR ++ (bh, hpBox hp) :: K))) => (show BAt w0 W ((hp, L') :: M) K hp bh bl bb ls bg by
  refine ⟨RR, vs, [(gL, Obj.cells curL 44)], _, [(gB, Obj.cells curB 3)], _, hRR, .inr ⟨gL, capL, curL, rfl, rfl, by omega, c2, by omega, ?_, by rw [List.length_reverse, hvl, hn, Nat.mul_one]⟩, .inr ⟨gB, capB, curB, rfl, rfl, by omega, d2, by omega, ?_, by rw [List.length_map, List.length_reverse, hp', Nat.mul_one]⟩, ?_⟩
  · have h := congrArg (List.take n) c4; rw [List.take_take, Nat.min_eq_left (by omega), List.take_left' (by rw [List.length_reverse, hvl])] at h; rw [hn, Nat.mul_one, h]
  · have h := congrArg (List.take p) d4; rw [List.take_take, Nat.min_eq_left (by omega), List.reverse_cons, List.map_append, List.take_left' (by rw [List.length_map, List.length_reverse, hp'])] at h; rw [hp', Nat.mul_one, h]
  · rw [hn, hp']; refine A.perm ?_
    classical refine List.perm_iff_count.2 fun z => ?_
    simp only [List.count_append, List.count_cons, List.count_nil]
    omega))
 have HKX := hid' hKX; have HKT := hid' hKT; clear c1 c2 c3 c4 c5 d1 d2 d3 d4 d5 hR hRR hKX hKT hvl hq hbl hp' hls hm hcv hrow hr A0 A hn; obtain ⟨kk, kx, kn, kp, kl, ks⟩ := o; go_enter Tryz.func66, Tryz.ntmps66
 go_upto_region 1 with (fail)
 generalize hW : w.alloc _ = w1 at *; clear hW hg
 (try clear Rb); (try clear yb); (try clear Zb)
 have Rb := cells_of (A1.box _ mbl); have yb := blk_lt (A1.box _ mbl)
 (try simp only at Rb yb)
 go_upto_region 2 with (fail)
 clear Rb yb; have QL := AnyH.cells (w0 := w0) mbl; have QH := AnyH.cells (w0 := w0) mbh; have QG := AnyH.cells (w0 := w0) mgL; have ll := blk_lt (A1.box _ mbl); have lh := blk_lt (A1.box _ mbh); have lg := blk_lt (A1.box _ mgL); simp only at ll lh lg
 go_cut [6, 7] (fun s1 s2 wx => BG w0 ((hp, L') :: M) KX ⟨kk, kx, kn, kp, kl, ks⟩ e s1 s2 wx)
 case first =>
  have hY : AnyH w0 KX w1 := AnyH.of (E := []) A1; have E0 : Ats w0 w1.drew ((hp, L) :: M) ([] ++ KX) := A1.drew; have E1 : Ats w0 (w1.alloc (Obj.cells #[.int .i64 0, .bool false, .int .i64 0, .int .i64 0, .int .i64 0, .string ⟨#[]⟩] 49)).drew ((hp, L) :: M) ([(w1.heap.size, Obj.cells #[.int .i64 0, .bool false, .int .i64 0, .int .i64 0, .int .i64 0, .string ⟨#[]⟩] 49)] ++ KX) := (A1.alloc _).drew; have F0 : AnyH w0 KX w1.drew := AnyH.of E0; have F1 : AnyH w0 KX (w1.alloc (Obj.cells #[.int .i64 0, .bool false, .int .i64 0, .int .i64 0, .int .i64 0, .string ⟨#[]⟩] 49)).drew := AnyH.of E1; clear A1
  go_region_held3 (fun W' => AnyH w0 KX W') (first | (with_reducible assumption) | (with_reducible exact AnyH.alloc (by with_reducible assumption) _) | (with_reducible exact AnyH.drew (by with_reducible assumption)) | (with_reducible exact AnyH.drew (AnyH.alloc (by with_reducible assumption) _)))
   ((go_at_call 41; refine (HAR.out _ _ (by with_reducible assumption)).mono ?_; rintro r wb ⟨rfl, SB⟩; have hB0 := AnyH.of SB; (try simp only [List.cons_append, List.nil_append] at SB); (try have yz := blk_lt (SB.box _ m0)); (try simp only at yz); (try have Rz := cells_of (SB.box _ m0)); (try simp only at Rz); (try have Zz := free_of (SB.box _ m0)); (try simp only at Zz); (try (with_reducible have t1 := AnyH.of (E := [_]) (KL := KX) (SB.putO kk kx kn kp kl ks)))))
  all_goals
   go_wp2_with fail
   go_meet
  · have S9 := SB.alloc (Obj.cells #[.int .i64 kk, .bool kx, .int .i64 kn, .int .i64 kp, .int .i64 kl, .string ks] 49)
    with_reducible exact BG.mk S9
  · with_reducible exact BG.mk (SB.putO kk kx kn kp kl ks)
 case rest =>
 obtain ⟨b6, rfl, rfl, A2⟩ := hcut; have A2 : Ats w0 wc ((hp, L') :: M) ((b6, Obj.cells #[.int .i64 kk, .bool kx, .int .i64 kn, .int .i64 kp, .int .i64 kl, .string ks] 49) :: KX) := A2; clear A1 QL QH QG ll lh lg HAR
 (try clear Rl); (try clear yl); (try clear Zl)
 have Rl := cells_of (A2.box _ (List.mem_cons_of_mem _ mbl)); have yl := blk_lt (A2.box _ (List.mem_cons_of_mem _ mbl)); have Zl := free_of (A2.box _ (List.mem_cons_of_mem _ mbl))
 (try clear Rb); (try clear yb); (try clear Zb)
 have Rb := cells_of (A2.box _ (List.mem_cons_of_mem _ mbb)); have yb := blk_lt (A2.box _ (List.mem_cons_of_mem _ mbb)); have Zb := free_of (A2.box _ (List.mem_cons_of_mem _ mbb))
 (try simp only at Rl yl Zl Rb yb Zb)
 go_upto_region 3 with (fail)
 have hne' : bb ≠ bl := fun e => hne e.symm
 go_region
 have A3 := A2.perm (K' := (bl, lsBox (.slice (some ⟨gL, 0, none⟩) q capL)) :: (bb, bgBox (.slice (some ⟨gB, 0, none⟩) n capB)) :: (b6, Obj.cells #[.int .i64 kk, .bool kx, .int .i64 kn, .int .i64 kp, .int .i64 kl, .string ks] 49) :: (b3, Obj.cells #[.int .i64 0, .bool false, .int .i64 0, .int .i64 0, .int .i64 0, .string ⟨#[]⟩] 49) :: (gL, Obj.cells curL 44) :: (gB, Obj.cells curB 3) :: (R ++ (RR ++ (bh, hpBox hp) :: K))) (by
  rw [HKX.out, HKT.out]
  classical refine List.perm_iff_count.2 fun z => ?_
  simp only [List.count_append, List.count_cons]
  omega)
 have A4 := ((A3.put 0 (.slice (some ⟨gL, 0, none⟩) n capL)).perm (List.Perm.swap _ _ _)).put 0 (.slice (some ⟨gB, 0, none⟩) p capB); have A5 : Ats w0 ((wc.setCell ⟨bl, 0, none⟩ (.slice (some ⟨gL, 0, none⟩) n capL)).setCell ⟨bb, 0, none⟩ (.slice (some ⟨gB, 0, none⟩) p capB)).drew ((hp, L') :: M) ((bb, bgBox (.slice (some ⟨gB, 0, none⟩) p capB)) :: (bl, lsBox (.slice (some ⟨gL, 0, none⟩) n capL)) :: (b6, Obj.cells #[.int .i64 kk, .bool kx, .int .i64 kn, .int .i64 kp, .int .i64 kl, .string ks] 49) :: (b3, Obj.cells #[.int .i64 0, .bool false, .int .i64 0, .int .i64 0, .int .i64 0, .string ⟨#[]⟩] 49) :: (gL, Obj.cells curL 44) :: (gB, Obj.cells curB 3) :: (R ++ (RR ++ (bh, hpBox hp) :: K))) := A4.drew
 have A6 := A5.perm (K' := (b3, Obj.cells #[.int .i64 0, .bool false, .int .i64 0, .int .i64 0, .int .i64 0, .string ⟨#[]⟩] 49) :: (b6, Obj.cells #[.int .i64 kk, .bool kx, .int .i64 kn, .int .i64 kp, .int .i64 kl, .string ks] 49) :: (R ++ ((bl, lsBox (.slice (some ⟨gL, 0, none⟩) n capL)) :: (bb, bgBox (.slice (some ⟨gB, 0, none⟩) p capB)) :: (gL, Obj.cells curL 44) :: (gB, Obj.cells curB 3) :: (RR ++ (bh, hpBox hp) :: K)))) (by
  classical refine List.perm_iff_count.2 fun z => ?_
  simp only [List.count_append, List.count_cons]
  omega)
 clear A2 A3 A4 A5 Rl yl Zl Rb yb Zb; generalize ((wc.setCell ⟨bl, 0, none⟩ _).setCell ⟨bb, 0, none⟩ _).drew = w5 at *
 (try clear Rr); (try clear yr); (try clear Zr)
 have Rr := cells_of (A6.box _ m0); have yr := blk_lt (A6.box _ m0); have Zr := free_of (A6.box _ m0)
 (try clear Rk); (try clear yk); (try clear Zk)
 have Rk := cells_of (A6.box _ m1); have yk := blk_lt (A6.box _ m1)
 (try simp only at Rr yr Zr Rk yk)
 go_wp2_with fail
 have A7 := A6.putO kk kx kn kp kl ks; have R7 := cells_of (A7.box _ m0); refine bodyPost_ret (v := .tuple #[O.val ⟨kk, kx, kn, kp, kl, ks⟩, .int .i64 e]) ?_ rfl ⟨rfl, HF.out _ (A7.keep (((List.sublist_append_right R _).trans (List.sublist_cons_self _ _)).trans (List.sublist_cons_self _ _)))⟩; simp [results, Tryz.results66, go_sem, R7]
end
end Go.Proofs.YtpiomapnmempoaaGreat
