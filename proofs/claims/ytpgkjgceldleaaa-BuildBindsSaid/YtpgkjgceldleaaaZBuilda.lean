/- Uba, Ubb, Ubc, Rgl, Ubd -/
import Derived.Test.YtpgkjgceldleaaaZScf
import Derived.Test.YtpgkjgceldleaaaZHeapc
import Derived.Test.YtpgkjgceldleaaaZStack
import Derived.Deep.AppendLies
import Derived.StillTailTactics
import Derived.Deep.RegionHeld
import Derived.Test.YtpgkjgceldleaaaZTokf
import Derived.Test.YtpgkjgceldleaaaZTokc
/- build.array: an array that is run. -/
namespace Go.Proofs.Ytpgkjgceldleaaa
open Go.RowKit

/-- Items are set, one behind the other, the first j of them. -/
def setsB (L : List C) (o : O) (xs : List O) (j : Nat) : List C := (List.range j).foldl (fun L (i : Nat) => (setH L o (i : Int) (xs.getD i O.nil)).1) L
theorem setsB_succ (L : List C) (o : O) (xs : List O) (j : Nat) : setsB L o xs (j + 1) = (setH (setsB L o xs j) o (j : Int) (xs.getD j O.nil)).1 := by
  simp [setsB, List.range_succ]
/-- What array leaves, and answers. -/
def arrB (L : List C) (xs : List O) : List C × O × Int :=
  match arrayH L xs.length with
  | (L1, o, e) => if e = 0 then (setsB L1 o xs xs.length, { o with exec := true }, 0) else (L1, O.nil, e)
set_option maxRecDepth 100000 in
set_option maxHeartbeats 2000000 in
theorem barr_any {w0 w : World} {M : List (Nat × List C)} {K : List (Nat × Obj)} {hp : Nat} {L L' : List C} {o : O} {e : Int} (A : Ats w0 w ((hp, L) :: M) K) (a : Option Addr) (n cap : Nat) (zs : List O) (hn : zs.length = n) (hc : n ≤ cap)
    (hrow : 0 < n → ∃ g cur fz, a = some ⟨g, 0, none⟩ ∧ (g, Obj.cells cur 36 fz) ∈ K ∧ ∀ i x, zs[i]? = some x → ∀ j, j < 6 → cur[i * 6 + j]? = x.cells[j]?) (hr : arrB L zs = (L', o, e)) :
    Calls Try.prog 31 #[ptr hp, .slice a n cap] w fun r w' => r = .returned (.tuple #[o.val, .int .i64 e]) ∧ Ats w0 w' ((hp, L') :: M) K := by
  obtain ⟨L1, o1, e1, ha⟩ : ∃ L1 o1 e1, arrayH L (n : Int) = (L1, o1, e1) := ⟨_, _, _, rfl⟩
  have hr2 : (if e1 = 0 then (setsB L1 o1 zs n, { o1 with exec := true }, 0) else (L1, O.nil, e1)) = (L', o, e) := by
    rw [← hr]
    unfold arrB
    rw [hn, ha]
  have hle : e1 = 0 → n ≤ 40000 := fun h => by
    subst h
    unfold arrayH at ha
    split at ha
    · simp at ha
    · omega
  clear hr
  have HAR := hid' (fun W K' (A : Ats w0 W ((hp, L) :: M) K') => at_array A (n : Int) ha)
  have HN := hid' hn
  have HROW := hid' hrow
  clear hn hrow ha
  have A1 := A.alloc (Obj.cells #[.int .i64 0, .bool false, .int .i64 0, .int .i64 0, .int .i64 0, .string ⟨#[]⟩] 36)
  generalize hg : w.heap.size = b4 at *
  go_enter Try.func31, Try.ntmps31
  go_upto_region 1 with (fail)
  generalize hW : w.alloc _ = w1 at *
  clear hW hg A
  go_wp2_with fail
  refine (HAR.out _ _ A1).mono ?_
  rintro r w2 ⟨rfl, A2⟩
  clear HAR A1
  obtain ⟨ok, ox, on, op, ol, os⟩ := o1
  have A3 := A2.alloc (Obj.cells #[.int .i64 ok, .bool ox, .int .i64 on, .int .i64 op, .int .i64 ol, .string os] 36)
  generalize hg : w2.heap.size = b6 at *
  go_upto_region 2 with (fail)
  generalize hW : w2.alloc _ = w3 at *
  clear hW hg A2
  by_cases he : e1 = 0
  · subst he
    rw [if_pos rfl] at hr2
    simp only [Prod.mk.injEq] at hr2
    obtain ⟨rfl, rfl, rfl⟩ := hr2
    have hni : (n : Int) ≤ 40000 := by have := hle rfl; omega
    clear hle
    (try clear Ra); (try clear ya); (try clear Za)
    have Ra := cells_of (A3.box _ m0)
    have ya := blk_lt (A3.box _ m0)
    (try simp only at Ra ya)
    have S0 : Ats w0 w3 ((hp, setsB L1 ⟨ok, ox, on, op, ol, os⟩ zs 0) :: M) ((b6, Obj.cells #[.int .i64 ok, .bool ox, .int .i64 on, .int .i64 op, .int .i64 ol, .string os] 36) :: (b4, Obj.cells #[.int .i64 0, .bool false, .int .i64 0, .int .i64 0, .int .i64 0, .string ⟨#[]⟩] 36) :: K) := A3
    have hcn : (n : Int) ≤ cap := by omega
    go_upto_region 5 with (fail)
    clear Ra ya A3
    go_wp2_with fail
    go_loopw [23] (fun cv wr => ∃ j : Nat, j ≤ n ∧ cv = .int .i64 j ∧ Ats w0 wr ((hp, setsB L1 ⟨ok, ox, on, op, ol, os⟩ zs j) :: M) ((b6, Obj.cells #[.int .i64 ok, .bool ox, .int .i64 on, .int .i64 op, .int .i64 ol, .string os] 36) :: (b4, Obj.cells #[.int .i64 0, .bool false, .int .i64 0, .int .i64 0, .int .i64 0, .string ⟨#[]⟩] 36) :: K)) (fun cv _ => n - (intOf cv).toNat)
    case atStart => exact ⟨0, Nat.zero_le _, rfl, S0⟩
    case round =>
    obtain ⟨j, hj, rfl, S1⟩ := hrel
    clear S0
    by_cases hlt : j < n
    · have dj : (j : Int) < n := by omega
      have d0 : (0 : Int) ≤ j := by omega
      have v1 := IntWalk.i64_in ((j : Int) + 1) (by omega)
      obtain ⟨g, cur, fz, rfl, mg, hcur⟩ := HROW.out (by omega)
      obtain ⟨x, hx⟩ : ∃ x, zs[j]? = some x := ⟨_, List.getElem?_eq_getElem (by rw [HN.out]; exact hlt)⟩
      have h6 := hcur j x hx
      have q0 := h6 0 (by decide)
      have q1 := h6 1 (by decide)
      have q2 := h6 2 (by decide)
      have q3 := h6 3 (by decide)
      have q4 := h6 4 (by decide)
      have q5 := h6 5 (by decide)
      simp only [O.cells, List.getElem?_cons_zero, List.getElem?_cons_succ, Nat.add_zero] at q0 q1 q2 q3 q4 q5
      have HSE := hid' (setsB_succ L1 ⟨ok, ox, on, op, ol, os⟩ zs j)
      rw [show zs.getD j O.nil = x by rw [List.getD_eq_getElem?_getD, hx]; rfl] at HSE
      have HST := hid' (fun W K' (A : Ats w0 W ((hp, setsB L1 ⟨ok, ox, on, op, ol, os⟩ zs j) :: M) K') => at_set A ⟨ok, ox, on, op, ol, os⟩ (j : Int) x (L' := (setH (setsB L1 ⟨ok, ox, on, op, ol, os⟩ zs j) ⟨ok, ox, on, op, ol, os⟩ (j : Int) x).1) (e := (setH (setsB L1 ⟨ok, ox, on, op, ol, os⟩ zs j) ⟨ok, ox, on, op, ol, os⟩ (j : Int) x).2) rfl)
      rw [← HSE.out] at HST
      generalize (setH (setsB L1 ⟨ok, ox, on, op, ol, os⟩ zs j) ⟨ok, ox, on, op, ol, os⟩ (j : Int) x).2 = se at *
      obtain ⟨xk, xx, xn, xp, xl, xs⟩ := x
      simp only at q0 q1 q2 q3 q4 q5
      clear h6 hcur hx
      (try clear Ro); (try clear yo); (try clear Zo)
      have Ro := cells_of (S1.box _ m0)
      have yo := blk_lt (S1.box _ m0)
      (try clear Rg); (try clear yg); (try clear Zg)
      have Rg := cells_of (S1.box _ (List.mem_cons_of_mem _ (List.mem_cons_of_mem _ mg)))
      have yg := blk_lt (S1.box _ (List.mem_cons_of_mem _ (List.mem_cons_of_mem _ mg)))
      (try simp only at Ro yo Rg yg)
      have S2 := S1.alloc (Obj.cells #[.int .i64 xk, .bool xx, .int .i64 xn, .int .i64 xp, .int .i64 xl, .string xs] 36)
      generalize hg : wr.heap.size = b9 at *
      go_upto_region 7 with (fail)
      generalize hW : wr.alloc _ = w4 at *
      clear hW hg S1 Ro yo Rg yg q0 q1 q2 q3 q4 q5
      (try clear Rx); (try clear yx); (try clear Zx)
      have Rx := cells_of (S2.box _ m0)
      have yx := blk_lt (S2.box _ m0)
      (try clear Ro); (try clear yo); (try clear Zo)
      have Ro := cells_of (S2.box _ m1)
      have yo := blk_lt (S2.box _ m1)
      (try simp only at Rx yx Ro yo)
      go_wp2_with fail
      refine (HST.out _ _ S2).mono ?_
      rintro r w5 ⟨rfl, S3⟩
      have S4 := S3.keep (List.sublist_cons_self _ _)
      clear S2 S3 Rx yx Ro yo
      go_wp2_with fail
      go_roundw
      case rel => exact ⟨j + 1, by omega, by go_num, S4⟩
      case measure => simp [intOf]; omega
    · obtain rfl : j = n := by omega
      (try clear Ro); (try clear yo); (try clear Zo)
      have Ro := cells_of (S1.box _ m0)
      have yo := blk_lt (S1.box _ m0)
      have Zo := free_of (S1.box _ m0)
      (try clear Rb); (try clear yb); (try clear Zb)
      have Rb := cells_of (S1.box _ m1)
      have yb := blk_lt (S1.box _ m1)
      have Zb := free_of (S1.box _ m1)
      (try simp only at Ro yo Zo Rb yb Zb)
      have S2 : Ats w0 (wr.setCell ⟨b6, 1, none⟩ (.bool true)) ((hp, setsB L1 ⟨ok, ox, on, op, ol, os⟩ zs j) :: M) ((b4, Obj.cells #[.int .i64 0, .bool false, .int .i64 0, .int .i64 0, .int .i64 0, .string ⟨#[]⟩] 36) :: (b6, Obj.cells #[.int .i64 ok, .bool true, .int .i64 on, .int .i64 op, .int .i64 ol, .string os] 36) :: K) := (S1.put 1 (.bool true)).perm (List.Perm.swap _ _ _)
      go_upto_region 10 with (fail)
      generalize wr.setCell _ _ = w6 at *
      clear S1 Ro yo Zo Rb yb Zb
      (try clear Rb); (try clear yb); (try clear Zb)
      have Rb := cells_of (S2.box _ m0)
      have yb := blk_lt (S2.box _ m0)
      have Zb := free_of (S2.box _ m0)
      (try clear Ro); (try clear yo); (try clear Zo)
      have Ro := cells_of (S2.box _ m1)
      have yo := blk_lt (S2.box _ m1)
      (try simp only at Rb yb Zb Ro yo)
      go_wp2_with fail
      have S3 := S2.putO ok true on op ol os
      have R3 := cells_of (S3.box _ m0)
      refine bodyPost_ret (v := .tuple #[O.val ⟨ok, true, on, op, ol, os⟩, .int .i64 0]) ?_ rfl ⟨rfl, S3.keep ((List.sublist_cons_self _ _).trans (List.sublist_cons_self _ _))⟩
      simp [results, Try.results31, go_sem, R3]
  · rw [if_neg he] at hr2
    simp only [Prod.mk.injEq] at hr2
    obtain ⟨rfl, rfl, rfl⟩ := hr2
    have he' : decide (e1 = 0) = false := by simp [he]
    (try clear Rb); (try clear yb); (try clear Zb)
    have Rb := cells_of (A3.box _ m1)
    have yb := blk_lt (A3.box _ m1)
    have Zb := free_of (A3.box _ m1)
    (try simp only at Rb yb Zb)
    go_wp2_with fail
    have S3 := (A3.perm (List.Perm.swap _ _ _)).putO 0 false 0 0 0 ⟨#[]⟩
    have R3 := cells_of (S3.box _ m0)
    refine bodyPost_ret (v := .tuple #[O.val O.nil, .int .i64 e1]) ?_ rfl ⟨rfl, S3.keep ((List.sublist_cons_self _ _).trans (List.sublist_cons_self _ _))⟩
    simp [results, Try.results31, go_sem, R3, O.nil]
end Go.Proofs.Ytpgkjgceldleaaa
/- build.Objects: what lies open, and the closures that put and shut. -/
namespace Go.Proofs.Ytpgkjgceldleaaa
open Go.RowKit

theorem Try.infoRowsB : (Try.prog.info? 32).map (fun i => (i.zero, i.size, i.bytes)) = some (some (.slice none 0 0), 1, 24) := by kernel_rfl
theorem Try.underRowsB : Try.prog.underlying 68 = some (.slice 32) := by kernel_rfl
theorem Try.infoIntB : (Try.prog.info? 3).map (fun i => (i.zero, i.size, i.bytes)) = some (some (.int .i64 0), 1, 8) := by kernel_rfl
theorem Try.underIntsB : Try.prog.underlying 69 = some (.slice 3) := by kernel_rfl
/-- Ats, for a drawn region to hold. -/
def AnyB (w0 : World) (M : List (Nat × List C)) (KL : List (Nat × Obj)) (W : World) : Prop := Ats w0 W M KL
theorem AnyB.drew {w0 W : World} {M : List (Nat × List C)} {KL : List (Nat × Obj)} (h : AnyB w0 M KL W) : AnyB w0 M KL W.drew := Ats.drew h
theorem AnyB.grow {w0 W : World} {M : List (Nat × List C)} {KL : List (Nat × Obj)} (h : AnyB w0 M KL W) (o : Obj) : AnyB w0 M KL (W.alloc o) := Ats.pure h ((Chg.refl NoB W).alloc o)
theorem AnyB.cells {w0 : World} {M : List (Nat × List C)} {KL : List (Nat × Obj)} {g : Nat} {cs : Array Value} {T : TypeId} {fz : Nat × Nat} (hm : (g, Obj.cells cs T fz) ∈ KL) : ∀ W, AnyB w0 M KL W → ∀ i, W.cell? ⟨g, i, none⟩ = cs[i]? :=
  fun _W h => cells_of (Ats.box h _ hm)
/-- An append onto a row among the boxes, at a step of a region that draws. -/
theorem stepB_app {ops : Array Oper} {o : Oper} {a : Act} {w : World} {Q : Act → World → Prop} {Q' : Exit → Act → World → Prop} {E : Prop} (hgd : o.guard = none) (s x : Operand) (t : TypeId)
    (ho : o.op = .call { callee := .builtin .append, args := #[s, x], argTypes := #[t, t] })
    (T : TypeId) (i : TypeInfo) (z : Value) (size bytes : Nat) (ht : Try.prog.underlying t = some (.slice T)) (hi : Try.prog.info? T = some i) (hz : i.zero = some z)
    (hsize : i.size = size) (hby : i.bytes = bytes) (hzs : z.cells.size = size) (hsz : 0 < size)
    {w0 : World} {M : List (Nat × List C)} (R K : List (Nat × Obj)) (v : Value) (n : Nat) (xs : List Value) (A : Ats w0 w M (R ++ K)) (hR : RowG T size R v n xs) (hs : a.eval s = v)
    (ad : Addr) (m c : Nat) (news : List Value) (hx : a.eval x = .slice (some ad) m c) (hl : news.length = m * size) (hnews : ∀ j u, news[j]? = some u → w.cell? (ad.add j) = some u) (h1 : ∀ u ∈ news, u.oneCell' = true)
    (hm : 0 < m) (h63 : n + m ≤ maxLen) (hbytes : (n + m) * bytes ≤ 140737488355328)
    (h : ∀ g cap w' R', RowG T size R' (.slice (some ⟨g, 0, none⟩) (n + m) cap) (n + m) (xs ++ news) → Ats w0 w' M (R' ++ K) → Q (a.put o.dst (.slice (some ⟨g, 0, none⟩) (n + m) cap)) w') :
    if Region.wanted o (yielded ops a.tmps) = true then Oper.wp Try.prog o a w Q Q' else E := by
  refine step_append_lies w hgd s x t ho w0.heap.size T i z size bytes ht hi hz hsize hby hzs hsz v n xs hs (Ats.ownsG A hR) ad m c news hx hl hnews h1 hm h63 hbytes A.chg.size _ rfl ?_
  intro g cap w' hown hgr hg hgl
  obtain ⟨R', hR', A'⟩ := Ats.grownG A hR hown hgr (by
    rcases hg with e | e
    · exact .inl (by rw [e]; simp [Value.ownBlock])
    · exact .inr (by simp [Value.ownBlock, e])) hm
  exact h g cap w' R' hR' A'
theorem newsB_take {w : World} {g : Nat} {cur : Array Value} {T : TypeId} {fz : Nat × Nat} (hb : w.heap[g]? = some (.cells cur T fz)) (n : Nat) (xs : List Value) (hx : cur.toList.take n = xs) : ∀ j u, xs[j]? = some u → w.cell? ((⟨g, 0, none⟩ : Addr).add j) = some u := by
  intro j u hj
  refine World.news_of_block hb j u ?_
  rw [← hx, List.getElem?_take] at hj
  split at hj
  · exact hj
  · simp at hj
theorem newsB_all {w : World} {g : Nat} {cs : List Value} {T : TypeId} {fz : Nat × Nat} (hb : w.heap[g]? = some (.cells cs.toArray T fz)) : ∀ j u, cs[j]? = some u → w.cell? ((⟨g, 0, none⟩ : Addr).add j) = some u := newsB_take hb cs.length cs (by simp)
theorem flatB_at (l : List O) (m j : Nat) (o : O) (h : l[m]? = some o) (hj : j < 6) : (l.flatMap O.cells)[m * 6 + j]? = o.cells[j]? := by
  rw [flat_get O.cells 6 cells_length j hj, h]; rfl
theorem takeB_set {α : Type} (cur : Array α) (k n : Nat) (v : α) : (cur.setIfInBounds k v).toList.take n = (cur.toList.take n).set k v := by
  rw [Array.toList_setIfInBounds, List.take_set]
/-- Rows of objects, the last one first. -/
inductive Rows : List (Nat × Obj) → List Value → List (List O) → Prop
  | nil : Rows [] [] []
  | cons {R RR : List (Nat × Obj)} {v : Value} {vs : List Value} {l : List O} {ls : List (List O)} : RowG 36 6 R v l.length (l.flatMap O.cells) → Rows RR vs ls → Rows (R ++ RR) (v :: vs) (l :: ls)
theorem Rows.length {RR : List (Nat × Obj)} {vs : List Value} {ls : List (List O)} (h : Rows RR vs ls) : vs.length = ls.length := by
  induction h with
  | nil => rfl
  | cons _ _ ih => simp [ih]
abbrev lsBox (v : Value) : Obj := .cells #[v] 68
abbrev bgBox (v : Value) : Obj := .cells #[v] 69
abbrev hpBox (hp : Nat) : Obj := .cells #[ptr hp] 23
/-- What Objects has open: the lists (the last one first), and where each but the first began. -/
def BAt (w0 w : World) (M : List (Nat × List C)) (K : List (Nat × Obj)) (hp bh bl bb : Nat) (ls : List (List O)) (bg : List Int) : Prop :=
  ∃ RR vs RL vl RB vb, Rows RR vs ls ∧ RowG 32 1 RL vl ls.length vs.reverse ∧ RowG 3 1 RB vb bg.length (bg.reverse.map (.int .i64 ·)) ∧
    Ats w0 w M (RR ++ (RL ++ (RB ++ (bl, lsBox vl) :: (bb, bgBox vb) :: (bh, hpBox hp) :: K)))
theorem BAt.chg {w0 w : World} {M : List (Nat × List C)} {K : List (Nat × Obj)} {hp bh bl bb : Nat} {ls : List (List O)} {bg : List Int} (S : BAt w0 w M K hp bh bl bb ls bg) : Chg NoB w0 w := by
  obtain ⟨RR, vs, RL, vl, RB, vb, -, -, -, A⟩ := S; exact A.chg
theorem BAt.pure {w0 w w' : World} {M : List (Nat × List C)} {K : List (Nat × Obj)} {hp bh bl bb : Nat} {ls : List (List O)} {bg : List Int} (S : BAt w0 w M K hp bh bl bb ls bg) (X : Chg NoB w w') : BAt w0 w' M K hp bh bl bb ls bg := by
  obtain ⟨RR, vs, RL, vl, RB, vb, h1, h2, h3, A⟩ := S; exact ⟨RR, vs, RL, vl, RB, vb, h1, h2, h3, A.pure X⟩
set_option maxRecDepth 100000 in
set_option maxHeartbeats 4000000 in
theorem bput_any {w0 w : World} {M : List (Nat × List C)} {K : List (Nat × Obj)} {hp bh bl bb : Nat} {l : List O} {ls : List (List O)} {bg : List Int} (S : BAt w0 w M K hp bh bl bb (l :: ls) bg) (x : O) (hl : l.length ≤ 100000) (hls : ls.length ≤ 1000) :
    Calls Try.prog 29 #[x.val, ptr bl] w fun r w' => r = .returned (.tuple #[]) ∧ BAt w0 w' M K hp bh bl bb ((l ++ [x]) :: ls) bg := by
  obtain ⟨RR0, vs0, RL, vl, RB, vb, hrows, hRL, hRB, A⟩ := S
  cases hrows with
  | @cons R RR v vs _ _ hR hRR =>
  have hvl := hRR.length
  obtain ⟨n, hn⟩ : ∃ n, ls.length = n := ⟨_, rfl⟩
  rw [hn] at hvl
  rcases hRL with ⟨-, h0, -⟩ | ⟨gL, capL, curL, rfl, rfl, c1, c2, c3, c4, c5⟩
  · simp at h0
  simp only [List.length_cons, hn, Nat.mul_one, List.reverse_cons] at c1 c3 c4 c5
  have cv : curL[n]? = some v := by
    have h := congrArg (fun z => z[n]?) c4
    simp only [List.getElem?_take_of_lt (Nat.lt_succ_self n), Array.getElem?_toList] at h
    rw [h, List.getElem?_append_right (by simp [hvl])]
    simp [hvl]
  obtain ⟨q, hq⟩ : ∃ q, n + 1 = q := ⟨_, rfl⟩
  simp only [List.length_cons, hn, hq] at A
  rw [hq] at c1 c4 c5
  obtain ⟨KT, hKT⟩ : ∃ KT, KT = RR ++ (RB ++ (bl, lsBox (.slice (some ⟨gL, 0, none⟩) q capL)) :: (bb, bgBox vb) :: (bh, hpBox hp) :: K) := ⟨_, rfl⟩
  have A0 : Ats w0 w M (R ++ ((gL, Obj.cells curL 32) :: KT)) := A.perm (by
    rw [hKT]
    classical refine List.perm_iff_count.2 fun z => ?_
    simp only [List.count_append, List.count_cons, List.count_nil]
    omega)
  have mbl : (bl, lsBox (.slice (some ⟨gL, 0, none⟩) q capL)) ∈ KT := by rw [hKT]; simp
  obtain ⟨xk, xx, xn, xp, xl, xs⟩ := x
  have A1 := A0.alloc (Obj.cells #[.int .i64 xk, .bool xx, .int .i64 xn, .int .i64 xp, .int .i64 xl, .string xs] 36)
  generalize hg : w.heap.size = bx at *
  have A2 : Ats w0 (w.alloc (Obj.cells #[.int .i64 xk, .bool xx, .int .i64 xn, .int .i64 xp, .int .i64 xl, .string xs] 36)) M (R ++ ((gL, Obj.cells curL 32) :: ((bx, Obj.cells #[.int .i64 xk, .bool xx, .int .i64 xn, .int .i64 xp, .int .i64 xl, .string xs] 36) :: KT))) := A1.perm (by
    classical refine List.perm_iff_count.2 fun z => ?_
    simp only [List.count_append, List.count_cons]
    omega)
  obtain ⟨KX, hKX⟩ : ∃ KX, KX = (bx, Obj.cells #[.int .i64 xk, .bool xx, .int .i64 xn, .int .i64 xp, .int .i64 xl, .string xs] 36) :: KT := ⟨_, rfl⟩
  rw [← hKX] at A2
  have mbl' : (bl, lsBox (.slice (some ⟨gL, 0, none⟩) q capL)) ∈ KX := by rw [hKX]; exact List.mem_cons_of_mem _ mbl
  have mbx : (bx, Obj.cells #[.int .i64 xk, .bool xx, .int .i64 xn, .int .i64 xp, .int .i64 xl, .string xs] 36) ∈ KX := by rw [hKX]; exact m0
  have hSub : KX.Sublist (R ++ ((gL, Obj.cells curL 32) :: KX)) := (List.sublist_cons_self _ _).trans (List.sublist_append_right _ _)
  have mgL : (gL, Obj.cells curL 32) ∈ R ++ ((gL, Obj.cells curL 32) :: KX) := List.mem_append_right _ m0
  have q1 : (q : Int) - 1 = n := by omega
  have qn := IntWalk.i64_in (n : Int) (by omega)
  have n0 : (0 : Int) ≤ n := by omega
  have nq : (n : Int) < q := by omega
  have HQ := hid' (And.intro hq (And.intro hn hvl))
  have HL := hid' hl
  have HR := hid' hR
  have HRR := hid' hRR
  have HRB := hid' hRB
  have HKT := hid' hKT
  have HKX := hid' hKX
  have HC := hid' (And.intro c1 (And.intro c2 (And.intro c3 (And.intro c4 c5))))
  obtain ⟨m, hm⟩ : ∃ m, l.length = m := ⟨_, rfl⟩
  rw [hm] at HR HL
  have HM := hid' hm
  obtain ⟨i0, hi, hz0, hz1, hz2⟩ := info_parts Try.infoObj
  clear c1 c2 c3 c4 c5 hR hRR hRB hKT hKX hvl hn hq A0 A1 mbl hls hl hm A
  go_enter Try.func29, Try.ntmps29
  go_upto_region 1 with (fail)
  generalize hW : w.alloc _ = w1 at *
  clear hW hg
  have Rb := cells_of (A2.box _ (hSub.subset mbl'))
  have yb := blk_lt (A2.box _ (hSub.subset mbl'))
  have Rg := cells_of (A2.box _ mgL)
  have yg := blk_lt (A2.box _ mgL)
  simp only at yb yg
  go_upto_region 2 with (fail)
  clear Rb
  have hS1 : AnyB w0 M KX w1 := A2.keep hSub
  have QB := AnyB.cells (w0 := w0) (M := M) mbl'
  have QX := AnyB.cells (w0 := w0) (M := M) mbx
  have HPUT := hid' (fun (W : World) (R8 : List (Nat × Obj)) (vv : Value) (A8 : Ats w0 W M (R8 ++ ((gL, Obj.cells curL 32) :: KX))) => (((A8.perm List.perm_middle).put n vv).perm List.perm_middle.symm : Ats w0 (W.setCell ⟨gL, n, none⟩ vv) M (R8 ++ ((gL, Obj.cells (curL.setIfInBounds n vv) 32) :: KX))))
  have HFIN := hid' (fun (W : World) (R8 : List (Nat × Obj)) (g2 cap2 : Nat) (hR8 : RowG 36 6 R8 (.slice (some ⟨g2, 0, none⟩) (m + 1) cap2) (m + 1) (l.flatMap O.cells ++ O.cells ⟨xk, xx, xn, xp, xl, xs⟩)) (A8 : Ats w0 W M (R8 ++ ((gL, Obj.cells curL 32) :: KX))) => (show BAt w0 (W.setCell ⟨gL, n, none⟩ (.slice (some ⟨g2, 0, none⟩) (m + 1) cap2)) M K hp bh bl bb ((l ++ [⟨xk, xx, xn, xp, xl, xs⟩]) :: ls) bg by
    obtain ⟨d1, d2, d3, d4, d5⟩ := HC.out
    obtain ⟨e1, e2, e3⟩ := HQ.out
    have hlen : (l ++ [(⟨xk, xx, xn, xp, xl, xs⟩ : O)]).length = m + 1 := by rw [List.length_append, HM.out]; rfl
    have hRow : RowG 36 6 R8 (.slice (some ⟨g2, 0, none⟩) (m + 1) cap2) (l ++ [(⟨xk, xx, xn, xp, xl, xs⟩ : O)]).length ((l ++ [(⟨xk, xx, xn, xp, xl, xs⟩ : O)]).flatMap O.cells) := by
      rw [hlen, List.flatMap_append, List.flatMap_cons, List.flatMap_nil, List.append_nil]
      exact hR8
    have hq2 : ((l ++ [(⟨xk, xx, xn, xp, xl, xs⟩ : O)]) :: ls).length = q := by rw [List.length_cons, e2, e1]
    refine ⟨R8 ++ RR, _ :: vs, [(gL, Obj.cells (curL.setIfInBounds n (.slice (some ⟨g2, 0, none⟩) (m + 1) cap2)) 32)], .slice (some ⟨gL, 0, none⟩) q capL, RB, vb, .cons hRow HRR.out, ?_, HRB.out, ?_⟩
    · rw [hq2]
      refine .inr ⟨gL, capL, _, rfl, rfl, d1, d2, by rw [Array.size_setIfInBounds, d3, Nat.mul_one], ?_, by simp [e3, e1]⟩
      rw [Nat.mul_one, takeB_set, d4, List.set_append_right _ _ (by simp [e3])]
      simp [e3]
    · refine ((HPUT.out _ _ (.slice (some ⟨g2, 0, none⟩) (m + 1) cap2) A8).perm (K' := (bx, Obj.cells #[.int .i64 xk, .bool xx, .int .i64 xn, .int .i64 xp, .int .i64 xl, .string xs] 36) :: _) ?_).keep (List.sublist_cons_self _ _)
      rw [HKX.out, HKT.out]
      classical refine List.perm_iff_count.2 fun z => ?_
      simp only [List.count_append, List.count_cons, List.count_nil]
      omega))
  have HA := hid' A2
  clear A2
  refine wp_region_held_drew (S := fun W' => AnyB w0 M KX W') (by kernel_rfl) hS1.drew (fun hHeld => ?_)
  refine wpAnyH_take (i := 0) (oi := { dst := some 7, op := _, type := _, pos := _, after := _, guard := _ }) (v := ?_) rfl (by kernel_rfl) (by kernel_rfl) (by kernel_rfl) (fun _ _ _ h => h) (Or.inl ⟨by rfl, ?_⟩) (by assumption) ?_
  rotate_left
  · intro w hSw; go_simp; try with_reducible rfl
  try simp only [Act.put, List.setIfInBounds_toArray, List.set_cons_zero, List.set_cons_succ]
  refine wpAnyH_take (i := 1) (oi := { dst := some 8, op := _, type := _, pos := _, after := _, guard := _ }) (v := ?_) rfl (by kernel_rfl) (by kernel_rfl) (by kernel_rfl) (fun _ _ _ h => h) (Or.inl ⟨by rfl, ?_⟩) (by assumption) ?_
  rotate_left
  · intro w hSw; go_simp; try with_reducible rfl
  try simp only [Act.put, List.setIfInBounds_toArray, List.set_cons_zero, List.set_cons_succ]
  refine wpAnyH_take (i := 2) (oi := { dst := some 9, op := _, type := _, pos := _, after := _, guard := _ }) (v := ?_) rfl (by kernel_rfl) (by kernel_rfl) (by kernel_rfl) (fun _ _ _ h => h) (Or.inl ⟨by rfl, ?_⟩) (by assumption) ?_
  rotate_left
  · intro w hSw; go_simp; try with_reducible rfl
  try simp only [Act.put, List.setIfInBounds_toArray, List.set_cons_zero, List.set_cons_succ]
  refine wpAnyH_take (i := 3) (oi := { dst := some 10, op := _, type := _, pos := _, after := _, guard := _ }) (v := ?_) rfl (by kernel_rfl) (by kernel_rfl) (by kernel_rfl) (fun _ _ _ h => h) (Or.inl ⟨by rfl, ?_⟩) (by assumption) ?_
  rotate_left
  · intro w hSw; go_simp; try with_reducible rfl
  try simp only [Act.put, List.setIfInBounds_toArray, List.set_cons_zero, List.set_cons_succ]
  refine wpAnyH_take (i := 4) (oi := { dst := some 11, op := _, type := _, pos := _, after := _, guard := _ }) (v := ?_) rfl (by kernel_rfl) (by kernel_rfl) (by kernel_rfl) (fun _ _ _ h => h) (Or.inl ⟨by rfl, ?_⟩) (by assumption) ?_
  rotate_left
  · intro w hSw; go_simp; try with_reducible rfl
  try simp only [Act.put, List.setIfInBounds_toArray, List.set_cons_zero, List.set_cons_succ]
  refine wpAnyH_take (i := 6) (oi := { dst := some 13, op := _, type := _, pos := _, after := _, guard := _ }) (v := ?_) rfl (by kernel_rfl) (by kernel_rfl) (by kernel_rfl) (fun _ _ _ h => h) (Or.inl ⟨by rfl, ?_⟩) (by assumption) ?_
  rotate_left
  · intro w hSw; go_simp; try with_reducible rfl
  try simp only [Act.put, List.setIfInBounds_toArray, List.set_cons_zero, List.set_cons_succ]
  refine wpAnyH_ready (rs := [5, 7]) (by kernel_rfl) (by simp) ?_
  refine AllReadyH.cons (o := { dst := some 12, op := _, type := _, pos := _, after := _, guard := _ }) rfl (fun K' hK' => ?_) (AllReadyH.cons (o := { dst := some 14, op := _, type := _, pos := _, after := _, guard := _ }) rfl (fun K' hK' => ?_) AllReadyH.nil)
  · go_simp
    refine hK'.out _ _ ?_ (fun hHeld2 => ?_)
    · with_reducible assumption
    clear hK' K'
    try simp only [Act.put, List.setIfInBounds_toArray, List.set_cons_zero, List.set_cons_succ]
    refine wpAnyH_ready (rs := [7]) (by kernel_rfl) (by simp) ?_
    refine AllReadyH.cons (o := { dst := some 14, op := _, type := _, pos := _, after := _, guard := _ }) rfl (fun K' hK' => ?_) AllReadyH.nil
    go_simp
    refine hK'.out _ _ ?_ (fun hHeld2 => ?_)
    · exact AnyB.grow (by assumption) _
    clear hK' K'
    try simp only [Act.put, List.setIfInBounds_toArray, List.set_cons_zero, List.set_cons_succ]
    refine wpAnyH_ready (rs := [8]) (by kernel_rfl) (by simp) ?_
    refine AllReadyH.cons (o := { dst := some 15, op := _, type := _, pos := _, after := _, guard := _ }) rfl (fun K' hK' => ?_) AllReadyH.nil
    refine stepB_app rfl (.tmp 12) (.tmp 14) 32 rfl 36 i0 O.nil.val 6 56 Try.underObjs hi hz0 hz1 hz2 rfl (by decide) R ((gL, Obj.cells curL 32) :: KX) v m (l.flatMap O.cells) (by first | exact HA.out.pure ((Chg.refl NoB w1).alloc _) | exact HA.out.pure (((Chg.refl NoB w1).alloc _).drew) | exact HA.out.pure (((Chg.refl NoB w1).drew).alloc _)) HR.out rfl ⟨w1.heap.size, 0, none⟩ 1 1 (O.cells (⟨xk, xx, xn, xp, xl, xs⟩ : O)) rfl rfl (newsB_all (T := 36) (fz := (0, 0)) (by first | exact blk_new w1 _ | exact blk_drew (blk_new w1 _) | exact blk_new w1.drew _)) (one6 _) (by decide) (by have := HL.out; unfold maxLen; omega) (by have := HL.out; omega) ?_
    intro g2 cap2 w8 R8 hR8 A8
    have HR8 := hid' hR8
    have HA8 := hid' A8
    have Rg8 := cells_of (A8.box _ (List.mem_append_right R8 (m0 (a := (gL, Obj.cells curL 32)) (l := KX))))
    have Zg8 := free_of (A8.box _ (List.mem_append_right R8 (m0 (a := (gL, Obj.cells curL 32)) (l := KX))))
    have yg8 := blk_lt (A8.box _ (List.mem_append_right R8 (m0 (a := (gL, Obj.cells curL 32)) (l := KX))))
    simp only at yg8
    have t8 : AnyB w0 M KX w8 := A8.keep ((List.sublist_cons_self _ _).trans (List.sublist_append_right _ _))
    clear hR8 A8
    refine hK'.out _ _ ?_ (fun hHeld2 => ?_)
    · exact t8
    clear hK' K'
    try simp only [Act.put, List.setIfInBounds_toArray, List.set_cons_zero, List.set_cons_succ]
    refine wpAnyH_take (i := 9) (oi := { dst := some 16, op := _, type := _, pos := _, after := _, guard := _ }) (v := ?_) rfl (by kernel_rfl) (by kernel_rfl) (by kernel_rfl) (fun _ _ _ h => h) (Or.inl ⟨by rfl, ?_⟩) (by assumption) ?_
    rotate_left
    · intro w hSw; go_simp; try with_reducible rfl
    try simp only [Act.put, List.setIfInBounds_toArray, List.set_cons_zero, List.set_cons_succ]
    refine wpAnyH_ready (rs := [10]) (by kernel_rfl) (by simp) ?_
    refine AllReadyH.cons (o := { dst := none, op := _, type := _, pos := _, after := _, guard := _ }) rfl (fun K' hK' => ?_) AllReadyH.nil
    go_simp
    refine hK'.out _ _ ?_ (fun hHeld2 => ?_)
    · exact (HPUT.out _ _ _ HA8.out).keep ((List.sublist_cons_self _ _).trans (List.sublist_append_right _ _))
    clear hK' K'
    try simp only [Act.put, List.setIfInBounds_toArray, List.set_cons_zero, List.set_cons_succ]
    refine wpAnyH_done (by kernel_rfl) ?_ _
    go_wp2_with fail
    go_end0
    exact ⟨rfl, HFIN.out _ _ _ _ HR8.out HA8.out⟩
  · go_simp
    refine hK'.out _ _ ?_ (fun hHeld2 => ?_)
    · exact AnyB.grow (by assumption) _
    clear hK' K'
    try simp only [Act.put, List.setIfInBounds_toArray, List.set_cons_zero, List.set_cons_succ]
    refine wpAnyH_ready (rs := [5]) (by kernel_rfl) (by simp) ?_
    refine AllReadyH.cons (o := { dst := some 12, op := _, type := _, pos := _, after := _, guard := _ }) rfl (fun K' hK' => ?_) AllReadyH.nil
    go_simp
    refine hK'.out _ _ ?_ (fun hHeld2 => ?_)
    · with_reducible assumption
    clear hK' K'
    try simp only [Act.put, List.setIfInBounds_toArray, List.set_cons_zero, List.set_cons_succ]
    refine wpAnyH_ready (rs := [8]) (by kernel_rfl) (by simp) ?_
    refine AllReadyH.cons (o := { dst := some 15, op := _, type := _, pos := _, after := _, guard := _ }) rfl (fun K' hK' => ?_) AllReadyH.nil
    refine stepB_app rfl (.tmp 12) (.tmp 14) 32 rfl 36 i0 O.nil.val 6 56 Try.underObjs hi hz0 hz1 hz2 rfl (by decide) R ((gL, Obj.cells curL 32) :: KX) v m (l.flatMap O.cells) (by first | exact HA.out.pure ((Chg.refl NoB w1).alloc _) | exact HA.out.pure (((Chg.refl NoB w1).alloc _).drew) | exact HA.out.pure (((Chg.refl NoB w1).drew).alloc _)) HR.out rfl ⟨w1.heap.size, 0, none⟩ 1 1 (O.cells (⟨xk, xx, xn, xp, xl, xs⟩ : O)) rfl rfl (newsB_all (T := 36) (fz := (0, 0)) (by first | exact blk_new w1 _ | exact blk_drew (blk_new w1 _) | exact blk_new w1.drew _)) (one6 _) (by decide) (by have := HL.out; unfold maxLen; omega) (by have := HL.out; omega) ?_
    intro g2 cap2 w8 R8 hR8 A8
    have HR8 := hid' hR8
    have HA8 := hid' A8
    have Rg8 := cells_of (A8.box _ (List.mem_append_right R8 (m0 (a := (gL, Obj.cells curL 32)) (l := KX))))
    have Zg8 := free_of (A8.box _ (List.mem_append_right R8 (m0 (a := (gL, Obj.cells curL 32)) (l := KX))))
    have yg8 := blk_lt (A8.box _ (List.mem_append_right R8 (m0 (a := (gL, Obj.cells curL 32)) (l := KX))))
    simp only at yg8
    have t8 : AnyB w0 M KX w8 := A8.keep ((List.sublist_cons_self _ _).trans (List.sublist_append_right _ _))
    clear hR8 A8
    refine hK'.out _ _ ?_ (fun hHeld2 => ?_)
    · exact t8
    clear hK' K'
    try simp only [Act.put, List.setIfInBounds_toArray, List.set_cons_zero, List.set_cons_succ]
    refine wpAnyH_take (i := 9) (oi := { dst := some 16, op := _, type := _, pos := _, after := _, guard := _ }) (v := ?_) rfl (by kernel_rfl) (by kernel_rfl) (by kernel_rfl) (fun _ _ _ h => h) (Or.inl ⟨by rfl, ?_⟩) (by assumption) ?_
    rotate_left
    · intro w hSw; go_simp; try with_reducible rfl
    try simp only [Act.put, List.setIfInBounds_toArray, List.set_cons_zero, List.set_cons_succ]
    refine wpAnyH_ready (rs := [10]) (by kernel_rfl) (by simp) ?_
    refine AllReadyH.cons (o := { dst := none, op := _, type := _, pos := _, after := _, guard := _ }) rfl (fun K' hK' => ?_) AllReadyH.nil
    go_simp
    refine hK'.out _ _ ?_ (fun hHeld2 => ?_)
    · exact (HPUT.out _ _ _ HA8.out).keep ((List.sublist_cons_self _ _).trans (List.sublist_append_right _ _))
    clear hK' K'
    try simp only [Act.put, List.setIfInBounds_toArray, List.set_cons_zero, List.set_cons_succ]
    refine wpAnyH_done (by kernel_rfl) ?_ _
    go_wp2_with fail
    go_end0
    exact ⟨rfl, HFIN.out _ _ _ _ HR8.out HA8.out⟩
--END1
end Go.Proofs.Ytpgkjgceldleaaa
/- build.Objects: the closure that shuts the last list. -/
namespace Go.Proofs.Ytpgkjgceldleaaa
open Go.RowKit

/-- Whatever the heaps, some boxes more. -/
def AnyH (w0 : World) (KL : List (Nat × Obj)) (W : World) : Prop := ∃ M E, Ats w0 W M (E ++ KL)
section
variable {w0 W : World} {M : List (Nat × List C)} {E KL : List (Nat × Obj)}
theorem AnyH.of (A : Ats w0 W M (E ++ KL)) : AnyH w0 KL W := ⟨M, E, A⟩
theorem AnyH.drew (h : AnyH w0 KL W) : AnyH w0 KL W.drew := by obtain ⟨M, E, A⟩ := h; exact ⟨M, E, A.drew⟩
theorem AnyH.alloc (h : AnyH w0 KL W) (o : Obj) : AnyH w0 KL (W.alloc o) := by obtain ⟨M, E, A⟩ := h; exact ⟨M, _ :: E, A.alloc o⟩
theorem AnyH.cells {g : Nat} {cs : Array Value} {T : TypeId} {fz : Nat × Nat} (hm : (g, Obj.cells cs T fz) ∈ KL) : ∀ W, AnyH w0 KL W → ∀ i, W.cell? ⟨g, i, none⟩ = cs[i]? := by
  rintro W ⟨M, E, A⟩; exact cells_of (A.box _ (List.mem_append_right _ hm))
theorem Ats.allocE (A : Ats w0 W M (E ++ KL)) (o : Obj) : Ats w0 (W.alloc o) M (((W.heap.size, o) :: E) ++ KL) := A.alloc o
end
/-- A box more, that holds an object; an error. -/
def BG (w0 : World) (M : List (Nat × List C)) (KL : List (Nat × Obj)) (o : O) (e : Int) (s1 s2 : Value) (W : World) : Prop := ∃ b, s1 = ptr b ∧ s2 = .int .i64 e ∧ Ats w0 W M ((b, .cells o.cells.toArray 36) :: KL)
theorem BG.mk {w0 W : World} {b : Nat} {M : List (Nat × List C)} {KL : List (Nat × Obj)} {e kk : Int} {kx : Bool} {kn kp kl : Int} {ks : ByteArray} (S : Ats w0 W M ((b, Obj.cells #[.int .i64 kk, .bool kx, .int .i64 kn, .int .i64 kp, .int .i64 kl, .string ks] 36) :: KL)) : BG w0 M KL ⟨kk, kx, kn, kp, kl, ks⟩ e (ptr b) (.int .i64 e) W := ⟨b, rfl, rfl, S⟩
set_option maxRecDepth 100000 in
set_option maxHeartbeats 4000000 in
theorem bshut_any {w0 w : World} {M : List (Nat × List C)} {K : List (Nat × Obj)} {hp bh bl bb : Nat} {L L' : List C} {o : O} {e : Int} {l : List O} {ls : List (List O)} {b0 : Int} {bg : List Int} (S : BAt w0 w ((hp, L) :: M) K hp bh bl bb (l :: ls) (b0 :: bg)) (hr : arrB L l = (L', o, e)) (hls : ls.length ≤ 1000) (hbl : bg.length + 1 = ls.length) :
    Calls Try.prog 30 #[ptr bl, ptr bh, ptr bb] w fun r w' => r = .returned (.tuple #[o.val, .int .i64 e]) ∧ BAt w0 w' ((hp, L') :: M) K hp bh bl bb ls bg := by
  obtain ⟨RR0, vs0, RL, vl, RB, vb, hrows, hRL, hRB, A⟩ := S
  cases hrows with
  | @cons R RR v vs _ _ hR hRR =>
  have hne : bl ≠ bb := by
    have A' := A.keep (((List.sublist_append_right RB _).trans (List.sublist_append_right RL _)).trans (List.sublist_append_right (R ++ RR) _))
    obtain ⟨h, h1, H, X0, D, F, k, nd⟩ := A'
    rw [List.map_cons, List.nodup_cons] at nd
    exact fun e => nd.1 (by rw [e]; exact List.mem_map.2 ⟨_, m0, rfl⟩)
  have hvl := hRR.length
  obtain ⟨n, hn⟩ : ∃ n, ls.length = n := ⟨_, rfl⟩
  rw [hn] at hvl hbl
  rcases hRL with ⟨-, h0, -⟩ | ⟨gL, capL, curL, rfl, rfl, c1, c2, c3, c4, c5⟩
  · simp at h0
  simp only [List.length_cons, hn, Nat.mul_one, List.reverse_cons] at c1 c3 c4 c5
  have cv : curL[n]? = some v := by
    have h := congrArg (fun z => z[n]?) c4
    simp only [List.getElem?_take_of_lt (Nat.lt_succ_self n), Array.getElem?_toList] at h
    rw [h, List.getElem?_append_right (by simp [hvl])]
    simp [hvl]
  rcases hRB with ⟨-, h0, -⟩ | ⟨gB, capB, curB, rfl, rfl, d1, d2, d3, d4, d5⟩
  · simp at h0
  simp only [List.length_cons, hbl, Nat.mul_one] at d1 d3 d4 d5
  obtain ⟨q, hq⟩ : ∃ q, n + 1 = q := ⟨_, rfl⟩
  obtain ⟨p, hp'⟩ : ∃ p, bg.length = p := ⟨_, rfl⟩
  simp only [List.length_cons, hn, hq, hbl] at A
  rw [hq] at c1 c4 c5
  obtain ⟨KT, hKT⟩ : ∃ KT, KT = R ++ (RR ++ ((gL, Obj.cells curL 32) :: (gB, Obj.cells curB 3) :: (bl, lsBox (.slice (some ⟨gL, 0, none⟩) q capL)) :: (bb, bgBox (.slice (some ⟨gB, 0, none⟩) n capB)) :: (bh, hpBox hp) :: K)) := ⟨_, rfl⟩
  have A0 : Ats w0 w ((hp, L) :: M) KT := A.perm (by
    rw [hKT]
    classical refine List.perm_iff_count.2 fun z => ?_
    simp only [List.count_append, List.count_cons, List.count_nil]
    omega)
  have A1 := A0.alloc (Obj.cells #[.int .i64 0, .bool false, .int .i64 0, .int .i64 0, .int .i64 0, .string ⟨#[]⟩] 36)
  generalize hg : w.heap.size = b3 at *
  obtain ⟨KX, hKX⟩ : ∃ KX, KX = (b3, Obj.cells #[.int .i64 0, .bool false, .int .i64 0, .int .i64 0, .int .i64 0, .string ⟨#[]⟩] 36) :: KT := ⟨_, rfl⟩
  rw [← hKX] at A1
  have m3 : (b3, Obj.cells #[.int .i64 0, .bool false, .int .i64 0, .int .i64 0, .int .i64 0, .string ⟨#[]⟩] 36) ∈ KX := by rw [hKX]; exact m0
  have mbl : (bl, lsBox (.slice (some ⟨gL, 0, none⟩) q capL)) ∈ KX := by rw [hKX, hKT]; simp
  have mbb : (bb, bgBox (.slice (some ⟨gB, 0, none⟩) n capB)) ∈ KX := by rw [hKX, hKT]; simp
  have mbh : (bh, hpBox hp) ∈ KX := by rw [hKX, hKT]; simp
  have mgL : (gL, Obj.cells curL 32) ∈ KX := by rw [hKX, hKT]; simp
  obtain ⟨av, cv', hv, hcv⟩ := rowG_slice hR
  have hrow : 0 < l.length → ∃ g cur fz, av = some ⟨g, 0, none⟩ ∧ (g, Obj.cells cur 36 fz) ∈ KX ∧ ∀ i x, l[i]? = some x → ∀ j, j < 6 → cur[i * 6 + j]? = x.cells[j]? := fun h0 => by
    obtain ⟨g, cap, cur, e1, e2, e3⟩ := hR.shape h0
    rw [hv] at e1
    simp only [Value.slice.injEq] at e1
    refine ⟨g, cur, (0, 0), e1.1, by rw [hKX, hKT, e2]; exact List.mem_cons_of_mem _ (List.mem_append_left _ m0), fun i x hx j hj => ?_⟩
    have hi : i < l.length := (List.getElem?_eq_some_iff.1 hx).1
    rw [e3 _ (by omega)]
    exact flatB_at l i j x hx hj
  obtain ⟨m, hm⟩ : ∃ m, l.length = m := ⟨_, rfl⟩
  rw [hm] at hcv hrow hv
  subst hv
  have HAR := hid' (fun W E (A : Ats w0 W ((hp, L) :: M) (E ++ KX)) => barr_any A av m cv' l hm hcv (fun h => by obtain ⟨g, cur, fz, h1, h2, h3⟩ := hrow h; exact ⟨g, cur, fz, h1, List.mem_append_right _ h2, h3⟩) hr)
  have q1 : (q : Int) - 1 = n := by omega
  have p1 : (n : Int) - 1 = p := by omega
  have qn := IntWalk.i64_in (n : Int) (by omega)
  have pn := IntWalk.i64_in (p : Int) (by omega)
  have n0 : (0 : Int) ≤ n := by omega
  have p0 : (0 : Int) ≤ p := by omega
  have nq : (n : Int) < q := by omega
  have nc : (n : Int) ≤ capL := by omega
  have pc : (p : Int) ≤ capB := by omega
  have HF := hid' (fun W (A : Ats w0 W ((hp, L') :: M) ((bl, lsBox (.slice (some ⟨gL, 0, none⟩) n capL)) :: (bb, bgBox (.slice (some ⟨gB, 0, none⟩) p capB)) :: (gL, Obj.cells curL 32) :: (gB, Obj.cells curB 3) :: (RR ++ (bh, hpBox hp) :: K))) => (show BAt w0 W ((hp, L') :: M) K hp bh bl bb ls bg by
    refine ⟨RR, vs, [(gL, Obj.cells curL 32)], _, [(gB, Obj.cells curB 3)], _, hRR, .inr ⟨gL, capL, curL, rfl, rfl, by omega, c2, by omega, ?_, by rw [List.length_reverse, hvl, hn, Nat.mul_one]⟩, .inr ⟨gB, capB, curB, rfl, rfl, by omega, d2, by omega, ?_, by rw [List.length_map, List.length_reverse, hp', Nat.mul_one]⟩, ?_⟩
    · have h := congrArg (List.take n) c4
      rw [List.take_take, Nat.min_eq_left (by omega), List.take_left' (by rw [List.length_reverse, hvl])] at h
      rw [hn, Nat.mul_one, h]
    · have h := congrArg (List.take p) d4
      rw [List.take_take, Nat.min_eq_left (by omega), List.reverse_cons, List.map_append, List.take_left' (by rw [List.length_map, List.length_reverse, hp'])] at h
      rw [hp', Nat.mul_one, h]
    · rw [hn, hp']
      refine A.perm ?_
      classical refine List.perm_iff_count.2 fun z => ?_
      simp only [List.count_append, List.count_cons, List.count_nil]
      omega))
  have HKX := hid' hKX
  have HKT := hid' hKT
  clear c1 c2 c3 c4 c5 d1 d2 d3 d4 d5 hR hRR hKX hKT hvl hq hbl hp' hls hm hcv hrow hr A0 A hn
  obtain ⟨kk, kx, kn, kp, kl, ks⟩ := o
  go_enter Try.func30, Try.ntmps30
  go_upto_region 1 with (fail)
  generalize hW : w.alloc _ = w1 at *
  clear hW hg
  (try clear Rb); (try clear yb); (try clear Zb)
  have Rb := cells_of (A1.box _ mbl)
  have yb := blk_lt (A1.box _ mbl)
  (try simp only at Rb yb)
  go_upto_region 2 with (fail)
  clear Rb yb
  have QL := AnyH.cells (w0 := w0) mbl
  have QH := AnyH.cells (w0 := w0) mbh
  have QG := AnyH.cells (w0 := w0) mgL
  have ll := blk_lt (A1.box _ mbl)
  have lh := blk_lt (A1.box _ mbh)
  have lg := blk_lt (A1.box _ mgL)
  simp only at ll lh lg
  go_cut [6, 7] (fun s1 s2 wx => BG w0 ((hp, L') :: M) KX ⟨kk, kx, kn, kp, kl, ks⟩ e s1 s2 wx)
  case first =>
    have hY : AnyH w0 KX w1 := AnyH.of (E := []) A1
    have E0 : Ats w0 w1.drew ((hp, L) :: M) ([] ++ KX) := A1.drew
    have E1 : Ats w0 (w1.alloc (Obj.cells #[.int .i64 0, .bool false, .int .i64 0, .int .i64 0, .int .i64 0, .string ⟨#[]⟩] 36)).drew ((hp, L) :: M) ([(w1.heap.size, Obj.cells #[.int .i64 0, .bool false, .int .i64 0, .int .i64 0, .int .i64 0, .string ⟨#[]⟩] 36)] ++ KX) := (A1.alloc _).drew
    have F0 : AnyH w0 KX w1.drew := AnyH.of E0
    have F1 : AnyH w0 KX (w1.alloc (Obj.cells #[.int .i64 0, .bool false, .int .i64 0, .int .i64 0, .int .i64 0, .string ⟨#[]⟩] 36)).drew := AnyH.of E1
    clear A1
    go_region_held3 (fun W' => AnyH w0 KX W') (first | (with_reducible assumption) | (with_reducible exact AnyH.alloc (by with_reducible assumption) _) | (with_reducible exact AnyH.drew (by with_reducible assumption)) | (with_reducible exact AnyH.drew (AnyH.alloc (by with_reducible assumption) _)))
      ((go_at_call 31; refine (HAR.out _ _ (by with_reducible assumption)).mono ?_; rintro r wb ⟨rfl, SB⟩; have hB0 := AnyH.of SB; (try simp only [List.cons_append, List.nil_append] at SB); (try have yz := blk_lt (SB.box _ m0)); (try simp only at yz); (try have Rz := cells_of (SB.box _ m0)); (try simp only at Rz); (try have Zz := free_of (SB.box _ m0)); (try simp only at Zz); (try (with_reducible have t1 := AnyH.of (E := [_]) (KL := KX) (SB.putO kk kx kn kp kl ks)))))
    all_goals
      go_wp2_with fail
      go_meet
    · have S9 := SB.alloc (Obj.cells #[.int .i64 kk, .bool kx, .int .i64 kn, .int .i64 kp, .int .i64 kl, .string ks] 36)
      with_reducible exact BG.mk S9
    · with_reducible exact BG.mk (SB.putO kk kx kn kp kl ks)
  case rest =>
  obtain ⟨b6, rfl, rfl, A2⟩ := hcut
  have A2 : Ats w0 wc ((hp, L') :: M) ((b6, Obj.cells #[.int .i64 kk, .bool kx, .int .i64 kn, .int .i64 kp, .int .i64 kl, .string ks] 36) :: KX) := A2
  clear A1 QL QH QG ll lh lg HAR
  (try clear Rl); (try clear yl); (try clear Zl)
  have Rl := cells_of (A2.box _ (List.mem_cons_of_mem _ mbl))
  have yl := blk_lt (A2.box _ (List.mem_cons_of_mem _ mbl))
  have Zl := free_of (A2.box _ (List.mem_cons_of_mem _ mbl))
  (try clear Rb); (try clear yb); (try clear Zb)
  have Rb := cells_of (A2.box _ (List.mem_cons_of_mem _ mbb))
  have yb := blk_lt (A2.box _ (List.mem_cons_of_mem _ mbb))
  have Zb := free_of (A2.box _ (List.mem_cons_of_mem _ mbb))
  (try simp only at Rl yl Zl Rb yb Zb)
  go_upto_region 3 with (fail)
  have hne' : bb ≠ bl := fun e => hne e.symm
  go_region
  have A3 := A2.perm (K' := (bl, lsBox (.slice (some ⟨gL, 0, none⟩) q capL)) :: (bb, bgBox (.slice (some ⟨gB, 0, none⟩) n capB)) :: (b6, Obj.cells #[.int .i64 kk, .bool kx, .int .i64 kn, .int .i64 kp, .int .i64 kl, .string ks] 36) :: (b3, Obj.cells #[.int .i64 0, .bool false, .int .i64 0, .int .i64 0, .int .i64 0, .string ⟨#[]⟩] 36) :: (gL, Obj.cells curL 32) :: (gB, Obj.cells curB 3) :: (R ++ (RR ++ (bh, hpBox hp) :: K))) (by
    rw [HKX.out, HKT.out]
    classical refine List.perm_iff_count.2 fun z => ?_
    simp only [List.count_append, List.count_cons]
    omega)
  have A4 := ((A3.put 0 (.slice (some ⟨gL, 0, none⟩) n capL)).perm (List.Perm.swap _ _ _)).put 0 (.slice (some ⟨gB, 0, none⟩) p capB)
  have A5 : Ats w0 ((wc.setCell ⟨bl, 0, none⟩ (.slice (some ⟨gL, 0, none⟩) n capL)).setCell ⟨bb, 0, none⟩ (.slice (some ⟨gB, 0, none⟩) p capB)).drew ((hp, L') :: M) ((bb, bgBox (.slice (some ⟨gB, 0, none⟩) p capB)) :: (bl, lsBox (.slice (some ⟨gL, 0, none⟩) n capL)) :: (b6, Obj.cells #[.int .i64 kk, .bool kx, .int .i64 kn, .int .i64 kp, .int .i64 kl, .string ks] 36) :: (b3, Obj.cells #[.int .i64 0, .bool false, .int .i64 0, .int .i64 0, .int .i64 0, .string ⟨#[]⟩] 36) :: (gL, Obj.cells curL 32) :: (gB, Obj.cells curB 3) :: (R ++ (RR ++ (bh, hpBox hp) :: K))) := A4.drew
  have A6 := A5.perm (K' := (b3, Obj.cells #[.int .i64 0, .bool false, .int .i64 0, .int .i64 0, .int .i64 0, .string ⟨#[]⟩] 36) :: (b6, Obj.cells #[.int .i64 kk, .bool kx, .int .i64 kn, .int .i64 kp, .int .i64 kl, .string ks] 36) :: (R ++ ((bl, lsBox (.slice (some ⟨gL, 0, none⟩) n capL)) :: (bb, bgBox (.slice (some ⟨gB, 0, none⟩) p capB)) :: (gL, Obj.cells curL 32) :: (gB, Obj.cells curB 3) :: (RR ++ (bh, hpBox hp) :: K)))) (by
    classical refine List.perm_iff_count.2 fun z => ?_
    simp only [List.count_append, List.count_cons]
    omega)
  clear A2 A3 A4 A5 Rl yl Zl Rb yb Zb
  generalize ((wc.setCell ⟨bl, 0, none⟩ _).setCell ⟨bb, 0, none⟩ _).drew = w5 at *
  (try clear Rr); (try clear yr); (try clear Zr)
  have Rr := cells_of (A6.box _ m0)
  have yr := blk_lt (A6.box _ m0)
  have Zr := free_of (A6.box _ m0)
  (try clear Rk); (try clear yk); (try clear Zk)
  have Rk := cells_of (A6.box _ m1)
  have yk := blk_lt (A6.box _ m1)
  (try simp only at Rr yr Zr Rk yk)
  go_wp2_with fail
  have A7 := A6.putO kk kx kn kp kl ks
  have R7 := cells_of (A7.box _ m0)
  refine bodyPost_ret (v := .tuple #[O.val ⟨kk, kx, kn, kp, kl, ks⟩, .int .i64 e]) ?_ rfl ⟨rfl, HF.out _ (A7.keep (((List.sublist_append_right R _).trans (List.sublist_cons_self _ _)).trans (List.sublist_cons_self _ _)))⟩
  simp [results, Try.results30, go_sem, R7]
end Go.Proofs.Ytpgkjgceldleaaa
/- Regions that draw their order: a condition on the world that holds till a late operation (a store) comes up. -/
namespace Go.Proofs.Ytpgkjgceldleaaa
open Go.RowKit

section
variable {P : Program} {ops : Array Oper} {Q : Exit → Act → World → Prop} {md : Region.Mode} {S : World → Prop} {late : List Nat}

/-- One of the late operations has come up. -/
def offL (late : List Nat) (listed : Array Bool) : Bool := late.any fun j => listed.getD j true
/-- Whatever order is picked from here on, and S holds behind every operation, till a late one comes up. -/
def wpAnyL (P : Program) (md : Region.Mode) (ops : Array Oper) (Q : Exit → Act → World → Prop) (S : World → Prop) (late : List Nat) : Nat → Array Bool → Act → World → Prop
  | 0, listed, a, w => Region.ready md ops listed = [] ∧ Q .normal a w
  | fuel + 1, listed, a, w =>
    (Region.ready md ops listed = [] → Q .normal a w) ∧
    ∀ i ∈ Region.ready md ops listed, wpOp P ops Q i (fun a' w' => (offL late (listed.setIfInBounds i true) = false → S w') ∧ wpAnyL P md ops Q S late fuel (listed.setIfInBounds i true) a' w') a w
theorem wpAny_of_late : ∀ (fuel : Nat) (listed : Array Bool) (a : Act) (w : World), wpAnyL P md ops Q S late fuel listed a w → wpAny P md ops Q fuel listed a w
  | 0, _, _, _, h => h
  | fuel + 1, _, _, _, h => ⟨h.1, fun i hi => wpOp_mono (fun a' w' h' => wpAny_of_late fuel _ a' w' h'.2) (h.2 i hi)⟩
/-- Every late operation waits for number i. -/
def waitL (md : Region.Mode) (ops : Array Oper) (late : List Nat) (i : Nat) : Bool := late.all fun j => match ops[j]? with
  | some o => o.after.any fun e => Region.binds md e && e.on == i
  | none => false
theorem wait_not {i j : Nat} {oj : Oper} (h : waitL md ops late i = true) (hj : ops[j]? = some oj) (hl : j ∈ late) : ∃ e ∈ oj.after, Region.binds md e = true ∧ e.on = i := by
  have := List.all_eq_true.1 h j hl
  rw [hj] at this
  obtain ⟨e, he, h2⟩ := Array.any_eq_true'.1 this
  rw [Bool.and_eq_true, beq_iff_eq] at h2
  exact ⟨e, he, h2⟩
theorem off_set {listed : Array Bool} {j : Nat} (h : offL late listed = false) (hj : j ∉ late) : offL late (listed.setIfInBounds j true) = false := by
  unfold offL at *
  rw [List.any_eq_false] at *
  intro k hk
  have hjk : j ≠ k := fun e => hj (e ▸ hk)
  rw [getD_set_ne true hjk]
  exact h k hk
theorem off_unset {listed : Array Bool} {j : Nat} (h : offL late (listed.setIfInBounds j true) = false) : offL late listed = false := by
  unfold offL at *
  rw [List.any_eq_false] at *
  intro k hk
  have := h k hk
  by_cases hjk : j = k
  · subst hjk
    intro e
    rcases Nat.lt_or_ge j listed.size with hlt | hlt
    · simp [hlt] at this
    · simp at this
  · rw [getD_set_ne true hjk] at this
    exact this
theorem wpAnyL_first {i : Nat} {oi : Oper} {v : Value} (hi : ops[i]? = some oi) (hsel : ∀ (j : Nat) (o : Oper) cs b, ops[j]? = some o → o.op ≠ .select cs b) (hwt : waitL md ops late i = true) (hil : i ∉ late)
    (hQ : ∀ c a w, Q (.panic c) (a.put oi.dst v) w → Q (.panic c) a w) :
    ∀ (fuel : Nat) (listed : Array Bool) (a : Act) (w : World),
      (∀ j oj, ops[j]? = some oj → j ≠ i → listed.getD j true = false → (∀ e ∈ oj.after, Region.binds md e = true → e.on ≠ i) → oi.apart ops oj = true) →
      i ∈ Region.ready md ops listed → YieldsIf P ops S oi v a → S w → offL late listed = false →
      wpAnyL P md ops Q S late fuel (listed.setIfInBounds i true) (a.put oi.dst v) w → wpAnyL P md ops Q S late (fuel + 1) listed a w := by
  intro fuel
  induction fuel with
  | zero =>
    intro listed a w _ hr hy hS hoff H
    refine ⟨fun h => (by rw [h] at hr; cases hr), fun j hj => ?_⟩
    by_cases hji : j = i
    · subst hji; exact hy.wpOp hi hS ⟨fun _ => hS, H⟩
    · have := ready_mono hj hji
      rw [H.1] at this
      cases this
  | succ fuel ih =>
    intro listed a w hfree hr hy hS hoff H
    refine ⟨fun h => (by rw [h] at hr; cases hr), fun j hj => ?_⟩
    by_cases hji : j = i
    · subst hji; exact hy.wpOp hi hS ⟨fun _ => hS, H⟩
    · have h1 := H.2 j (ready_mono hj hji)
      obtain ⟨hjun, oj, hoj, hall⟩ := mem_ready.1 hj
      have hnot : ∀ e ∈ oj.after, Region.binds md e = true → e.on ≠ i := fun e he hb heq => by
        have h1 := hall e he hb
        have h0 := (mem_ready.1 hr).1
        rw [heq] at h1
        rcases Nat.lt_or_ge i listed.size with h' | h'
        · simp [h'] at h0 h1; rw [h0] at h1; cases h1
        · simp [Array.getElem?_eq_none h'] at h1
      have hjl : j ∉ late := fun hl => by
        obtain ⟨e, he, hb, heq⟩ := wait_not hwt hoj hl
        exact hnot e he hb heq
      have h2 := wpOp_putIf hoj (hfree j oj hoj hji hjun hnot) (fun cs b => hsel i oi cs b hi) (fun cs b => hsel j oj cs b hoj) hQ hy h1
      have hfree' : ∀ k ok, ops[k]? = some ok → k ≠ i → (listed.setIfInBounds j true).getD k true = false →
          (∀ e ∈ ok.after, Region.binds md e = true → e.on ≠ i) → oi.apart ops ok = true := fun k ok hk hki hun hno => by
        refine hfree k ok hk hki ?_ hno
        by_cases hjk : j = k
        · subst hjk; exact hjun
        · rw [getD_set_ne true hjk] at hun; exact hun
      have hoffj : offL late (listed.setIfInBounds j true) = false := off_set hoff hjl
      have hoffij : offL late ((listed.setIfInBounds i true).setIfInBounds j true) = false := off_set (off_set hoff hil) hjl
      refine wpOp_mono (fun a' w' h3 => ⟨fun _ => h3.2.1 hoffij, ih (listed.setIfInBounds j true) a' w' hfree' (ready_mono hr (Ne.symm hji)) h3.1 (h3.2.1 hoffij) hoffj ?_⟩) h2
      rw [Array.setIfInBounds_comm _ _ hji]
      exact h3.2.2
/-- Take number i first: every late operation waits for it, and none has come up. -/
theorem wpAnyL_take {i : Nat} {oi : Oper} {v : Value} {fuel : Nat} {listed : Array Bool} {a : Act} {w : World} (hi : ops[i]? = some oi)
    (hs : Region.noSelect ops = true) (hwt : waitL md ops late i = true) (hil : late.contains i = false) (hoff : offL late listed = false) (hf : Region.free md ops listed i = true) (hr : (Region.ready md ops listed).contains i = true)
    (hQ : ∀ c a w, Q (.panic c) (a.put oi.dst v) w → Q (.panic c) a w) (hy : YieldsIf P ops S oi v a) (hS : S w)
    (h : wpAnyL P md ops Q S late fuel (listed.setIfInBounds i true) (a.put oi.dst v) w) : wpAnyL P md ops Q S late (fuel + 1) listed a w :=
  wpAnyL_first hi (Region.noSelect_spec hs) hwt (fun hm => by rw [List.contains_iff_mem.2 hm] at hil; exact absurd hil (by decide)) hQ fuel listed a w (Region.free_spec hi hf) (by simpa using hr) hy hS hoff h
theorem wpAnyL_firstP {i : Nat} {oi : Oper} {v : Value} (hi : ops[i]? = some oi) (hsel : ∀ (j : Nat) (o : Oper) cs b, ops[j]? = some o → o.op ≠ .select cs b) (hil : i ∉ late)
    (hQ : ∀ c a w, Q (.panic c) (a.put oi.dst v) w → Q (.panic c) a w) :
    ∀ (fuel : Nat) (listed : Array Bool) (a : Act) (w : World),
      (∀ j oj, ops[j]? = some oj → j ≠ i → listed.getD j true = false → (∀ e ∈ oj.after, Region.binds md e = true → e.on ≠ i) → oi.apart ops oj = true) →
      i ∈ Region.ready md ops listed → YieldsIf P ops (fun _ => True) oi v a → (offL late listed = false → S w) →
      wpAnyL P md ops Q S late fuel (listed.setIfInBounds i true) (a.put oi.dst v) w → wpAnyL P md ops Q S late (fuel + 1) listed a w := by
  intro fuel
  induction fuel with
  | zero =>
    intro listed a w _ hr hy hS H
    refine ⟨fun h => (by rw [h] at hr; cases hr), fun j hj => ?_⟩
    by_cases hji : j = i
    · subst hji; exact hy.wpOp hi trivial ⟨fun h => hS (off_unset h), H⟩
    · have := ready_mono hj hji
      rw [H.1] at this
      cases this
  | succ fuel ih =>
    intro listed a w hfree hr hy hS H
    refine ⟨fun h => (by rw [h] at hr; cases hr), fun j hj => ?_⟩
    by_cases hji : j = i
    · subst hji; exact hy.wpOp hi trivial ⟨fun h => hS (off_unset h), H⟩
    · have h1 := H.2 j (ready_mono hj hji)
      obtain ⟨hjun, oj, hoj, hall⟩ := mem_ready.1 hj
      have hnot : ∀ e ∈ oj.after, Region.binds md e = true → e.on ≠ i := fun e he hb heq => by
        have h1 := hall e he hb
        have h0 := (mem_ready.1 hr).1
        rw [heq] at h1
        rcases Nat.lt_or_ge i listed.size with h' | h'
        · simp [h'] at h0 h1; rw [h0] at h1; cases h1
        · simp [Array.getElem?_eq_none h'] at h1
      have h2 := wpOp_putIf hoj (hfree j oj hoj hji hjun hnot) (fun cs b => hsel i oi cs b hi) (fun cs b => hsel j oj cs b hoj) hQ hy h1
      have hfree' : ∀ k ok, ops[k]? = some ok → k ≠ i → (listed.setIfInBounds j true).getD k true = false →
          (∀ e ∈ ok.after, Region.binds md e = true → e.on ≠ i) → oi.apart ops ok = true := fun k ok hk hki hun hno => by
        refine hfree k ok hk hki ?_ hno
        by_cases hjk : j = k
        · subst hjk; exact hjun
        · rw [getD_set_ne true hjk] at hun; exact hun
      have hSj : ∀ w', (offL late ((listed.setIfInBounds i true).setIfInBounds j true) = false → S w') → (offL late (listed.setIfInBounds j true) = false → S w') := fun w' h h' => h (by
        rw [Array.setIfInBounds_comm _ _ (Ne.symm hji)]
        exact off_set h' hil)
      refine wpOp_mono (fun a' w' h3 => ⟨hSj w' h3.2.1, ih (listed.setIfInBounds j true) a' w' hfree' (ready_mono hr (Ne.symm hji)) h3.1 (hSj w' h3.2.1) ?_⟩) h2
      rw [Array.setIfInBounds_comm _ _ hji]
      exact h3.2.2
/-- What yields its value in whatever world may be taken first at any time. -/
theorem wpAnyL_pure {i : Nat} {oi : Oper} {v : Value} {fuel : Nat} {listed : Array Bool} {a : Act} {w : World} (hi : ops[i]? = some oi)
    (hs : Region.noSelect ops = true) (hil : late.contains i = false) (hf : Region.free md ops listed i = true) (hr : (Region.ready md ops listed).contains i = true)
    (hQ : ∀ c a w, Q (.panic c) (a.put oi.dst v) w → Q (.panic c) a w) (hy : YieldsIf P ops (fun _ => True) oi v a) (hS : S w)
    (h : wpAnyL P md ops Q S late fuel (listed.setIfInBounds i true) (a.put oi.dst v) w) : wpAnyL P md ops Q S late (fuel + 1) listed a w :=
  wpAnyL_firstP hi (Region.noSelect_spec hs) (fun hm => by rw [List.contains_iff_mem.2 hm] at hil; exact absurd hil (by decide)) hQ fuel listed a w (Region.free_spec hi hf) (by simpa using hr) hy (fun _ => hS) h
/-- Each of the operations rs comes up next. -/
def AllReadyL (P : Program) (md : Region.Mode) (ops : Array Oper) (Q : Exit → Act → World → Prop) (S : World → Prop) (late : List Nat) (fuel : Nat) (listed : Array Bool) (a : Act) (w : World) (rs : List Nat) : Prop :=
  ∀ i ∈ rs, wpOp P ops Q i (fun a' w' => (offL late (listed.setIfInBounds i true) = false → S w') ∧ wpAnyL P md ops Q S late fuel (listed.setIfInBounds i true) a' w') a w
theorem AllReadyL.nil {fuel : Nat} {listed : Array Bool} {a : Act} {w : World} : AllReadyL P md ops Q S late fuel listed a w [] := fun _ h => by cases h
/-- Behind an operation that is not late S is shown anew, and handed on. -/
theorem AllReadyL.cons {fuel : Nat} {listed : Array Bool} {a : Act} {w : World} {i : Nat} {o : Oper} {rs : List Nat} (ho : ops[i]? = some o)
    (h : ∀ K' : Act → World → Prop, Shut (∀ a w, S w → (S w → wpAnyL P md ops Q S late fuel (listed.setIfInBounds i true) a w) → K' a w) → if Region.wanted o (yielded ops a.tmps) = true then Oper.wp P o a w K' Q else K' (a.put o.dst undef) w)
    (hs : AllReadyL P md ops Q S late fuel listed a w rs) : AllReadyL P md ops Q S late fuel listed a w (i :: rs) := fun j hj => by
  rcases List.mem_cons.1 hj with rfl | hj
  · exact wpOp_step ho (fun K' hK => h K' (fun a w hS hW => hK a w ⟨fun _ => hS, hW hS⟩))
  · exact hs j hj
/-- Behind a late operation S is asked no more. -/
theorem AllReadyL.behind {fuel : Nat} {listed : Array Bool} {a : Act} {w : World} {i : Nat} {o : Oper} {rs : List Nat} (ho : ops[i]? = some o) (hoff : offL late (listed.setIfInBounds i true) = true)
    (h : ∀ K' : Act → World → Prop, Shut (∀ a w, wpAnyL P md ops Q S late fuel (listed.setIfInBounds i true) a w → K' a w) → if Region.wanted o (yielded ops a.tmps) = true then Oper.wp P o a w K' Q else K' (a.put o.dst undef) w)
    (hs : AllReadyL P md ops Q S late fuel listed a w rs) : AllReadyL P md ops Q S late fuel listed a w (i :: rs) := fun j hj => by
  rcases List.mem_cons.1 hj with rfl | hj
  · exact wpOp_step ho (fun K' hK => h K' (fun a w hW => hK a w ⟨fun h0 => absurd (hoff.symm.trans h0) (by decide), hW⟩))
  · exact hs j hj
theorem wpAnyL_ready {rs : List Nat} {fuel : Nat} {listed : Array Bool} {a : Act} {w : World} (hr : Region.ready md ops listed = rs) (hne : rs ≠ [])
    (h : AllReadyL P md ops Q S late fuel listed a w rs) : wpAnyL P md ops Q S late (fuel + 1) listed a w :=
  ⟨fun h0 => absurd (hr ▸ h0) hne, hr ▸ h⟩
theorem wpAnyL_done {listed : Array Bool} {a : Act} {w : World} (hr : Region.ready md ops listed = []) (h : Q .normal a w) : ∀ fuel, wpAnyL P md ops Q S late fuel listed a w
  | 0 => ⟨hr, h⟩
  | _ + 1 => ⟨fun _ => h, by rw [hr]; simp⟩
theorem wp_region_late {id : Nat} {a : Act} {w : World} (hm : P.follows .mixedOrders = true) (hS : S w.drew)
    (h : S w.drew → wpAnyL P .any ops Q S late ops.size (Array.replicate ops.size false) a w.drew) : (Code.region id ops true).wp P Q a w :=
  wp_region_any hm (wpAny_of_late _ _ _ _ (h hS))
end
end Go.Proofs.Ytpgkjgceldleaaa
/- build.Objects: plain; what lies open, among boxes. -/
namespace Go.Proofs.Ytpgkjgceldleaaa
open Go.RowKit

/-- The name of a sign that is one. -/
def signN (k : Int) : ByteArray := if k = 9 then ⟨#[91]⟩ else if k = 10 then ⟨#[93]⟩ else if k = 11 then ⟨#[60, 60]⟩ else ⟨#[62, 62]⟩
/-- The word's size and kind are what a string and an int can be. -/
def TokB (t : Tok) : Prop := t.s.size ≤ 9223372036854775807 ∧ -9223372036854775808 ≤ t.kind ∧ t.kind ≤ 9223372036854775807
abbrev exeN (s : ByteArray) : O := ⟨5, true, 0, 0, 0, s⟩
/-- The object of a word that opens and closes nothing; F: what a name stands for. -/
def leafB (F : List C → ByteArray → O × Int) (L : List C) (t : Tok) : List C × O × Int :=
  if t.kind = 6 then stringH L t.s else if t.kind = 5 then (L, F L t.s)
  else if t.kind = 1 then (L, ⟨3, false, t.n, 0, 0, ⟨#[]⟩⟩, 0) else if t.kind = 2 then (L, ⟨4, false, t.n, 0, 0, ⟨#[]⟩⟩, 0)
  else if t.kind = 3 ∨ t.kind = 4 then (L, ⟨5, decide (t.kind = 3), 0, 0, 0, t.s⟩, 0) else (L, exeN (signN t.kind), 0)
/-- What Objects has: the heap, the lists, where they began. -/
abbrev OSt := List C × List (List O) × List Int
def putB (o : O) : List (List O) → List (List O)
  | l :: ls => (l ++ [o]) :: ls
  | [] => []
/-- One word: what is left, or the heap, the place and the error. -/
def stepO (F : List C → ByteArray → O × Int) (i : Int) (t : Tok) (s : OSt) : OSt ⊕ (List C × Int × Int) :=
  if mayT t = false then .inr (s.1, i, 1)
  else if t.kind = 7 then if s.2.2.length = 20 then .inr (s.1, i, 5) else .inl (s.1, [] :: s.2.1, i :: s.2.2)
  else if t.kind = 8 then match s.2.2, s.2.1 with
    | _ :: bg, l :: ls => if (arrB s.1 l).2.2 = 0 then .inl ((arrB s.1 l).1, putB (arrB s.1 l).2.1 ls, bg) else .inr ((arrB s.1 l).1, i, (arrB s.1 l).2.2)
    | _, _ => .inr (s.1, i, 3)
  else if (leafB F s.1 t).2.2 = 0 then .inl ((leafB F s.1 t).1, putB (leafB F s.1 t).2.1 s.2.1, s.2.2) else .inr ((leafB F s.1 t).1, i, (leafB F s.1 t).2.2)
def runO (F : List C → ByteArray → O × Int) : Int → List Tok → OSt → OSt ⊕ (List C × Int × Int)
  | _, [], s => .inl s
  | i, t :: ts, s => match stepO F i t s with
    | .inl s' => runO F (i + 1) ts s'
    | .inr e => .inr e
theorem runO_snoc (F : List C → ByteArray → O × Int) (ts : List Tok) (t : Tok) : ∀ (i : Int) (s s' : OSt), runO F i ts s = .inl s' → runO F i (ts ++ [t]) s = stepO F (i + ts.length) t s' := by
  induction ts with
  | nil =>
    intro i s s' h
    simp only [runO, Sum.inl.injEq] at h
    subst h
    simp only [List.nil_append, runO, List.length_nil, Int.ofNat_zero, Int.add_zero]
    cases stepO F i t s <;> rfl
  | cons u ts ih =>
    intro i s s' h
    simp only [runO, List.cons_append] at h ⊢
    cases hs : stepO F i u s with
    | inr e => rw [hs] at h; simp at h
    | inl s2 =>
      rw [hs] at h
      simp only at h ⊢
      rw [ih _ _ _ h]
      congr 1
      simp only [List.length_cons]
      omega
theorem runO_err (F : List C → ByteArray → O × Int) (ts us : List Tok) : ∀ (i : Int) (s : OSt) (e : List C × Int × Int), runO F i ts s = .inr e → runO F i (ts ++ us) s = .inr e := by
  induction ts with
  | nil => intro i s e h; simp [runO] at h
  | cons u ts ih =>
    intro i s e h
    simp only [runO, List.cons_append] at h ⊢
    cases hs : stepO F i u s with
    | inr e' => rw [hs] at h; exact h
    | inl s2 =>
      rw [hs] at h
      exact ih _ _ _ h
/-- All of Objects: the heap, the objects, the place and the error. -/
def objsB (F : List C → ByteArray → O × Int) (L : List C) (ts : List Tok) : List C × List O × Int × Int :=
  match runO F 0 ts (L, [[]], []) with
  | .inr (L', at_, e) => (L', [], at_, e)
  | .inl (L', ls, bg) => match bg with
    | b :: _ => (L', [], b, 4)
    | [] => (L', ls.headD [], 0, 0)
section
variable {F : List C → ByteArray → O × Int} {i : Int} {tk tv tp : Int} {ts : ByteArray} {L L1 : List C} {l0 : List O} {ls0 ls : List (List O)} {bg : List Int} {o : O} {e1 b0 : Int}
theorem step_may (h : mayT ⟨tk, tv, ts, tp⟩ = false) : stepO F i ⟨tk, tv, ts, tp⟩ (L, ls, bg) = .inr (L, i, 1) := by unfold stepO; rw [if_pos h]
theorem step_full (h : mayT ⟨7, tv, ts, tp⟩ = true) (h20 : bg.length = 20) : stepO F i ⟨7, tv, ts, tp⟩ (L, ls, bg) = .inr (L, i, 5) := by
  unfold stepO; rw [if_neg (by rw [h]; decide), if_pos rfl, if_pos h20]
theorem step_open (h : mayT ⟨7, tv, ts, tp⟩ = true) (h20 : bg.length ≠ 20) : stepO F i ⟨7, tv, ts, tp⟩ (L, ls, bg) = .inl (L, [] :: ls, i :: bg) := by
  unfold stepO; rw [if_neg (by rw [h]; decide), if_pos rfl, if_neg h20]
theorem step_bare (h : mayT ⟨8, tv, ts, tp⟩ = true) : stepO F i ⟨8, tv, ts, tp⟩ (L, ls, []) = .inr (L, i, 3) := by
  unfold stepO; rw [if_neg (by rw [h]; decide), if_neg (by decide : ¬ (8 : Int) = 7), if_pos rfl]
theorem step_shut (h : mayT ⟨8, tv, ts, tp⟩ = true) (ha : arrB L l0 = (L1, o, 0)) : stepO F i ⟨8, tv, ts, tp⟩ (L, l0 :: ls, b0 :: bg) = .inl (L1, putB o ls, bg) := by
  unfold stepO; rw [if_neg (by rw [h]; decide), if_neg (by decide : ¬ (8 : Int) = 7), if_pos rfl]
  simp only [ha, if_true]
theorem step_shutE (h : mayT ⟨8, tv, ts, tp⟩ = true) (ha : arrB L l0 = (L1, o, e1)) (he : e1 ≠ 0) : stepO F i ⟨8, tv, ts, tp⟩ (L, l0 :: ls, b0 :: bg) = .inr (L1, i, e1) := by
  unfold stepO; rw [if_neg (by rw [h]; decide), if_neg (by decide : ¬ (8 : Int) = 7), if_pos rfl]
  simp only [ha, if_neg he]
theorem step_leaf (h : mayT ⟨tk, tv, ts, tp⟩ = true) (h7 : tk ≠ 7) (h8 : tk ≠ 8) (ha : leafB F L ⟨tk, tv, ts, tp⟩ = (L1, o, 0)) : stepO F i ⟨tk, tv, ts, tp⟩ (L, l0 :: ls0, bg) = .inl (L1, (l0 ++ [o]) :: ls0, bg) := by
  unfold stepO; rw [if_neg (by rw [h]; decide), if_neg h7, if_neg h8, ha]
  rfl
theorem step_leafE (h : mayT ⟨tk, tv, ts, tp⟩ = true) (h7 : tk ≠ 7) (h8 : tk ≠ 8) (ha : leafB F L ⟨tk, tv, ts, tp⟩ = (L1, o, e1)) (he : e1 ≠ 0) : stepO F i ⟨tk, tv, ts, tp⟩ (L, ls, bg) = .inr (L1, i, e1) := by
  unfold stepO; rw [if_neg (by rw [h]; decide), if_neg h7, if_neg h8, ha, if_neg he]
theorem leaf_1 : leafB F L ⟨1, tv, ts, tp⟩ = (L, ⟨3, false, tv, 0, 0, ⟨#[]⟩⟩, 0) := rfl
theorem leaf_2 : leafB F L ⟨2, tv, ts, tp⟩ = (L, ⟨4, false, tv, 0, 0, ⟨#[]⟩⟩, 0) := rfl
theorem leaf_3 : leafB F L ⟨3, tv, ts, tp⟩ = (L, ⟨5, true, 0, 0, 0, ts⟩, 0) := rfl
theorem leaf_4 : leafB F L ⟨4, tv, ts, tp⟩ = (L, ⟨5, false, 0, 0, 0, ts⟩, 0) := rfl
theorem leaf_5 : leafB F L ⟨5, tv, ts, tp⟩ = (L, F L ts) := rfl
theorem leaf_6 : leafB F L ⟨6, tv, ts, tp⟩ = stringH L ts := rfl
theorem leaf_o (h6 : tk ≠ 6) (h5 : tk ≠ 5) (h1 : tk ≠ 1) (h2 : tk ≠ 2) (h3 : tk ≠ 3) (h4 : tk ≠ 4) : leafB F L ⟨tk, tv, ts, tp⟩ = (L, ⟨5, true, 0, 0, 0, signN tk⟩, 0) := by
  unfold leafB
  rw [if_neg h6, if_neg h5, if_neg h1, if_neg h2, if_neg (fun h => h.elim h3 h4)]
end
section
variable {w0 w w' : World} {M M' : List (Nat × List C)} {K K' : List (Nat × Obj)} {hp bh bl bb : Nat} {ls : List (List O)} {bg : List Int}
theorem BAt.over (S : BAt w0 w M K hp bh bl bb ls bg) (h : ∀ E, Ats w0 w M (E ++ K) → Ats w0 w' M' (E ++ K')) : BAt w0 w' M' K' hp bh bl bb ls bg := by
  obtain ⟨RR, vs, RL, vl, RB, vb, h1, h2, h3, A⟩ := S
  refine ⟨RR, vs, RL, vl, RB, vb, h1, h2, h3, ?_⟩
  have := h (RR ++ (RL ++ (RB ++ [(bl, lsBox vl), (bb, bgBox vb), (bh, hpBox hp)]))) (by simpa using A)
  simpa using this
theorem BAt.alloc (S : BAt w0 w M K hp bh bl bb ls bg) (o : Obj) : BAt w0 (w.alloc o) M ((w.heap.size, o) :: K) hp bh bl bb ls bg := S.over fun _ A => (A.alloc o).perm List.perm_middle.symm
theorem BAt.keep (S : BAt w0 w M K hp bh bl bb ls bg) (h : K'.Sublist K) : BAt w0 w M K' hp bh bl bb ls bg := S.over fun _ A => A.keep (h.append_left _)
theorem BAt.perm (S : BAt w0 w M K hp bh bl bb ls bg) (h : K.Perm K') : BAt w0 w M K' hp bh bl bb ls bg := S.over fun _ A => A.perm (h.append_left _)
theorem BAt.putO {b : Nat} {c0 c1 c2 c3 c4 c5 : Value} {T : TypeId} (S : BAt w0 w M ((b, .cells #[c0, c1, c2, c3, c4, c5] T) :: K) hp bh bl bb ls bg) (kk : Int) (kx : Bool) (kn kp kl : Int) (ks : ByteArray) :
    BAt w0 ((((((w.setCell ⟨b, 0, none⟩ (.int .i64 kk)).setCell ⟨b, 1, none⟩ (.bool kx)).setCell ⟨b, 2, none⟩ (.int .i64 kn)).setCell ⟨b, 3, none⟩ (.int .i64 kp)).setCell ⟨b, 4, none⟩ (.int .i64 kl)).setCell ⟨b, 5, none⟩ (.string ks)) M ((b, .cells #[.int .i64 kk, .bool kx, .int .i64 kn, .int .i64 kp, .int .i64 kl, .string ks] T) :: K) hp bh bl bb ls bg :=
  S.over fun _ A => ((A.perm List.perm_middle).putO kk kx kn kp kl ks).perm List.perm_middle.symm
/-- A call that leaves the boxes. -/
theorem BAt.ask {f : Nat} {args : Array Value} {P : Value → Prop} (S : BAt w0 w M K hp bh bl bb ls bg)
    (h : ∀ E, Ats w0 w M (E ++ K) → Calls Try.prog f args w fun e w' => ∃ r, e = .returned r ∧ P r ∧ Ats w0 w' M' (E ++ K)) :
    Calls Try.prog f args w fun e w' => ∃ r, e = .returned r ∧ P r ∧ BAt w0 w' M' K hp bh bl bb ls bg := by
  obtain ⟨RR, vs, RL, vl, RB, vb, h1, h2, h3, A⟩ := S
  refine (h (RR ++ (RL ++ (RB ++ [(bl, lsBox vl), (bb, bgBox vb), (bh, hpBox hp)]))) (by simpa using A)).mono ?_
  rintro e w' ⟨r, e1, e2, A'⟩
  exact ⟨r, e1, e2, RR, vs, RL, vl, RB, vb, h1, h2, h3, by simpa using A'⟩
theorem BAt.askR {f : Nat} {args : Array Value} {r : Value} (S : BAt w0 w M K hp bh bl bb ls bg)
    (h : ∀ E, Ats w0 w M (E ++ K) → Calls Try.prog f args w fun e w' => e = .returned r ∧ Ats w0 w' M' (E ++ K)) :
    Calls Try.prog f args w fun e w' => e = .returned r ∧ BAt w0 w' M' K hp bh bl bb ls bg := by
  obtain ⟨RR, vs, RL, vl, RB, vb, h1, h2, h3, A⟩ := S
  refine (h (RR ++ (RL ++ (RB ++ [(bl, lsBox vl), (bb, bgBox vb), (bh, hpBox hp)]))) (by simpa using A)).mono ?_
  rintro e w' ⟨e1, A'⟩
  exact ⟨e1, RR, vs, RL, vl, RB, vb, h1, h2, h3, by simpa using A'⟩
theorem BAt.box (S : BAt w0 w M K hp bh bl bb ls bg) (q : Nat × Obj) (hq : q ∈ K) : w.heap[q.1]? = some q.2 := by
  obtain ⟨RR, vs, RL, vl, RB, vb, h1, h2, h3, A⟩ := S
  exact A.box q (by simp [hq])
theorem BAt.hbox (S : BAt w0 w M K hp bh bl bb ls bg) : w.heap[bh]? = some (hpBox hp) := by
  obtain ⟨RR, vs, RL, vl, RB, vb, h1, h2, h3, A⟩ := S
  exact A.box (bh, hpBox hp) (by simp)
theorem BAt.began (S : BAt w0 w M K hp bh bl bb ls bg) : ∃ a c, w.heap[bb]? = some (bgBox (.slice a bg.length c)) := by
  obtain ⟨RR, vs, RL, vl, RB, vb, h1, h2, h3, A⟩ := S
  obtain ⟨a, c, rfl, -⟩ := rowG_slice h3
  exact ⟨a, c, A.box (bb, bgBox (.slice a bg.length c)) (by simp)⟩
/-- Where the last one began. -/
theorem BAt.last {b : Int} (S : BAt w0 w M K hp bh bl bb ls (b :: bg)) : ∃ g c, w.heap[bb]? = some (bgBox (.slice (some ⟨g, 0, none⟩) (bg.length + 1) c)) ∧ w.cell? ⟨g, bg.length, none⟩ = some (.int .i64 b) := by
  obtain ⟨RR, vs, RL, vl, RB, vb, h1, h2, h3, A⟩ := S
  obtain ⟨g, cap, cur, rfl, rfl, hc⟩ := h3.shape (by simp)
  refine ⟨g, cap, A.box (bb, bgBox (.slice (some ⟨g, 0, none⟩) (bg.length + 1) cap)) (by simp), ?_⟩
  rw [cells_of (A.box (g, .cells cur 3) (by simp)) bg.length, hc _ (by simp)]
  simp
theorem BAt.base (S : BAt w0 w M K hp bh bl bb ls bg) : Ats w0 w M K := by
  obtain ⟨RR, vs, RL, vl, RB, vb, h1, h2, h3, A⟩ := S
  refine A.keep ?_
  exact (((((List.sublist_cons_self _ _).trans (List.sublist_cons_self _ _)).trans (List.sublist_cons_self _ _)).trans (List.sublist_append_right RB _)).trans (List.sublist_append_right RL _)).trans (List.sublist_append_right RR _)
/-- The first list, and its row. -/
theorem BAt.first {l : List O} (S : BAt w0 w M K hp bh bl bb [l] bg) : ∃ g c v R, w.heap[bl]? = some (lsBox (.slice (some ⟨g, 0, none⟩) 1 c)) ∧ w.cell? ⟨g, 0, none⟩ = some v ∧ RowG 36 6 R v l.length (l.flatMap O.cells) ∧ ∀ w', Chg NoB w w' → Ats w0 w' M (R ++ K) := by
  obtain ⟨RR0, vs0, RL, vl, RB, vb, hrows, h2, h3, A⟩ := S
  cases hrows with
  | @cons R RR v vs _ _ hR hRR =>
  cases hRR
  obtain ⟨g, cap, cur, rfl, rfl, hc⟩ := h2.shape (by simp)
  refine ⟨g, cap, v, R, A.box (bl, lsBox (.slice (some ⟨g, 0, none⟩) 1 cap)) (by simp), ?_, hR, fun w' X => ?_⟩
  · rw [cells_of (A.box (g, .cells cur 32) (by simp)) 0, hc _ (by simp)]
    rfl
  · refine (A.pure X).keep ?_
    rw [List.append_nil]
    exact List.Sublist.append_left (((((List.sublist_cons_self _ _).trans (List.sublist_cons_self _ _)).trans (List.sublist_cons_self _ _)).trans (List.sublist_append_right RB _)).trans (List.sublist_append_right _ _)) _
end
end Go.Proofs.Ytpgkjgceldleaaa
