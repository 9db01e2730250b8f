/- Rxt, Rxv -/
import Derived.Test.YtpgkjgceldleaaaGreatZRxs
import Derived.Test.YtpgkjgceldleaaaGreatZHeapd
import Derived.Test.YtpgkjgceldleaaaGreatZRefj
/- The reference's heap: Set, whole. -/
namespace Go.Proofs.YtpgkjgceldleaaaGreat
open Go.RowKit

set_option maxRecDepth 100000 in
set_option maxHeartbeats 2000000 in
/-- Set, where it stores nothing though the place is there. -/
theorem rset_no {J0 : List (Nat × Obj)} {w0 w : World} {M : List (Nat × List C)} {E K : List (Nat × Obj)} {gp : Nat} {L : List C} (H : RefK J0 gp L E) (A : Ats w0 w M (E ++ K)) {kk kp kl xk xn xp xl az lz i e : Int} {kx xx : Bool} {ks xs : ByteArray} {N : Nat} {c : C}
    (hc : L[N]? = some c) (hv : roomV L ⟨kk, kx, N, kp, kl, ks⟩ = (az, lz, 0)) (i0 : 0 ≤ i) (i1 : i < lz)
    (hcs : (c.locked = true ∧ e = 1) ∨ (c.locked = false ∧ kk = 8 ∧ (xk != 3) = true ∧ e = 6) ∨ (c.locked = false ∧ kk = 8 ∧ xk = 3 ∧ xn < 0 ∧ e = 2) ∨ (c.locked = false ∧ kk = 8 ∧ xk = 3 ∧ 0 ≤ xn ∧ 255 < xn ∧ e = 2) ∨ (c.locked = false ∧ (kk == 8) = false ∧ mayH L ⟨xk, xx, xn, xp, xl, xs⟩ = false ∧ e = 1)) :
    Calls Tryz.prog 115 #[ptr gp, O.val ⟨kk, kx, N, kp, kl, ks⟩, .int .i64 i, O.val ⟨xk, xx, xn, xp, xl, xs⟩] w fun r w' => r = .returned (.int .i64 e) ∧ Ats w0 w' M (E ++ K) := by
  have A1 := (A.alloc (Obj.cells #[.int .i64 kk, .bool kx, .int .i64 N, .int .i64 kp, .int .i64 kl, .string ks] 38)).alloc (Obj.cells #[.int .i64 xk, .bool xx, .int .i64 xn, .int .i64 xp, .int .i64 xl, .string xs] 38)
  simp only [World.size_alloc] at A1
  obtain ⟨KL, hKL⟩ : ∃ KL, KL = (w.heap.size + 1, Obj.cells #[.int .i64 xk, .bool xx, .int .i64 xn, .int .i64 xp, .int .i64 xl, .string xs] 38) :: (w.heap.size, Obj.cells #[.int .i64 kk, .bool kx, .int .i64 N, .int .i64 kp, .int .i64 kl, .string ks] 38) :: (E ++ K) := ⟨_, rfl⟩
  have hsub : (E ++ K).Sublist KL := by rw [hKL]; exact (List.sublist_cons_self _ _).trans (List.sublist_cons_self _ _)
  have mk : (w.heap.size, Obj.cells #[.int .i64 kk, .bool kx, .int .i64 N, .int .i64 kp, .int .i64 kl, .string ks] 38) ∈ KL := by rw [hKL]; simp
  have mx : (w.heap.size + 1, Obj.cells #[.int .i64 xk, .bool xx, .int .i64 xn, .int .i64 xp, .int .i64 xl, .string xs] 38) ∈ KL := by rw [hKL]; simp
  rw [← hKL] at A1
  clear hKL A
  have hEL : ∀ q ∈ E, q ∈ KL := fun q hq => hsub.subset (List.mem_append_left _ hq)
  have hRM := fun W (A : Ats w0 W M KL) => rroom_any H A hEL ⟨kk, kx, N, kp, kl, ks⟩ hv
  have hMY := fun W (A : Ats w0 W M KL) => rhmay_any H A hEL ⟨xk, xx, xn, xp, xl, xs⟩ rfl
  obtain ⟨g, cap, cur, vi, vb, hb, hcap, hg, hi, hcell, v0, v1, v2, v3⟩ := H.cell hc
  have hbK := hEL _ hb
  have hgK := hEL _ hg
  have hcapi : (N : Int) < cap := by omega
  have hni : (N : Int) < L.length := by omega
  have HRM := hid' hRM
  have HMY := hid' hMY
  generalize hlk : c.locked = lk at *
  clear hRM hMY hv hc hb hg hcell H hEL hlk
  rcases hcs with ⟨rfl, rfl⟩ | ⟨rfl, rfl, hx3, rfl⟩ | ⟨rfl, rfl, rfl, x0, rfl⟩ | ⟨rfl, rfl, rfl, x0, x1, rfl⟩ | ⟨rfl, hk8, hm, rfl⟩
  case inr.inr.inr.inr =>
    rw [hm] at HMY
    clear hm
    generalize L.length = nl at *
    go_enter Tryz.func115, Tryz.ntmps115
    go_wp2_with fail
    refine (HRM.out _ A1).mono ?_
    rintro r w1 ⟨rfl, A2⟩
    clear A1
    (try clear Rk); (try clear yk); (try clear Zk)
    have Rk := cells_of (A2.box _ mk)
    have yk := blk_lt (A2.box _ mk)
    (try clear Rx); (try clear yx); (try clear Zx)
    have Rx := cells_of (A2.box _ mx)
    have yx := blk_lt (A2.box _ mx)
    (try clear Rg); (try clear yg); (try clear Zg)
    have Rg := cells_of (A2.box _ hbK)
    have yg := blk_lt (A2.box _ hbK)
    (try clear Rr); (try clear yr); (try clear Zr)
    have Rr := cells_of (A2.box _ hgK)
    have yr := blk_lt (A2.box _ hgK)
    (try simp only at Rk yk Rx yx Rg yg Rr yr)
    go_upto_region 6 with (fail)
    go_quiet (fail)
    have A3 := A2.pure ((Chg.refl NoB w1).drewN nq)
    clear A2
    generalize w1.drewN nq = w2 at *
    (try clear Rk); (try clear yk); (try clear Zk)
    have Rk := cells_of (A3.box _ mk)
    have yk := blk_lt (A3.box _ mk)
    (try clear Rx); (try clear yx); (try clear Zx)
    have Rx := cells_of (A3.box _ mx)
    have yx := blk_lt (A3.box _ mx)
    (try clear Rg); (try clear yg); (try clear Zg)
    have Rg := cells_of (A3.box _ hbK)
    have yg := blk_lt (A3.box _ hbK)
    (try clear Rr); (try clear yr); (try clear Zr)
    have Rr := cells_of (A3.box _ hgK)
    have yr := blk_lt (A3.box _ hgK)
    (try simp only at Rk yk Rx yx Rg yg Rr yr)
    go_upto_region 16 with (fail)
    go_wp2_with (first | (go_at_call 78; refine (HMY.out _ A3).mono ?_; rintro r w3 ⟨rfl, A3b⟩; clear A3; have A3 := A3b; clear A3b))
    go_wp2_with fail
    go_ret
    exact ⟨rfl, A3.keep hsub⟩
  all_goals
    clear HMY
    generalize L.length = nl at *
    go_enter Tryz.func115, Tryz.ntmps115
    go_wp2_with fail
    refine (HRM.out _ A1).mono ?_
    rintro r w1 ⟨rfl, A2⟩
    clear A1
    (try clear Rk); (try clear yk); (try clear Zk)
    have Rk := cells_of (A2.box _ mk)
    have yk := blk_lt (A2.box _ mk)
    (try clear Rx); (try clear yx); (try clear Zx)
    have Rx := cells_of (A2.box _ mx)
    have yx := blk_lt (A2.box _ mx)
    (try clear Rg); (try clear yg); (try clear Zg)
    have Rg := cells_of (A2.box _ hbK)
    have yg := blk_lt (A2.box _ hbK)
    (try clear Rr); (try clear yr); (try clear Zr)
    have Rr := cells_of (A2.box _ hgK)
    have yr := blk_lt (A2.box _ hgK)
    (try simp only at Rk yk Rx yx Rg yg Rr yr)
    go_upto_region 6 with (fail)
    go_quiet (fail)
    have A3 := A2.pure ((Chg.refl NoB w1).drewN nq)
    clear A2
    generalize w1.drewN nq = w2 at *
    (try clear Rk); (try clear yk); (try clear Zk)
    have Rk := cells_of (A3.box _ mk)
    have yk := blk_lt (A3.box _ mk)
    (try clear Rx); (try clear yx); (try clear Zx)
    have Rx := cells_of (A3.box _ mx)
    have yx := blk_lt (A3.box _ mx)
    (try clear Rg); (try clear yg); (try clear Zg)
    have Rg := cells_of (A3.box _ hbK)
    have yg := blk_lt (A3.box _ hbK)
    (try clear Rr); (try clear yr); (try clear Zr)
    have Rr := cells_of (A3.box _ hgK)
    have yr := blk_lt (A3.box _ hgK)
    (try simp only at Rk yk Rx yx Rg yg Rr yr)
    go_wp2_with fail
    go_ret
    exact ⟨rfl, A3.keep hsub⟩
set_option maxRecDepth 100000 in
set_option maxHeartbeats 2000000 in
theorem rset_any {J0 : List (Nat × Obj)} {w0 w : World} {M : List (Nat × List C)} {E K : List (Nat × Obj)} {gp : Nat} {L : List C} (H : RefK J0 gp L E) (A : Ats w0 w M (E ++ K)) (o : O) (i : Int) (x : O) {L' : List C} {e : Int} (hr : setH L o i x = (L', e)) :
    Calls Tryz.prog 115 #[ptr gp, o.val, .int .i64 i, x.val] w fun r w' => r = .returned (.int .i64 e) ∧ ∃ E', RefK J0 gp L' E' ∧ Ats w0 w' M (E' ++ K) := by
  obtain ⟨kk, kx, kn, kp, kl, ks⟩ := o
  obtain ⟨xk, xx, xn, xp, xl, xs⟩ := x
  rw [setH] at hr
  by_cases hf : findE L ⟨kk, kx, kn, kp, kl, ks⟩ = 0
  · obtain ⟨c, hc, hv, hk, n0, n1, a0, l0, hal, hh, hM⟩ := find_cell hf
    rw [if_neg (by simp [hf]), hc] at hr
    simp only at hc n0 n1 hk hr
    obtain ⟨N, rfl⟩ : ∃ N : Nat, kn = N := ⟨kn.toNat, by omega⟩
    simp only [Int.toNat_natCast] at hc hr
    by_cases hi : i < 0 ∨ lenOf c ⟨kk, kx, N, kp, kl, ks⟩ ≤ i
    · rw [if_pos hi] at hr
      simp only [Prod.mk.injEq] at hr
      obtain ⟨rfl, rfl⟩ := hr
      have A1 := (A.alloc (Obj.cells #[.int .i64 kk, .bool kx, .int .i64 N, .int .i64 kp, .int .i64 kl, .string ks] 38)).alloc (Obj.cells #[.int .i64 xk, .bool xx, .int .i64 xn, .int .i64 xp, .int .i64 xl, .string xs] 38)
      simp only [World.size_alloc] at A1
      have hsub : ∀ a b : Nat × Obj, (E ++ K).Sublist (a :: b :: (E ++ K)) := fun a b => (List.sublist_cons_self _ _).trans (List.sublist_cons_self _ _)
      have HRM := hid' (rroom_any H A1 (fun q hq => (hsub _ _).subset (List.mem_append_left _ hq)) ⟨kk, kx, N, kp, kl, ks⟩ hv)
      have HH := hid' H
      clear H hv hM hh hal hf hk hc A A1
      generalize lenOf c _ = lz at *
      generalize atOf _ = az at *
      rcases (show i < 0 ∨ (0 ≤ i ∧ lz ≤ i) by omega) with h | ⟨h, h'⟩
      all_goals
        clear hi
        go_enter Tryz.func115, Tryz.ntmps115
        go_wp2_with fail
        refine HRM.out.mono ?_
        rintro r w1 ⟨rfl, A2⟩
        go_wp2_with fail
        go_ret
        exact ⟨rfl, E, HH.out, A2.keep (hsub _ _)⟩
    · rw [if_neg hi] at hr
      have i0 : 0 ≤ i := by omega
      have i1 : i < lenOf c ⟨kk, kx, N, kp, kl, ks⟩ := by omega
      have hkt : c.text = true ↔ kk = 8 := by
        rw [← hk, C.kind]
        cases c.text <;> cases c.dict <;> simp
      by_cases h1 : c.locked = true
      · rw [if_pos h1] at hr
        simp only [Prod.mk.injEq] at hr
        obtain ⟨rfl, rfl⟩ := hr
        exact (rset_no H A hc hv i0 i1 (.inl ⟨h1, rfl⟩)).mono fun r w' h => ⟨h.1, E, H, h.2⟩
      · rw [if_neg h1] at hr
        simp only [Bool.not_eq_true] at h1
        by_cases h2 : c.text = true
        · rw [if_pos h2] at hr
          have hk8 := hkt.1 h2
          by_cases h3 : xk = 3
          · rw [if_neg (by simp [h3])] at hr
            by_cases h4 : xn < 0 ∨ 255 < xn
            · rw [if_pos h4] at hr
              simp only [Prod.mk.injEq] at hr
              obtain ⟨rfl, rfl⟩ := hr
              rcases (show xn < 0 ∨ (0 ≤ xn ∧ 255 < xn) by omega) with h5 | ⟨h5, h6⟩
              · exact (rset_no H A hc hv i0 i1 (.inr (.inr (.inl ⟨h1, hk8, h3, h5, rfl⟩)))).mono fun r w' h => ⟨h.1, E, H, h.2⟩
              · exact (rset_no H A hc hv i0 i1 (.inr (.inr (.inr (.inl ⟨h1, hk8, h3, h5, h6, rfl⟩))))).mono fun r w' h => ⟨h.1, E, H, h.2⟩
            · rw [if_neg h4] at hr
              simp only [Prod.mk.injEq] at hr
              obtain ⟨rfl, rfl⟩ := hr
              have hI : atOf ⟨kk, kx, N, kp, kl, ks⟩ + i = ((atOf ⟨kk, kx, N, kp, kl, ks⟩ + i).toNat : Nat) := by omega
              refine rset_text H A hc hv i0 i1 hI h1 h2 hk8 h3 (by omega) (by omega) ?_
              rw [C.size, if_pos h2] at hal
              omega
          · rw [if_pos (by simpa using h3)] at hr
            simp only [Prod.mk.injEq] at hr
            obtain ⟨rfl, rfl⟩ := hr
            exact (rset_no H A hc hv i0 i1 (.inr (.inl ⟨h1, hk8, by simpa using h3, rfl⟩))).mono fun r w' h => ⟨h.1, E, H, h.2⟩
        · rw [if_neg h2] at hr
          have hk8 : (kk == 8) = false := by simpa using fun h => h2 (hkt.2 h)
          simp only [Bool.not_eq_true] at h2
          by_cases h3 : mayH L ⟨xk, xx, xn, xp, xl, xs⟩ = false
          · rw [if_pos h3] at hr
            simp only [Prod.mk.injEq] at hr
            obtain ⟨rfl, rfl⟩ := hr
            exact (rset_no H A hc hv i0 i1 (.inr (.inr (.inr (.inr ⟨h1, hk8, h3, rfl⟩))))).mono fun r w' h => ⟨h.1, E, H, h.2⟩
          · rw [if_neg h3] at hr
            simp only [Prod.mk.injEq] at hr
            obtain ⟨rfl, rfl⟩ := hr
            have hI : atOf ⟨kk, kx, N, kp, kl, ks⟩ + i = ((atOf ⟨kk, kx, N, kp, kl, ks⟩ + i).toNat : Nat) := by omega
            refine rset_item H A hc hv i0 i1 hI h1 h2 hk8 (by simpa using h3) ?_
            rw [C.size, if_neg (by simp [h2])] at hal
            omega
  · rw [if_pos (by simpa using hf)] at hr
    simp only [Prod.mk.injEq] at hr
    obtain ⟨rfl, rfl⟩ := hr
    have A1 := (A.alloc (Obj.cells #[.int .i64 kk, .bool kx, .int .i64 kn, .int .i64 kp, .int .i64 kl, .string ks] 38)).alloc (Obj.cells #[.int .i64 xk, .bool xx, .int .i64 xn, .int .i64 xp, .int .i64 xl, .string xs] 38)
    simp only [World.size_alloc] at A1
    have hsub : ∀ a b : Nat × Obj, (E ++ K).Sublist (a :: b :: (E ++ K)) := fun a b => (List.sublist_cons_self _ _).trans (List.sublist_cons_self _ _)
    have HRM := hid' (rroom_any H A1 (fun q hq => (hsub _ _).subset (List.mem_append_left _ hq)) ⟨kk, kx, kn, kp, kl, ks⟩ (by rw [roomV, if_pos (by simpa using hf)]))
    have hne : (findE L ⟨kk, kx, kn, kp, kl, ks⟩ != 0) = true := by simpa using hf
    have hne2 : (findE L ⟨kk, kx, kn, kp, kl, ks⟩ == 0) = false := by simpa using hf
    have HH := hid' H
    clear H hf A A1
    generalize findE L _ = fe at *
    go_enter Tryz.func115, Tryz.ntmps115
    go_wp2_with fail
    refine HRM.out.mono ?_
    rintro r w1 ⟨rfl, A2⟩
    go_wp2_with fail
    go_ret
    exact ⟨rfl, E, HH.out, A2.keep (hsub _ _)⟩
end Go.Proofs.YtpgkjgceldleaaaGreat
/- The reference's heap: rows appended onto nothing and copied into, among boxes; a cell to be written beside one to be read. -/
namespace Go.Proofs.YtpgkjgceldleaaaGreat
open Go.RowKit

theorem RowG.rowin {T : TypeId} {sz : Nat} {R : List (Nat × Obj)} {v : Value} {n : Nat} {xs : List Value} (h : RowG T sz R v n xs) : RowIn R T sz v n xs := by
  rcases h with ⟨h1, h2, h3, -⟩ | ⟨g, cap, cur, h1, rfl, h2, h3, h4, h5, h6⟩
  · exact .inl ⟨h1, h2, h3⟩
  · exact .inr ⟨g, cap, cur, (0, 0), h1, List.mem_singleton.2 rfl, h2, h3, h4, h5, h6⟩
/-- append of a whole row onto nothing. -/
theorem wpList_append_rowin {ops : Array Oper} {rest : List Oper} {o : Oper} {a : Act} {w : World} {Q : Exit → Act → World → Prop} (hgd : o.guard = none) (s x : Operand) (t : TypeId)
    (ho : o.op = .call { callee := .builtin .append, args := #[s, x], argTypes := #[t, t] })
    (T : TypeId) (i : TypeInfo) (z : Value) (size bytes : Nat) (ht : Tryz.prog.underlying t = some (.slice T)) (hi : Tryz.prog.info? T = some i) (hz : i.zero = some z)
    (hsize : i.size = size) (hby : i.bytes = bytes) (hzs : z.cells.size = size) (hsz : 0 < size)
    {w0 : World} {M : List (Nat × List C)} {J K : List (Nat × Obj)} (A : Ats w0 w M K) (hs : a.eval s = .slice none 0 0)
    (u : Value) (n : Nat) (xs : List Value) (hx : a.eval x = u) (hr : RowIn J T size u n xs) (hJ : ∀ q ∈ J, q ∈ K) (h1 : ∀ u ∈ xs, u.oneCell' = true)
    (h63 : n ≤ maxLen) (hbytes : n * bytes ≤ 140737488355328)
    (h : ∀ a' c' w' R', RowG T size R' (.slice a' n c') n xs → Ats w0 w' M (R' ++ K) → wpList Tryz.prog ops Q rest (a.put o.dst (.slice a' n c')) w') : wpList Tryz.prog ops Q (o :: rest) a w := by
  rcases hr with ⟨rfl, rfl, rfl⟩ | ⟨g, cap, cur, fz, rfl, hm, c1, c2, c3, c4, c5⟩
  · refine wpList_append_own_none hgd s x t ho w.heap.size T i size ht hi (.slice none 0 0) 0 [] hs (World.ownsRow_nil _ _ _ _) hx ?_
    exact h none 0 w [] (.inl ⟨rfl, rfl, rfl, rfl⟩) A
  · refine wpList_append_own w hgd s x t ho w.heap.size T i z size bytes ht hi hz hsize hby hzs hsz (.slice none 0 0) 0 [] hs (World.ownsRow_nil _ _ _ _) ⟨g, 0, none⟩ n cap xs hx c5 (news_take (A.box _ (hJ _ hm)) (n * size) _ c4) h1 (by omega) (by rw [Nat.zero_add]; exact hbytes) (Nat.le_refl _) ?_
    intro v' w' hown hgr _
    obtain ⟨R, hR, A'⟩ := A.ofOwns (Chg.grown (Chg.refl NoB w) hgr (fun k hk => by simp [Value.ownBlock] at hk)) hown
    rw [Nat.zero_add, List.nil_append] at hR
    obtain ⟨a', c', rfl, -⟩ := hR.rowin.slice
    exact h a' c' w' R hR A'
/-- copy of fewer elements than there is room for. -/
theorem run_copy_fit (P : Program) (w : World) (dT sT ty elem : TypeId) (k g o N n dCap : Nat) (a : Addr) (sCap : Nat) (cur : Array Value) (T : TypeId) (fz : Nat × Nat) (cs : List Value) (hNn : n ≤ N)
    (hu : P.underlying dT = some (.slice elem)) (hs : ∀ w, (sizeOf elem).run P w = .ok k w)
    (hg : w.heap[g]? = some (.cells cur T fz)) (hf : fz = (0, 0) ∨ cur.size ≤ fz.1) (hn : cs.length = n * k)
    (hsrc : ∀ j v, cs[j]? = some v → w.cell? (a.add j) = some v) (hfit : o + cs.length ≤ cur.size) (h1 : ∀ v ∈ cs, v.oneCell' = true) :
    ∃ w', (Builtin.copy_ #[dT, sT] ty #[.slice (some ⟨g, o, none⟩) N dCap, .slice (some a) n sCap]).run P w = .ok (goInt n) w' ∧ Chg (· = g) w w' ∧ w'.heap[g]? = some (.cells (splice cur.toList o cs).toArray T fz) := by
  have hl := run_loadCells_list (P := P) w a cs hsrc
  obtain ⟨w', r, X, hg'⟩ := run_storeCells_row P g o T fz cs 0 cur w hg hf (by simpa using hfit) h1
  refine ⟨w', ?_, X, by simpa using hg'⟩
  have hm : Nat.min N n = n := Nat.min_eq_right hNn
  have hm' : Nat.min n N = n := Nat.min_eq_left hNn
  simp [Builtin.copy_, run_underlying hu, Builtin.lenOf, Builtin.firstCells, hs, hm', ← hn, hl, r]
theorem run_copy_zero (P : Program) (w : World) (dT sT ty elem : TypeId) (k : Nat) (dp sp : Option Addr) (N dCap sCap : Nat)
    (hu : P.underlying dT = some (.slice elem)) (hs : ∀ w, (sizeOf elem).run P w = .ok k w) :
    (Builtin.copy_ #[dT, sT] ty #[.slice dp N dCap, .slice sp 0 sCap]).run P w = .ok (goInt 0) w := by
  have hm : Nat.min N 0 = 0 := Nat.min_eq_right (Nat.zero_le _)
  have hm' : Nat.min 0 N = 0 := Nat.min_eq_left (Nat.zero_le _)
  cases dp <;> cases sp <;> simp [Builtin.copy_, run_underlying hu, Builtin.lenOf, Builtin.firstCells, hs, hm', loadCells, loadCellsFrom, storeCells]
/-- copy of a piece of a row among boxes into a row of one's own. -/
theorem copy_into (T ST : TypeId) (k : Nat) (hel : Tryz.prog.elem ST = T) (hun : Tryz.prog.underlying ST = some (.slice T)) (hsz : ∀ w, (sizeOf T).run Tryz.prog w = .ok k w)
    {w0 : World} {M : List (Nat × List C)} {R J K : List (Nat × Obj)} {a1 : Option Addr} {c1 n m : Nat} {u : Value} {xs ys : List Value} (hR : RowG T k R (.slice a1 n c1) n xs) (hu : RowIn J T k u m ys) (hJ : ∀ q ∈ J, q ∈ K) (p q z : Int) (hp : 0 ≤ p) (hq : 0 ≤ q) (hz : 0 ≤ z) (hpz : p + z ≤ n) (hqz : q + z ≤ m) (hone : ∀ x ∈ ys, x.oneCell' = true) :
    ∃ B N c B' c', (∀ W, (Instr.slice ST (.slice a1 n c1) (some (.int .i64 p)) none none).run Tryz.prog W = .ok (.slice B N c) W) ∧
      (∀ W, (Instr.slice ST u (some (.int .i64 q)) (some (.int .i64 (q + z))) none).run Tryz.prog W = .ok (.slice B' z.toNat c') W) ∧
      ∀ ty W, Ats w0 W M (R ++ K) → ∃ W' R', (Builtin.copy_ #[ST, ST] ty #[.slice B N c, .slice B' z.toNat c']).run Tryz.prog W = .ok (goInt z.toNat) W' ∧
        RowG T k R' (.slice a1 n c1) n (splice xs (p.toNat * k) ((ys.drop (q.toNat * k)).take (z.toNat * k))) ∧ Ats w0 W' M (R' ++ K) := by
  have e1 : ∀ W, (Instr.slice ST (.slice a1 n c1) (some (.int .i64 p)) none none).run Tryz.prog W = .ok (sliced a1 p.toNat n c1 k) W := fun W => by
    rw [run_slice_l (w := W) ST a1 n c1 (by rw [hel]; exact hun) .i64 p hp (by omega), hel, hsz]
    rfl
  have hu' := hu
  obtain ⟨au, cu, rfl, hcu⟩ := hu'.slice
  have e2 : ∀ W, (Instr.slice ST (.slice au m cu) (some (.int .i64 q)) (some (.int .i64 (q + z))) none).run Tryz.prog W = .ok (sliced au q.toNat (q + z).toNat cu k) W := fun W => by
    rw [run_slice_lh (w := W) ST au m cu (by rw [hel]; exact hun) .i64 .i64 q (q + z) hq (by omega) (by omega), hel, hsz]
    rfl
  simp only [sliced] at e1 e2
  rw [show (q + z).toNat - q.toNat = z.toNat by omega] at e2
  refine ⟨_, _, _, _, _, e1, e2, fun ty W A => ?_⟩
  by_cases hz0 : z = 0
  · subst hz0
    have e : splice xs (p.toNat * k) ((ys.drop (q.toNat * k)).take ((0 : Int).toNat * k)) = xs := by simp [splice]
    rw [e]
    exact ⟨W, R, run_copy_zero Tryz.prog W ST ST ty T k _ _ _ _ _ hun hsz, hR, A⟩
  · rcases hR with ⟨-, h0, -⟩ | ⟨g, cap, cur, hv, rfl, k1, k2, k3, k4, k5⟩
    · omega
    rcases hu with ⟨-, h0, -⟩ | ⟨g', cap', cur', fz', hv', hm', j1, j2, j3, j4, j5⟩
    · omega
    simp only [Value.slice.injEq] at hv hv'
    obtain ⟨rfl, -, rfl⟩ := hv
    obtain ⟨rfl, -, rfl⟩ := hv'
    have hcur := A.box (g, .cells cur T) (List.mem_append_left _ (List.mem_singleton.2 rfl))
    have hcur' := A.box _ (List.mem_append_right _ (hJ _ hm'))
    have hqk : q.toNat * k + z.toNat * k ≤ m * k := by rw [← Nat.add_mul]; exact Nat.mul_le_mul_right k (by omega)
    have hpk : p.toNat * k + z.toNat * k ≤ n * k := by rw [← Nat.add_mul]; exact Nat.mul_le_mul_right k (by omega)
    have hnk : n * k ≤ c1 * k := Nat.mul_le_mul_right k k1
    have hcl : ((ys.drop (q.toNat * k)).take (z.toNat * k)).length = z.toNat * k := by simp; omega
    have ep : (if c1 = p.toNat then some (⟨g, 0, none⟩ : Addr) else some ((⟨g, 0, none⟩ : Addr).add (p.toNat * k))) = some ⟨g, p.toNat * k, none⟩ := by rw [if_neg (by omega), add_off, Nat.zero_add]
    have eq' : (if cu = q.toNat then some (⟨g', 0, none⟩ : Addr) else some ((⟨g', 0, none⟩ : Addr).add (q.toNat * k))) = some ⟨g', q.toNat * k, none⟩ := by rw [if_neg (by omega), add_off, Nat.zero_add]
    simp only [Option.map_some]
    rw [ep, eq']
    obtain ⟨W', r, Y, hg⟩ := run_copy_fit Tryz.prog W ST ST ty T k g (p.toNat * k) (n - p.toNat) z.toNat (c1 - p.toNat) ⟨g', q.toNat * k, none⟩ (cu - q.toNat) cur T (0, 0) ((ys.drop (q.toNat * k)).take (z.toNat * k)) (by omega) hun hsz hcur (.inl rfl) hcl
      (fun j x hj => by
        rw [List.getElem?_take] at hj
        split at hj
        · rename_i hjz
          rw [List.getElem?_drop, ← j4, List.getElem?_take, if_pos (by omega)] at hj
          rw [add_off, cells_of hcur', ← Array.getElem?_toList]; exact hj
        · simp at hj)
      (by rw [hcl]; omega) (fun x hx => hone x (List.mem_of_mem_drop (List.mem_of_mem_take hx)))
    have hsl : (splice cur.toList (p.toNat * k) ((ys.drop (q.toNat * k)).take (z.toNat * k))).length = cur.size := by
      rw [length_splice _ _ _ (by rw [hcl]; simp; omega)]; simp
    refine ⟨W', [(g, .cells (splice cur.toList (p.toNat * k) ((ys.drop (q.toNat * k)).take (z.toNat * k))).toArray T)], r, .inr ⟨g, c1, _, rfl, rfl, k1, k2, by simpa using hsl.trans k3, ?_, ?_⟩, ?_⟩
    · simp only
      rw [take_splice _ _ _ _ (by rw [hcl]; omega) (by simp; omega), k4]
    · rw [length_splice _ _ _ (by rw [hcl]; omega)]; exact k5
    · exact Ats.renewG A Y hg (.inl rfl)
/-- The boxes of a reference, one cell to be written and all to be read. -/
theorem RefK.open2 {J0 : List (Nat × Obj)} {gp : Nat} {L : List C} {E : List (Nat × Obj)} (H : RefK J0 gp L E) {i : Nat} {c : C} (hc : L[i]? = some c) :
    ∃ J g cap cur vi vb, E = J ++ [(g, Obj.cells cur 143), (gp, refBox (.slice (some ⟨g, 0, none⟩) L.length cap))] ∧ L.length ≤ cap ∧ i < L.length ∧ CellIn J c [.int .i64 c.kind, vi, vb, .bool c.locked] ∧
      cur[i * 4]? = some (.int .i64 c.kind) ∧ cur[i * 4 + 1]? = some vi ∧ cur[i * 4 + 2]? = some vb ∧ cur[i * 4 + 3]? = some (.bool c.locked) ∧
      (∀ (m : Nat) (d : C), L[m]? = some d → ∃ ui ub, CellIn J d [.int .i64 d.kind, ui, ub, .bool d.locked] ∧ cur[m * 4 + 1]? = some ui ∧ cur[m * 4 + 2]? = some ub) ∧
      ∀ (J1 : List (Nat × Obj)) (c' : C) (j : Nat) (v : Value), j < 4 → CellIn (J1 ++ J) c' ([.int .i64 c.kind, vi, vb, .bool c.locked].set j v) → c'.size = c.size →
        RefK J0 gp (L.set i c') ((J1 ++ J) ++ [(g, Obj.cells (cur.setIfInBounds (i * 4 + j) v) 143), (gp, refBox (.slice (some ⟨g, 0, none⟩) L.length cap))]) := by
  have hi := (List.getElem?_eq_some_iff.1 hc).1
  obtain ⟨J, R, lv, rows, hJ0, rfl, hR, hrl, hrc, h1, h2, hnil⟩ := H
  obtain ⟨vs, hvs⟩ : ∃ vs, rows[i]? = some vs := ⟨rows[i]'(by omega), List.getElem?_eq_getElem _⟩
  have hcell := hrc i c vs hc hvs
  have hl4 : ∀ r ∈ rows, r.length = 4 := fun r hr => by
    obtain ⟨k, hk, rfl⟩ := List.getElem_of_mem hr
    exact (hrc k (L[k]'(by omega)) rows[k] (List.getElem?_eq_getElem _) (List.getElem?_eq_getElem _)).len
  rcases hR with ⟨-, h0, -⟩ | ⟨g, cap, cur, rfl, rfl, k1, k2, k3, k4, k5⟩
  · omega
  have hall : ∀ (m : Nat) (d : C) (us : List Value), L[m]? = some d → rows[m]? = some us → ∀ j, j < 4 → cur[m * 4 + j]? = us[j]? := fun m d us hd hus j hj => by
    have hm := (List.getElem?_eq_some_iff.1 hd).1
    rw [← joinV_get rows m j us hl4 hus hj, ← k4, List.getElem?_take, if_pos (by omega), Array.getElem?_toList]
  have hj := hall i c vs hc hvs
  have hcell' := hcell
  obtain ⟨vi, vb, rfl, hi6, hb1, t1, t2⟩ := hcell'
  have v0 := hj 0 (by omega)
  have v1 := hj 1 (by omega)
  have v2 := hj 2 (by omega)
  have v3 := hj 3 (by omega)
  simp only [List.getElem?_cons_zero, List.getElem?_cons_succ, Nat.add_zero] at v0 v1 v2 v3
  refine ⟨J, g, cap, cur, vi, vb, rfl, k1, hi, hcell, v0, v1, v2, v3, fun m d hd => ?_, fun J1 c' j v hj4 hc' hs => ?_⟩
  · have hm := (List.getElem?_eq_some_iff.1 hd).1
    obtain ⟨us, hus⟩ : ∃ us, rows[m]? = some us := ⟨rows[m]'(by omega), List.getElem?_eq_getElem _⟩
    have hcd := hrc m d us hd hus
    have hcd' := hcd
    obtain ⟨ui, ub, rfl, -⟩ := hcd'
    have u1 := hall m d _ hd hus 1 (by omega)
    have u2 := hall m d _ hd hus 2 (by omega)
    simp only [List.getElem?_cons_zero, List.getElem?_cons_succ] at u1 u2
    exact ⟨ui, ub, hcd, u1, u2⟩
  refine ⟨J1 ++ J, [(g, Obj.cells (cur.setIfInBounds (i * 4 + j) v) 143)], _, rows.set i ([.int .i64 c.kind, vi, vb, .bool c.locked].set j v), fun q hq => List.mem_append_right _ (hJ0 q hq), rfl, ?_, by simp [hrl], ?_, by simpa using h1, by rw [used_set hc hs]; exact h2, fun h => ?_⟩
  · refine .inr ⟨g, cap, _, by simp, rfl, by simpa using k1, k2, by simpa using k3, ?_, ?_⟩
    · rw [take_setIf, List.length_set, k4, joinV_set rows i j _ v hl4 hvs hj4]
    · rw [joinV_set rows i j _ v hl4 hvs hj4, List.length_set, List.length_set, k5]
  · intro m d us hm hu
    by_cases e : m = i
    · subst e
      rw [List.getElem?_set_self (by omega)] at hm
      rw [List.getElem?_set_self (by omega)] at hu
      simp only [Option.some.injEq] at hm hu
      subst hm; subst hu
      exact hc'
    · rw [List.getElem?_set_ne (by omega)] at hm
      rw [List.getElem?_set_ne (by omega)] at hu
      exact (hrc m d us hm hu).mono fun q hq => List.mem_append_right _ hq
  · have h7 := congrArg List.length h
    rw [List.length_set, List.length_nil] at h7
    omega
end Go.Proofs.YtpgkjgceldleaaaGreat
