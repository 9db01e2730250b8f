/- Rxm, Rxr, Rxp, Rxu -/
import Derived.Test.YtpgkjgceldleaaaGreatZReff
import Derived.Test.YtpgkjgceldleaaaGreatZRefg
import Derived.Test.YtpgkjgceldleaaaGreatZHeapa
import Derived.OwnWalk
/- The reference's heap: Composite, May, room, Size. -/
namespace Go.Proofs.YtpgkjgceldleaaaGreat
open Go.RowKit

theorem comp_any (o : O) (w : World) : Calls Tryz.prog 135 #[o.val] w fun e w' => e = .returned (.bool (held o)) ∧ Chg NoB w w' := by
  obtain ⟨k, ex, n, a, l, s⟩ := o
  have Hm : Hid (held ⟨k, ex, n, a, l, s⟩ = (k == 9 || k == 8 || k == 10)) := rfl
  go_enter Tryz.func135, Tryz.ntmps135
  go_wp2_with fail
  all_goals
    go_ret
    refine ⟨?_, (Chg.refl _ _).alloc _⟩
    rw [Hm.out]
    simp_all
/-- A cell of the reference's, in its boxes. -/
theorem RefK.cell {J0 : List (Nat × Obj)} {gp : Nat} {L : List C} {E : List (Nat × Obj)} (H : RefK J0 gp L E) {i : Nat} {c : C} (hc : L[i]? = some c) :
    ∃ g cap cur vi vb, (gp, refBox (.slice (some ⟨g, 0, none⟩) L.length cap)) ∈ E ∧ L.length ≤ cap ∧ (g, Obj.cells cur 143) ∈ E ∧ i < L.length ∧ CellIn E c [.int .i64 c.kind, vi, vb, .bool c.locked] ∧
      cur[i * 4]? = some (.int .i64 c.kind) ∧ cur[i * 4 + 1]? = some vi ∧ cur[i * 4 + 2]? = some vb ∧ cur[i * 4 + 3]? = some (.bool c.locked) := by
  have hi := (List.getElem?_eq_some_iff.1 hc).1
  obtain ⟨lv, hb, hrow⟩ := H.parts
  rcases hrow with ⟨rfl, -⟩ | ⟨g, cap, cur, rfl, hcap, hg, hpos, hcell⟩
  · simp at hi
  · obtain ⟨vs, ⟨vi, vb, rfl, h6, h1, t1, t2⟩, hv⟩ := hcell i c hc
    have v0 := hv 0 (by omega)
    have v1 := hv 1 (by omega)
    have v2 := hv 2 (by omega)
    have v3 := hv 3 (by omega)
    simp only [List.getElem?_cons_zero, List.getElem?_cons_succ, Nat.add_zero] at v0 v1 v2 v3
    exact ⟨g, cap, cur, vi, vb, hb, hcap, hg, hi, ⟨vi, vb, rfl, h6, h1, t1, t2⟩, v0, v1, v2, v3⟩
theorem cell_le {L : List C} {i : Nat} {c : C} (hc : L[i]? = some c) (hu : used L ≤ 40000) : c.size ≤ 40000 := by
  have h1 := used_take L i c hc
  have h2 := used_le L (i + 1)
  omega
set_option maxRecDepth 100000 in
set_option maxHeartbeats 1000000 in
/-- The reference's May: as the heap's. -/
theorem rhmay_any {J0 : List (Nat × Obj)} {w0 w : World} {M : List (Nat × List C)} {E K : List (Nat × Obj)} {gp : Nat} {L : List C} (H : RefK J0 gp L E) (A : Ats w0 w M K) (hE : ∀ q ∈ E, q ∈ K) (o : O) {b : Bool} (hr : mayH L o = b) :
    Calls Tryz.prog 78 #[ptr gp, o.val] w fun e w' => e = .returned (.bool b) ∧ Ats w0 w' M K := by
  obtain ⟨kk, kx, kn, kp, kl, ks⟩ := o
  subst hr
  obtain ⟨KL, A1, mk, hKK, hsub⟩ : ∃ KL, Ats w0 (w.alloc (Obj.cells #[.int .i64 kk, .bool kx, .int .i64 kn, .int .i64 kp, .int .i64 kl, .string ks] 38)) M KL ∧ (w.heap.size, Obj.cells #[.int .i64 kk, .bool kx, .int .i64 kn, .int .i64 kp, .int .i64 kl, .string ks] 38) ∈ KL ∧ (∀ q ∈ K, q ∈ KL) ∧ K.Sublist KL := ⟨_, A.alloc _, m0, fun q hq => List.mem_cons_of_mem _ hq, List.sublist_cons_self _ _⟩
  have hMAY := fun W => rmay_any ⟨kk, kx, kn, kp, kl, ks⟩ W
  have hCMP := fun W => comp_any ⟨kk, kx, kn, kp, kl, ks⟩ W
  by_cases hm : mayO ⟨kk, kx, kn, kp, kl, ks⟩ = false
  · have hf : mayH L ⟨kk, kx, kn, kp, kl, ks⟩ = false := by simp [mayH, hm]
    rw [hf]
    simp only [hm] at hMAY
    clear hf hm
    go_enter Tryz.func78, Tryz.ntmps78
    go_wp2_with fail
    refine (hMAY _).mono ?_
    rintro e w1 ⟨rfl, X1⟩
    have A2 := A1.pure X1
    clear A1 X1
    go_wp2_with fail
    go_ret
    exact ⟨rfl, A2.keep hsub⟩
  simp only [Bool.not_eq_false] at hm
  by_cases hh : held ⟨kk, kx, kn, kp, kl, ks⟩ = false
  · have hf : mayH L ⟨kk, kx, kn, kp, kl, ks⟩ = true := by simp [mayH, hm, hh]
    rw [hf]
    simp only [hm] at hMAY
    simp only [hh] at hCMP
    clear hf hm hh
    go_enter Tryz.func78, Tryz.ntmps78
    go_wp2_with fail
    refine (hMAY _).mono ?_
    rintro e w1 ⟨rfl, X1⟩
    have A2 := A1.pure X1
    clear A1 X1
    (try clear Rk); (try clear yk); (try clear Zk)
    have Rk := cells_of (A2.box _ mk)
    have yk := blk_lt (A2.box _ mk)
    (try simp only at Rk yk)
    go_wp2_with fail
    refine (hCMP _).mono ?_
    rintro e w2 ⟨rfl, X2⟩
    have A3 := A2.pure X2
    clear A2 X2
    go_wp2_with fail
    go_ret
    exact ⟨rfl, A3.keep hsub⟩
  simp only [Bool.not_eq_false] at hh
  obtain ⟨n0, n1, a0, a1, l0, l1⟩ := mayO_held hm hh
  simp only at n0 n1 a0 a1 l0 l1
  obtain ⟨N, rfl⟩ : ∃ N : Nat, kn = N := ⟨kn.toNat, by omega⟩
  have hN : ((⟨kk, kx, N, kp, kl, ks⟩ : O).n).toNat = N := by simp
  by_cases hn : L.length ≤ N
  · have hf : mayH L ⟨kk, kx, N, kp, kl, ks⟩ = false := by simp [mayH, hm, hh]; omega
    rw [hf]
    obtain ⟨lv, hb, hrow⟩ := H.parts
    obtain ⟨al, cap, rfl⟩ : ∃ al cap, lv = .slice al L.length cap := by
      rcases hrow with ⟨rfl, rfl⟩ | ⟨g, cap, cur, rfl, -⟩
      · exact ⟨none, 0, rfl⟩
      · exact ⟨_, _, rfl⟩
    have hbK := hKK _ (hE _ hb)
    have hd : decide ((N : Int) < (L.length : Int)) = false := by simp; omega
    have hd2 : decide (N < L.length) = false := by simp; omega
    simp only [hm] at hMAY
    simp only [hh] at hCMP
    clear hf hm hh hrow hb H hE hN hn
    generalize L.length = nl at *
    go_enter Tryz.func78, Tryz.ntmps78
    go_wp2_with fail
    refine (hMAY _).mono ?_
    rintro e w1 ⟨rfl, X1⟩
    have A2 := A1.pure X1
    clear A1 X1
    (try clear Rk); (try clear yk); (try clear Zk)
    have Rk := cells_of (A2.box _ mk)
    have yk := blk_lt (A2.box _ mk)
    (try simp only at Rk yk)
    go_wp2_with fail
    refine (hCMP _).mono ?_
    rintro e w2 ⟨rfl, X2⟩
    have A3 := A2.pure X2
    clear A2 X2
    (try clear Rk); (try clear yk); (try clear Zk)
    have Rk := cells_of (A3.box _ mk)
    have yk := blk_lt (A3.box _ mk)
    (try clear Rg); (try clear yg); (try clear Zg)
    have Rg := cells_of (A3.box _ hbK)
    have yg := blk_lt (A3.box _ hbK)
    (try simp only at Rk yk Rg yg)
    go_wp2_with fail
    go_quiet (fail)
    go_wp2_with fail
    go_ret
    exact ⟨rfl, (A3.keep hsub).pure ((Chg.refl NoB w2).drewN nq)⟩
  · obtain ⟨c, hc⟩ : ∃ c, L[N]? = some c := ⟨L[N]'(by omega), List.getElem?_eq_getElem _⟩
    have hsz := cell_le hc H.bounds.2
    have hf : mayH L ⟨kk, kx, N, kp, kl, ks⟩ = (decide (c.kind = kk) && decide (kp + kl ≤ c.size)) := by
      simp [mayH, hm, hh, hc]; omega
    rw [hf]
    obtain ⟨g, cap, cur, vi, vb, hb, hcap, hg, hi, hcell, v0, v1, v2, v3⟩ := H.cell hc
    have hz := hcell.size
    obtain ⟨vi', vb', hvs, hi6, hb1, -⟩ := hcell
    simp only [List.cons.injEq, true_and, and_true] at hvs
    obtain ⟨rfl, rfl⟩ := hvs
    obtain ⟨ai, ci, rfl, -⟩ := hi6.slice
    obtain ⟨ab, cb, rfl, -⟩ := hb1.slice
    have HS := fun w' => rsize_any c.kind ai ab c.items.length ci c.bytes.length cb c.locked (by omega) (by omega) w'
    rw [hz] at HS
    have hbK := hKK _ (hE _ hb)
    have hgK := hKK _ (hE _ hg)
    have hd : decide ((N : Int) < (L.length : Int)) = true := by simp; omega
    have hcapi : (N : Int) < cap := by omega
    have s0 : (0 : Int) ≤ c.size := by omega
    have s1 : (c.size : Int) ≤ 40000 := by omega
    obtain ⟨Z, hZ⟩ : ∃ Z : Int, (c.size : Int) = Z := ⟨_, rfl⟩
    rw [hZ] at HS s0 s1
    simp only [hZ]
    simp only [hm] at hMAY
    simp only [hh] at hCMP
    have hni : (N : Int) < L.length := by omega
    clear hf hm hh H hE hN hn hc hsz hz hi6 hb1 hZ hg hb hi
    generalize L.length = nl at *
    generalize c.items.length = ni at *
    generalize c.bytes.length = nb at *
    generalize c.kind = ck at *
    generalize c.locked = clk at *
    have HSH := hid' HS
    clear HS
    by_cases hk : ck = kk
    · have hk1 : decide (ck = kk) = true := by simpa using hk
      rw [hk1, Bool.true_and]
      subst hk
      have wr := IntWalk.i64_in (kp + kl) (by omega)
      go_enter Tryz.func78, Tryz.ntmps78
      go_wp2_with fail
      refine (hMAY _).mono ?_
      rintro e w1 ⟨rfl, X1⟩
      have A2 := A1.pure X1
      clear A1 X1
      (try clear Rk); (try clear yk); (try clear Zk)
      have Rk := cells_of (A2.box _ mk)
      have yk := blk_lt (A2.box _ mk)
      (try simp only at Rk yk)
      go_wp2_with fail
      refine (hCMP _).mono ?_
      rintro e w2 ⟨rfl, X2⟩
      have A3 := A2.pure X2
      clear A2 X2
      have Rk := AnyA.cells (w0 := w0) (M := M) mk
      have Rg := AnyA.cells (w0 := w0) (M := M) hbK
      have Rr := AnyA.cells (w0 := w0) (M := M) hgK
      have hS1 : AnyA w0 M KL w2 := A3
      go_upto_region 5 with (fail)
      go_region_held3 (fun W' => AnyA w0 M KL W') (first | (with_reducible assumption) | (with_reducible exact AnyA.pure (by with_reducible assumption) (by with_reducible assumption)) | (with_reducible exact AnyA.drew (by with_reducible assumption)))
        (first | (go_at_call 82; refine (HSH.out _).mono ?_; rintro r w5 ⟨rfl, X5⟩))
      go_wp2_with fail
      go_ret
      have hA5 : AnyA w0 M KL w5 := by assumption
      exact ⟨rfl, Ats.keep hA5 hsub⟩
    · have hk1 : decide (ck = kk) = false := by simpa using hk
      rw [hk1, Bool.false_and]
      go_enter Tryz.func78, Tryz.ntmps78
      go_wp2_with fail
      refine (hMAY _).mono ?_
      rintro e w1 ⟨rfl, X1⟩
      have A2 := A1.pure X1
      clear A1 X1
      (try clear Rk); (try clear yk); (try clear Zk)
      have Rk := cells_of (A2.box _ mk)
      have yk := blk_lt (A2.box _ mk)
      (try simp only at Rk yk)
      go_wp2_with fail
      refine (hCMP _).mono ?_
      rintro e w2 ⟨rfl, X2⟩
      have A3 := A2.pure X2
      clear A2 X2
      (try clear Rk); (try clear yk); (try clear Zk)
      have Rk := cells_of (A3.box _ mk)
      have yk := blk_lt (A3.box _ mk)
      (try clear Rg); (try clear yg); (try clear Zg)
      have Rg := cells_of (A3.box _ hbK)
      have yg := blk_lt (A3.box _ hbK)
      (try clear Rr); (try clear yr); (try clear Zr)
      have Rr := cells_of (A3.box _ hgK)
      have yr := blk_lt (A3.box _ hgK)
      (try simp only at Rk yk Rg yg Rr yr)
      go_wp2_with fail
      go_quiet (fail)
      go_wp2_with fail
      go_ret
      exact ⟨rfl, (A3.keep hsub).pure ((Chg.refl NoB w2).drewN nq)⟩
end Go.Proofs.YtpgkjgceldleaaaGreat
/- The reference's heap: room, Size. -/
namespace Go.Proofs.YtpgkjgceldleaaaGreat
open Go.RowKit

/-- What room answers. -/
def roomV (L : List C) (o : O) : Int × Int × Int := if findE L o ≠ 0 then (0, 0, findE L o) else (atOf o, (L[o.n.toNat]?).elim 0 (fun c => lenOf c o), 0)
theorem roomV_bad {L : List C} {o : O} {a n e : Int} (hr : roomV L o = (a, n, e)) (h : findE L o ≠ 0) : a = 0 ∧ n = 0 ∧ e = findE L o := by
  rw [roomV, if_pos h] at hr
  simp only [Prod.mk.injEq] at hr
  exact ⟨hr.1.symm, hr.2.1.symm, hr.2.2.symm⟩
/-- What a good object stands for. -/
theorem find_cell {L : List C} {o : O} (h : findE L o = 0) : ∃ c, L[o.n.toNat]? = some c ∧ roomV L o = (atOf o, lenOf c o, 0) ∧ c.kind = o.kind ∧ 0 ≤ o.n ∧ o.n < L.length ∧ 0 ≤ atOf o ∧ 0 ≤ lenOf c o ∧ atOf o + lenOf c o ≤ c.size ∧ held o = true ∧ mayH L o = true := by
  obtain ⟨hh, hm, c, hc, hk, hs, hn⟩ := findE_zero h
  obtain ⟨n0, n1, a0, a1, l0, l1⟩ := mayO_held hm hh
  have hM : mayH L o = true := by
    by_cases e : mayH L o = true
    · exact e
    · simp only [Bool.not_eq_true] at e
      rw [findE, if_neg (by simp [hh]), if_pos e] at h
      simp at h
  refine ⟨c, hc, by rw [roomV, if_neg (by simp [h]), hc]; rfl, hk, n0, hn, ?_, ?_, ?_, hh, hM⟩ <;> simp only [atOf, lenOf] <;> split <;> omega
set_option maxRecDepth 100000 in
set_option maxHeartbeats 1000000 in
theorem rroom_any {J0 : List (Nat × Obj)} {w0 w : World} {M : List (Nat × List C)} {E K : List (Nat × Obj)} {gp : Nat} {L : List C} (H : RefK J0 gp L E) (A : Ats w0 w M K) (hE : ∀ q ∈ E, q ∈ K) (o : O) {a n e : Int} (hr : roomV L o = (a, n, e)) :
    Calls Tryz.prog 116 #[ptr gp, o.val] w fun r w' => r = .returned (.tuple #[.int .i64 a, .int .i64 n, .int .i64 e]) ∧ Ats w0 w' M K := by
  obtain ⟨kk, kx, kn, kp, kl, ks⟩ := o
  have hCMP := fun W => comp_any ⟨kk, kx, kn, kp, kl, ks⟩ W
  obtain ⟨KL, A1, mk, hKK, hsub⟩ : ∃ KL, Ats w0 (w.alloc (Obj.cells #[.int .i64 kk, .bool kx, .int .i64 kn, .int .i64 kp, .int .i64 kl, .string ks] 38)) M KL ∧ (w.heap.size, Obj.cells #[.int .i64 kk, .bool kx, .int .i64 kn, .int .i64 kp, .int .i64 kl, .string ks] 38) ∈ KL ∧ (∀ q ∈ K, q ∈ KL) ∧ K.Sublist KL := ⟨_, A.alloc _, m0, fun q hq => List.mem_cons_of_mem _ hq, List.sublist_cons_self _ _⟩
  have hMAY := fun W (A : Ats w0 W M KL) => rhmay_any H A (fun q hq => hKK q (hE q hq)) ⟨kk, kx, kn, kp, kl, ks⟩ rfl
  by_cases hf : findE L ⟨kk, kx, kn, kp, kl, ks⟩ = 0
  · obtain ⟨c, hc, hv, hk, n0, n1, a0, l0, hal, hh, hM⟩ := find_cell hf
    rw [hv] at hr
    simp only [Prod.mk.injEq] at hr
    obtain ⟨hra, hrn, rfl⟩ := hr
    simp only at hc hk n0 n1
    obtain ⟨N, rfl⟩ : ∃ N : Nat, kn = N := ⟨kn.toNat, by omega⟩
    rw [Int.toNat_natCast] at hc
    obtain ⟨g, cap, cur, vi, vb, hb, hcap, hg, hi, hcell, v0, v1, v2, v3⟩ := H.cell hc
    have hbK := hKK _ (hE _ hb)
    have hgK := hKK _ (hE _ hg)
    have hcell' := hcell
    obtain ⟨vi', vb', hvs, hi6, hb1, ht1, ht2⟩ := hcell'
    simp only [List.cons.injEq, true_and, and_true] at hvs
    obtain ⟨rfl, rfl⟩ := hvs
    obtain ⟨ai, ci, rfl, -⟩ := hi6.slice
    have hcapi : (N : Int) < cap := by omega
    have hn2 : N < L.length := hi
    simp only [hh] at hCMP
    simp only [hM] at hMAY
    have hsz : kk = 10 → lenOf c ⟨kk, kx, N, kp, kl, ks⟩ = (c.items.length : Int) := fun h10 => by
      simp only [lenOf, h10, if_pos]
      have : c.text = false := by
        cases ht : c.text
        · rfl
        · rw [C.kind, if_pos ht, h10] at hk; simp at hk
      rw [C.size, if_neg (by simp [this])]
    clear hv hf hh hM hc hi6 hb1 ht1 ht2 hcell hE hb hg H
    by_cases h10 : kk = 10
    · have hn' := hsz h10
      rw [hrn] at hn'
      subst h10
      rw [atOf, if_pos rfl] at hra
      subst hra; subst hn'
      clear hsz hrn hal
      generalize L.length = nl at *
      generalize c.items.length = ni at *
      go_enter Tryz.func116, Tryz.ntmps116
      go_wp2_with fail
      refine (hCMP _).mono ?_
      rintro r w1 ⟨rfl, X1⟩
      have A2 := A1.pure X1
      clear A1 X1
      (try clear Rk); (try clear yk); (try clear Zk)
      have Rk := cells_of (A2.box _ mk)
      have yk := blk_lt (A2.box _ mk)
      (try simp only at Rk yk)
      go_wp2_with fail
      refine (hMAY _ A2).mono ?_
      rintro r w2 ⟨rfl, A3⟩
      clear A2
      (try clear Rk); (try clear yk); (try clear Zk)
      have Rk := cells_of (A3.box _ mk)
      have yk := blk_lt (A3.box _ mk)
      (try clear Rg); (try clear yg); (try clear Zg)
      have Rg := cells_of (A3.box _ hbK)
      have yg := blk_lt (A3.box _ hbK)
      (try clear Rr); (try clear yr); (try clear Zr)
      have Rr := cells_of (A3.box _ hgK)
      have yr := blk_lt (A3.box _ hgK)
      (try simp only at Rk yk Rg yg Rr yr)
      go_wp2_with fail
      go_quiet (fail)
      go_wp2_with fail
      go_ret3
      exact ⟨rfl, (A3.pure ((Chg.refl NoB w2).drewN nq)).keep hsub⟩
    · rw [atOf, if_neg h10] at hra
      rw [lenOf, if_neg h10] at hrn
      simp only at hra hrn
      subst hra; subst hrn
      have hk10 : (kk == 10) = false := by simpa using h10
      clear hsz hal h10
      go_enter Tryz.func116, Tryz.ntmps116
      go_wp2_with fail
      refine (hCMP _).mono ?_
      rintro r w1 ⟨rfl, X1⟩
      have A2 := A1.pure X1
      clear A1 X1
      (try clear Rk); (try clear yk); (try clear Zk)
      have Rk := cells_of (A2.box _ mk)
      have yk := blk_lt (A2.box _ mk)
      (try simp only at Rk yk)
      go_wp2_with fail
      refine (hMAY _ A2).mono ?_
      rintro r w2 ⟨rfl, A3⟩
      clear A2
      (try clear Rk); (try clear yk); (try clear Zk)
      have Rk := cells_of (A3.box _ mk)
      have yk := blk_lt (A3.box _ mk)
      (try simp only at Rk yk)
      go_wp2_with fail
      go_quiet (fail)
      go_wp2_with fail
      go_ret3
      exact ⟨rfl, (A3.pure ((Chg.refl NoB w2).drewN nq)).keep hsub⟩
  · obtain ⟨rfl, rfl, he⟩ := roomV_bad hr hf
    rw [findE] at he
    by_cases hh : held ⟨kk, kx, kn, kp, kl, ks⟩ = false
    · rw [if_pos hh] at he
      subst he
      simp only [hh] at hCMP
      clear hf hh hMAY hr H hE
      go_enter Tryz.func116, Tryz.ntmps116
      go_wp2_with fail
      refine (hCMP _).mono ?_
      rintro r w1 ⟨rfl, X1⟩
      have A2 := A1.pure X1
      clear A1 X1
      go_wp2_with fail
      go_ret3
      exact ⟨rfl, A2.keep hsub⟩
    · rw [if_neg hh] at he
      have hM : mayH L ⟨kk, kx, kn, kp, kl, ks⟩ = false := by
        by_cases e : mayH L ⟨kk, kx, kn, kp, kl, ks⟩ = false
        · exact e
        · exact absurd (by rw [findE, if_neg hh, if_neg e]) hf
      rw [if_pos hM] at he
      subst he
      simp only [Bool.not_eq_false] at hh
      simp only [hh] at hCMP
      simp only [hM] at hMAY
      clear hf hh hM hr H hE
      go_enter Tryz.func116, Tryz.ntmps116
      go_wp2_with fail
      refine (hCMP _).mono ?_
      rintro r w1 ⟨rfl, X1⟩
      have A2 := A1.pure X1
      clear A1 X1
      (try clear Rk); (try clear yk); (try clear Zk)
      have Rk := cells_of (A2.box _ mk)
      have yk := blk_lt (A2.box _ mk)
      (try simp only at Rk yk)
      go_wp2_with fail
      refine (hMAY _ A2).mono ?_
      rintro r w2 ⟨rfl, A3⟩
      clear A2
      go_wp2_with fail
      go_ret3
      exact ⟨rfl, A3.keep hsub⟩
set_option maxRecDepth 100000 in
set_option maxHeartbeats 1000000 in
theorem rsizeh_any {J0 : List (Nat × Obj)} {w0 w : World} {M : List (Nat × List C)} {E K : List (Nat × Obj)} {gp : Nat} {L : List C} (H : RefK J0 gp L E) (A : Ats w0 w M K) (hE : ∀ q ∈ E, q ∈ K) (o : O) {n e : Int} (hr : sizeH L o = (n, e)) :
    Calls Tryz.prog 167 #[ptr gp, o.val] w fun r w' => r = .returned (.tuple #[.int .i64 n, .int .i64 e]) ∧ Ats w0 w' M K := by
  obtain ⟨a, hv⟩ : ∃ a, roomV L o = (a, n, e) := by
    rw [sizeH] at hr
    by_cases h : findE L o ≠ 0
    · rw [if_pos h] at hr
      simp only [Prod.mk.injEq] at hr
      obtain ⟨rfl, rfl⟩ := hr
      exact ⟨_, by rw [roomV, if_pos h]⟩
    · rw [if_neg h] at hr
      simp only [Prod.mk.injEq] at hr
      obtain ⟨rfl, rfl⟩ := hr
      exact ⟨_, by rw [roomV, if_neg h]⟩
  obtain ⟨kk, kx, kn, kp, kl, ks⟩ := o
  obtain ⟨KL, A1, mk, hKK, hsub⟩ : ∃ KL, Ats w0 (w.alloc (Obj.cells #[.int .i64 kk, .bool kx, .int .i64 kn, .int .i64 kp, .int .i64 kl, .string ks] 38)) M KL ∧ (w.heap.size, Obj.cells #[.int .i64 kk, .bool kx, .int .i64 kn, .int .i64 kp, .int .i64 kl, .string ks] 38) ∈ KL ∧ (∀ q ∈ K, q ∈ KL) ∧ K.Sublist KL := ⟨_, A.alloc _, m0, fun q hq => List.mem_cons_of_mem _ hq, List.sublist_cons_self _ _⟩
  have hRM := fun W (A : Ats w0 W M KL) => rroom_any H A (fun q hq => hKK q (hE q hq)) ⟨kk, kx, kn, kp, kl, ks⟩ hv
  clear hr H hE hv
  go_enter Tryz.func167, Tryz.ntmps167
  go_wp2_with fail
  refine (hRM _ A1).mono ?_
  rintro r w1 ⟨rfl, A2⟩
  clear A1
  go_wp2_with fail
  go_ret2
  exact ⟨rfl, A2.keep hsub⟩
end Go.Proofs.YtpgkjgceldleaaaGreat
/- The reference's heap: Part. -/
namespace Go.Proofs.YtpgkjgceldleaaaGreat
open Go.RowKit
end Go.Proofs.YtpgkjgceldleaaaGreat
/- The reference's heap: one field of one cell is stored anew. -/
namespace Go.Proofs.YtpgkjgceldleaaaGreat
open Go.RowKit

theorem take_setIf {α : Type} (cur : Array α) (k n : Nat) (v : α) : (cur.setIfInBounds k v).toList.take n = (cur.toList.take n).set k v := by
  rw [Array.toList_setIfInBounds]
  apply List.ext_getElem?
  intro i
  simp only [List.getElem?_take, List.getElem?_set, List.length_take, Array.length_toList]
  split <;> rename_i h
  · split
    · split <;> split <;> first | rfl | omega
    · rfl
  · split
    · split <;> first | rfl | omega
    · rfl
theorem joinV_set : ∀ (rows : List (List Value)) (i j : Nat) (vs : List Value) (v : Value), (∀ r ∈ rows, r.length = 4) → rows[i]? = some vs → j < 4 → joinV (rows.set i (vs.set j v)) = (joinV rows).set (i * 4 + j) v
  | [], i, j, vs, v, _, h, _ => by simp at h
  | r :: rows, 0, j, vs, v, hl, h, hj => by
    simp only [List.getElem?_cons_zero, Option.some.injEq] at h
    subst h
    have := hl r (List.mem_cons_self ..)
    rw [List.set_cons_zero]
    unfold joinV
    rw [List.flatMap_cons, List.flatMap_cons, Nat.zero_mul, Nat.zero_add, List.set_append_left _ _ (by simp only [id]; omega)]
    rfl
  | r :: rows, i + 1, j, vs, v, hl, h, hj => by
    have h4 := hl r (List.mem_cons_self ..)
    have := joinV_set rows i j vs v (fun x hx => hl x (List.mem_cons_of_mem _ hx)) (by simpa using h) hj
    rw [List.set_cons_succ]
    unfold joinV at this ⊢
    rw [List.flatMap_cons, List.flatMap_cons, this, List.set_append_right _ _ (by simp only [id]; omega)]
    congr 2
    simp only [id]; omega
theorem sum_setr : ∀ (l : List Nat) (i x : Nat), l[i]? = some x → (l.set i x).sum = l.sum
  | l, i, x, h => by
    have hi := List.getElem?_eq_some_iff.1 h
    rw [← hi.2, List.set_getElem_self]
theorem used_set {L : List C} {i : Nat} {c c' : C} (hc : L[i]? = some c) (hs : c'.size = c.size) : used (L.set i c') = used L := by
  unfold used
  rw [List.map_set, hs]
  exact sum_setr _ _ _ (by simp [hc])
/-- The boxes of a reference, to be written: J, its row, itself. -/
theorem RefK.open {J0 : List (Nat × Obj)} {gp : Nat} {L : List C} {E : List (Nat × Obj)} (H : RefK J0 gp L E) {i : Nat} {c : C} (hc : L[i]? = some c) :
    ∃ J g cap cur vi vb, E = J ++ [(g, Obj.cells cur 143), (gp, refBox (.slice (some ⟨g, 0, none⟩) L.length cap))] ∧ L.length ≤ cap ∧ i < L.length ∧ CellIn J c [.int .i64 c.kind, vi, vb, .bool c.locked] ∧
      cur[i * 4]? = some (.int .i64 c.kind) ∧ cur[i * 4 + 1]? = some vi ∧ cur[i * 4 + 2]? = some vb ∧ cur[i * 4 + 3]? = some (.bool c.locked) ∧
      ∀ (J1 : List (Nat × Obj)) (c' : C) (j : Nat) (v : Value), j < 4 → CellIn (J1 ++ J) c' ([.int .i64 c.kind, vi, vb, .bool c.locked].set j v) → c'.size = c.size →
        RefK J0 gp (L.set i c') ((J1 ++ J) ++ [(g, Obj.cells (cur.setIfInBounds (i * 4 + j) v) 143), (gp, refBox (.slice (some ⟨g, 0, none⟩) L.length cap))]) := by
  have hi := (List.getElem?_eq_some_iff.1 hc).1
  obtain ⟨J, R, lv, rows, hJ0, rfl, hR, hrl, hrc, h1, h2, hnil⟩ := H
  obtain ⟨vs, hvs⟩ : ∃ vs, rows[i]? = some vs := ⟨rows[i]'(by omega), List.getElem?_eq_getElem _⟩
  have hcell := hrc i c vs hc hvs
  have hl4 : ∀ r ∈ rows, r.length = 4 := fun r hr => by
    obtain ⟨k, hk, rfl⟩ := List.getElem_of_mem hr
    exact (hrc k (L[k]'(by omega)) rows[k] (List.getElem?_eq_getElem _) (List.getElem?_eq_getElem _)).len
  rcases hR with ⟨-, h0, -⟩ | ⟨g, cap, cur, rfl, rfl, k1, k2, k3, k4, k5⟩
  · omega
  have hj : ∀ j, j < 4 → cur[i * 4 + j]? = vs[j]? := fun j hj => by
    rw [← joinV_get rows i j vs hl4 hvs hj, ← k4, List.getElem?_take, if_pos (by omega), Array.getElem?_toList]
  have hcell' := hcell
  obtain ⟨vi, vb, rfl, hi6, hb1, t1, t2⟩ := hcell'
  have v0 := hj 0 (by omega)
  have v1 := hj 1 (by omega)
  have v2 := hj 2 (by omega)
  have v3 := hj 3 (by omega)
  simp only [List.getElem?_cons_zero, List.getElem?_cons_succ, Nat.add_zero] at v0 v1 v2 v3
  refine ⟨J, g, cap, cur, vi, vb, rfl, k1, hi, hcell, v0, v1, v2, v3, fun J1 c' j v hj4 hc' hs => ?_⟩
  refine ⟨J1 ++ J, [(g, Obj.cells (cur.setIfInBounds (i * 4 + j) v) 143)], _, rows.set i ([.int .i64 c.kind, vi, vb, .bool c.locked].set j v), fun q hq => List.mem_append_right _ (hJ0 q hq), rfl, ?_, by simp [hrl], ?_, by simpa using h1, by rw [used_set hc hs]; exact h2, fun h => ?_⟩
  · refine .inr ⟨g, cap, _, by simp, rfl, by simpa using k1, k2, by simpa using k3, ?_, ?_⟩
    · rw [take_setIf, List.length_set, k4, joinV_set rows i j _ v hl4 hvs hj4]
    · rw [joinV_set rows i j _ v hl4 hvs hj4, List.length_set, List.length_set, k5]
  · intro m d us hm hu
    by_cases e : m = i
    · subst e
      rw [List.getElem?_set_self (by omega)] at hm
      rw [List.getElem?_set_self (by omega)] at hu
      simp only [Option.some.injEq] at hm hu
      subst hm; subst hu
      exact hc'
    · rw [List.getElem?_set_ne (by omega)] at hm
      rw [List.getElem?_set_ne (by omega)] at hu
      exact (hrc m d us hm hu).mono fun q hq => List.mem_append_right _ hq
  · have h7 := congrArg List.length h
    rw [List.length_set, List.length_nil] at h7
    omega
end Go.Proofs.YtpgkjgceldleaaaGreat
