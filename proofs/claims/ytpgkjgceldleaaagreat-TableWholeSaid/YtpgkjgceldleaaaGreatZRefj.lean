/- Rxi, Rxn, Rxd, Rxc, Rxe -/
import Derived.Test.YtpgkjgceldleaaaGreatZRefi
import Derived.Test.YtpgkjgceldleaaaGreatZHeapc
import Derived.Test.YtpgkjgceldleaaaGreatZRefg
import Derived.Test.YtpgkjgceldleaaaGreatZHeapb
import Derived.Test.YtpgkjgceldleaaaGreatZRefh
/- The reference's heap: Items. -/
namespace Go.Proofs.YtpgkjgceldleaaaGreat
open Go.RowKit

/-- A piece of a row of objects that lies among boxes. -/
theorem cut_itemsR {J : List (Nat × Obj)} {v : Value} {L : List O} (h : RowIn J 38 6 v L.length (L.flatMap O.cells)) (p z : Int) (hp : 0 ≤ p) (hz : 0 ≤ z) (hpz : p + z ≤ L.length) :
    ∃ A c', (∀ W, (Instr.slice 48 v (some (.int .i64 p)) (some (.int .i64 (p + z))) none).run Tryz.prog W = .ok (.slice A z.toNat c') W) ∧
      ((A = none ∧ z = 0 ∧ c' = 0 ∧ p = 0) ∨ ∃ ad, A = some ad ∧ ∀ W : World, (∀ q ∈ J, W.heap[q.1]? = some q.2) → ∀ j u, (((L.drop p.toNat).take z.toNat).flatMap O.cells)[j]? = some u → W.cell? (ad.add j) = some u) := by
  rcases h with ⟨rfl, hn, -⟩ | ⟨g, cap, cur, fz, rfl, hcur, hnc, hcm, hcs, htk, -⟩
  · have hp0 : p = 0 := by omega
    have hz0 : z = 0 := by omega
    subst hp0; subst hz0
    refine ⟨none, 0, fun W => ?_, .inl ⟨rfl, rfl, rfl, rfl⟩⟩
    rw [run_slice_lh (w := W) 48 none 0 0 (by rw [Tryz.elemObjs]; exact Tryz.underObjs) .i64 .i64 0 (0 + 0) (by omega) (by omega) (by omega), Tryz.elemObjs, sizeOf_obj]
    simp [sliced]
  · refine ⟨if cap = p.toNat then some ⟨g, 0, none⟩ else some ((⟨g, 0, none⟩ : Addr).add (p.toNat * 6)), cap - p.toNat, fun W => ?_, .inr ⟨if cap = p.toNat then ⟨g, 0, none⟩ else (⟨g, 0, none⟩ : Addr).add (p.toNat * 6), by split <;> rfl, fun W hW j u hj => ?_⟩⟩
    · rw [run_slice_lh (w := W) 48 (some ⟨g, 0, none⟩) _ cap (by rw [Tryz.elemObjs]; exact Tryz.underObjs) .i64 .i64 p (p + z) hp (by omega) (by omega), Tryz.elemObjs, sizeOf_obj]
      simp only [Result.andThen_ok, sliced, Option.map_some]
      rw [show (p + z).toNat - p.toNat = z.toNat by omega]
    · have hc' := hW _ hcur
      rw [flat_drop_take, List.getElem?_take] at hj
      split at hj
      · rename_i hjz
        rw [List.getElem?_drop] at hj
        have hlt : p.toNat * 6 + j < L.length * 6 := by omega
        rw [if_neg (by omega), add_add, cells_of hc', ← Array.getElem?_toList]
        have : cur.toList[p.toNat * 6 + j]? = (cur.toList.take (L.length * 6))[p.toNat * 6 + j]? := by rw [List.getElem?_take, if_pos hlt]
        rw [this, htk]; exact hj
      · simp at hj

/-- A row that was made, among the boxes. -/
theorem Ats.ofOwns {w0 w1 w2 : World} {M : List (Nat × List C)} {K : List (Nat × Obj)} {T : TypeId} {sz : Nat} {v : Value} {n : Nat} {xs : List Value} (A : Ats w0 w1 M K) (X : Chg NoB w1 w2) (own : w2.ownsRow w1.heap.size T sz v n xs) : ∃ R, RowG T sz R v n xs ∧ Ats w0 w2 M (R ++ K) := by
  obtain ⟨hl, ⟨rfl, h0⟩ | ⟨g, cap, cur, rfl, hg0, hg, c1, c2, c3, c4⟩⟩ := own
  · subst h0
    exact ⟨[], .inl ⟨rfl, rfl, List.eq_nil_of_length_eq_zero (by omega), rfl⟩, A.pure X⟩
  · exact ⟨[(g, .cells cur T)], .inr ⟨g, cap, cur, rfl, rfl, c1, c2, c3, c4, hl⟩, A.got X hg hg0⟩
set_option maxRecDepth 100000 in
set_option maxHeartbeats 1000000 in
theorem ritems_any {J0 : List (Nat × Obj)} {w0 w : World} {M : List (Nat × List C)} {E K : List (Nat × Obj)} {gp : Nat} {L : List C} (H : RefK J0 gp L E) (A : Ats w0 w M K) (hE : ∀ q ∈ E, q ∈ K) (o : O) {l : List O} {e : Int} (hr : itemsH L o = (l, e)) :
    Calls Tryz.prog 143 #[ptr gp, o.val] w fun r w' => ∃ v, r = .returned (.tuple #[v, .int .i64 e]) ∧ ∃ R, RowG 38 6 R v l.length (l.flatMap O.cells) ∧ Ats w0 w' M (R ++ K) := by
  obtain ⟨kk, kx, kn, kp, kl, ks⟩ := o
  obtain ⟨KL, A1, mk, hKK, hsub⟩ : ∃ KL, Ats w0 (w.alloc (Obj.cells #[.int .i64 kk, .bool kx, .int .i64 kn, .int .i64 kp, .int .i64 kl, .string ks] 38)) M KL ∧ (w.heap.size, Obj.cells #[.int .i64 kk, .bool kx, .int .i64 kn, .int .i64 kp, .int .i64 kl, .string ks] 38) ∈ KL ∧ (∀ q ∈ K, q ∈ KL) ∧ K.Sublist KL := ⟨_, A.alloc _, m0, fun q hq => List.mem_cons_of_mem _ hq, List.sublist_cons_self _ _⟩
  have hRM := fun W (A : Ats w0 W M KL) a z f (h : roomV L ⟨kk, kx, kn, kp, kl, ks⟩ = (a, z, f)) => rroom_any H A (fun q hq => hKK q (hE q hq)) ⟨kk, kx, kn, kp, kl, ks⟩ h
  rw [itemsH] at hr
  by_cases hf : findE L ⟨kk, kx, kn, kp, kl, ks⟩ = 0
  · obtain ⟨c, hc, hv, hk, n0, n1, a0, l0, hal, hh, hM⟩ := find_cell hf
    rw [if_neg (by simp [hf]), hc] at hr
    simp only at hr
    have hRM := fun W A => hRM W A _ _ _ hv
    have hsm := cell_le hc H.bounds.2
    simp only at hc hk n0 n1
    obtain ⟨N, rfl⟩ : ∃ N : Nat, kn = N := ⟨kn.toNat, by omega⟩
    rw [Int.toNat_natCast] at hc
    have hkt : c.text = true ↔ kk = 8 := by
      rw [← hk, C.kind]
      cases c.text <;> simp
      split <;> simp
    generalize lenOf c _ = lz at *
    generalize atOf _ = az at *
    by_cases ht : c.text = true
    · rw [if_pos ht] at hr
      simp only [Prod.mk.injEq] at hr
      obtain ⟨rfl, rfl⟩ := hr
      have h8 : kk = 8 := hkt.1 ht
      subst h8
      have hRMH := hid' hRM
      clear hRM hv hM hh hf hk H hc hkt ht
      go_enter Tryz.func143, Tryz.ntmps143
      go_wp2_with fail
      refine (hRMH.out _ A1).mono ?_
      rintro r w1 ⟨rfl, A2⟩
      clear A1
      (try clear Rk); (try clear yk); (try clear Zk)
      have Rk := cells_of (A2.box _ mk)
      have yk := blk_lt (A2.box _ mk)
      (try simp only at Rk yk)
      go_wp2_with fail
      go_ret2
      exact ⟨_, rfl, [], .inl ⟨rfl, rfl, rfl, rfl⟩, A2.keep hsub⟩
    · rw [if_neg ht] at hr
      simp only [Prod.mk.injEq] at hr
      obtain ⟨rfl, rfl⟩ := hr
      obtain ⟨g, cap, cur, vi, vb, hb, hcap, hg, hi, hcell, v0, v1, v2, v3⟩ := H.cell hc
      have hcapi : (N : Int) < cap := by omega
      have mg := hKK _ (hE _ hb)
      have mr := hKK _ (hE _ hg)
      obtain ⟨vi', vb', hvs, hi6, hb1, ht1, ht2⟩ := hcell
      simp only [List.cons.injEq, true_and, and_true] at hvs
      obtain ⟨rfl, rfl⟩ := hvs
      have hcs : c.size = c.items.length := by rw [C.size, if_neg ht]
      obtain ⟨B, c', e1, e2⟩ := cut_itemsR hi6 az lz a0 l0 (by omega)
      have h8 : (kk == 8) = false := by simpa using fun e => ht (hkt.2 e)
      have wr : IntKind.i64.wrap (az + lz) = az + lz := IntWalk.i64_in _ (by omega)
      obtain ⟨b, hbb⟩ : ∃ b : List O, b = (c.items.drop az.toNat).take lz.toNat := ⟨_, rfl⟩
      have hbl : b.length = lz.toNat := by rw [hbb]; simp; omega
      rw [← hbb] at e2 ⊢
      have HBL := hid' hbl
      obtain ⟨ab, nb, cb, rfl⟩ : ∃ ab nb cb, vi = .slice ab nb cb := by obtain ⟨a, q, h, -⟩ := hi6.slice; exact ⟨_, _, _, h⟩
      have hJ : ∀ W, Ats w0 W M KL → ∀ q ∈ E, W.heap[q.1]? = some q.2 := fun W AW q hq => AW.box _ (hKK _ (hE _ hq))
      have hRMH := hid' hRM
      have HJ := hid' hJ
      have hlz : lz ≤ 40000 := by omega
      clear hRM hv hM hh hf hk H hc hkt hi6 hb1 ht1 ht2 ht hb hg hE hKK hbb hbl hJ hal hcs hsm
      generalize L.length = nl at *
      generalize c.kind = ck at *
      generalize c.locked = clk at *
      obtain ⟨i0, hi, hz0, hz1, hz2⟩ := info_parts Tryz.infoObj
      rcases e2 with ⟨rfl, rfl, rfl, rfl⟩ | ⟨ad, rfl, hnews⟩
      · simp only [Int.add_zero, Int.toNat_zero] at e1 wr
        go_enter Tryz.func143, Tryz.ntmps143
        go_wp2_with fail
        refine (hRMH.out _ A1).mono ?_
        rintro r w1 ⟨rfl, A2⟩
        clear A1
        (try clear Rk); (try clear yk); (try clear Zk)
        have Rk := cells_of (A2.box _ mk)
        have yk := blk_lt (A2.box _ mk)
        (try clear Rg); (try clear yg); (try clear Zg)
        have Rg := cells_of (A2.box _ mg)
        have yg := blk_lt (A2.box _ mg)
        (try clear Rc); (try clear yc); (try clear Zc)
        have Rc := cells_of (A2.box _ mr)
        have yc := blk_lt (A2.box _ mr)
        (try simp only at Rk yk Rg yg Rc yc)
        go_upto_region 6 with (fail)
        go_still_tail 14, (by kernel_rfl)
        go_wp2_with (at_builtin; refine wpList_append_own_none rfl _ _ 48 rfl w.heap.size 38 i0 6 Tryz.underObjs hi (.slice none 0 0) 0 [] rfl (World.ownsRow_nil _ _ _ _) rfl ?_)
        go_ret2
        have : b = [] := List.eq_nil_of_length_eq_zero (by rw [HBL.out]; rfl)
        subst this
        exact ⟨_, rfl, [], .inl ⟨rfl, rfl, rfl, rfl⟩, A2.drew.keep hsub⟩
      · have HN := hid' hnews
        clear hnews
        go_enter Tryz.func143, Tryz.ntmps143
        go_wp2_with fail
        refine (hRMH.out _ A1).mono ?_
        rintro r w1 ⟨rfl, A2⟩
        clear A1
        (try clear Rk); (try clear yk); (try clear Zk)
        have Rk := cells_of (A2.box _ mk)
        have yk := blk_lt (A2.box _ mk)
        (try clear Rg); (try clear yg); (try clear Zg)
        have Rg := cells_of (A2.box _ mg)
        have yg := blk_lt (A2.box _ mg)
        (try clear Rc); (try clear yc); (try clear Zc)
        have Rc := cells_of (A2.box _ mr)
        have yc := blk_lt (A2.box _ mr)
        (try simp only at Rk yk Rg yg Rc yc)
        go_upto_region 6 with (fail)
        go_still_tail 14, (by kernel_rfl)
        go_wp2_with (at_builtin; refine wpList_append_own _ rfl _ _ 48 rfl w1.heap.size 38 i0 O.nil.val 6 56 Tryz.underObjs hi hz0 hz1 hz2 rfl (by decide) (.slice none 0 0) 0 [] rfl (World.ownsRow_nil _ _ _ _) ad lz.toNat c' (b.flatMap O.cells) rfl (by rw [flat_length O.cells 6 cells_length, HBL.out]) (fun j u hj => HN.out _ (HJ.out _ A2.drew) j u hj) (flat_one b) ?_ ?_ ?_ ?_; (unfold maxLen; omega); omega; (simp); intro v' w2 hown hgr _)
        go_ret2
        obtain ⟨R, hR, A3⟩ := (A2.keep hsub).ofOwns (Chg.grown (Chg.refl NoB w1).drew hgr (fun k hk => by simp [Value.ownBlock] at hk)) hown
        rw [Nat.zero_add, List.nil_append] at hR
        rw [HBL.out]
        exact ⟨_, rfl, R, hR, A3⟩
  · rw [if_pos (by simpa using hf)] at hr
    simp only [Prod.mk.injEq] at hr
    obtain ⟨rfl, rfl⟩ := hr
    have hRM := fun W A => hRM W A _ _ _ (by rw [roomV, if_pos (by simpa using hf)])
    have hne : (findE L ⟨kk, kx, kn, kp, kl, ks⟩ != 0) = true := by simpa using hf
    have hne2 : (findE L ⟨kk, kx, kn, kp, kl, ks⟩ == 0) = false := by simpa using hf
    have hRMH := hid' hRM
    clear hRM H hf
    generalize findE L _ = fe at *
    go_enter Tryz.func143, Tryz.ntmps143
    go_wp2_with fail
    refine (hRMH.out _ A1).mono ?_
    rintro r w1 ⟨rfl, A2⟩
    clear A1
    go_wp2_with fail
    go_ret2
    exact ⟨_, rfl, [], .inl ⟨rfl, rfl, rfl, rfl⟩, A2.keep hsub⟩
end Go.Proofs.YtpgkjgceldleaaaGreat
/- The reference's heap: nulls, Array. -/
namespace Go.Proofs.YtpgkjgceldleaaaGreat
open Go.RowKit

set_option maxRecDepth 100000 in
theorem rnulls_any (n : Nat) (hn : n ≤ 1000000) (w : World) :
   Calls Tryz.prog 111 #[.int .i64 n] w fun e w' => e = .returned (.slice (some ⟨w.heap.size, 0, none⟩) n n) ∧ Chg NoB w w' ∧
     ∃ cur : Array Value, w'.heap[w.heap.size]? = some (.cells cur 38 (0, 0)) ∧ cur.toList = (List.replicate n nullO).flatMap O.cells := by
  have hmk := run_make_objs n hn w
  go_enter Tryz.func111, Tryz.ntmps111
  go_wp2
  go_loopw [4] (fun i9 wr => ∃ (k : Nat) (cur : Array Value), k ≤ n ∧ i9 = .int .i64 k ∧ wr.heap[w.heap.size]? = some (.cells cur 38 (0, 0)) ∧ cur.toList = (List.replicate k nullO ++ List.replicate (n - k) O.nil).flatMap O.cells ∧ Chg NoB w wr) (fun i9 _ => n - (intOf i9).toNat)
  case atStart => exact ⟨0, _, Nat.zero_le _, rfl, blk_new w _, by simp [zrow_toList], (Chg.refl _ _).alloc _⟩
  case round =>
    obtain ⟨k, cur, hk, rfl, hc, hl, X⟩ := hrel
    have R := cells_of hc
    have Z := free_of hc
    have lc := blk_lt hc
    by_cases hlt : k < n
    · have e0 : cur[k * 6]? = some (.int .i64 0) := by
        have := flat_get O.cells 6 cells_length 0 (by omega) (List.replicate k nullO ++ List.replicate (n - k) O.nil) k
        rw [← hl] at this
        simp only [Nat.add_zero, Array.getElem?_toList] at this
        rw [this, List.getElem?_append_right (by simp)]
        simp [show 0 < n - k by omega, O.cells, O.nil]
      have HL := Hid.mk'' hl
      clear hl hmk
      go_wp2
      go_roundw
      case rel =>
        refine ⟨k + 1, _, by omega, by go_num, blk_set hc (k * 6) (.int .i64 1), ?_, X.setCell (.inr (Nat.le_refl _)) _⟩
        rw [Array.toList_setIfInBounds, HL.out, ← rep_set n k hlt]
        refine (flat_set0 _ k (by simp; omega) nullO _ ?_).symm
        rw [List.getElem_append_right (by simp)]
        simp [O.cells, O.nil, nullO]
      case measure => simp [intOf]; omega
    · have hkn : k = n := by omega
      subst hkn
      go_wp2
      go_ret
      exact ⟨rfl, X, cur, hc, by simpa using hl⟩
/-- A row of nulls among boxes. -/
theorem nulls_in {b n : Nat} {cur : Array Value} {l : List O} (hl : cur.toList = l.flatMap O.cells) (hn : l.length = n) (hb : n ≤ 1000000) (J : List (Nat × Obj)) : RowIn ((b, Obj.cells cur 38) :: J) 38 6 (.slice (some ⟨b, 0, none⟩) n n) n (l.flatMap O.cells) := by
  have e := flat_length O.cells 6 cells_length l
  refine .inr ⟨b, n, cur, _, rfl, List.mem_cons_self .., Nat.le_refl _, by unfold maxLen; omega, ?_, ?_, by rw [e, hn]⟩
  · have := congrArg List.length hl
    rw [e, hn] at this
    simpa using this
  · rw [hl, List.take_of_length_le (by rw [e, hn]; exact Nat.le_refl _)]
set_option maxRecDepth 100000 in
set_option maxHeartbeats 1000000 in
theorem rarray_any {J0 : List (Nat × Obj)} {w0 w : World} {M : List (Nat × List C)} {E K : List (Nat × Obj)} {gp : Nat} {L L' : List C} {o : O} {e : Int} (H : RefK J0 gp L E) (A : Ats w0 w M (E ++ K)) (n : Int) (hr : arrayH L n = (L', o, e)) :
    Calls Tryz.prog 126 #[ptr gp, .int .i64 n] w fun r w' => r = .returned (.tuple #[o.val, .int .i64 e]) ∧ ∃ E', RefK J0 gp L' E' ∧ Ats w0 w' M (E' ++ K) := by
  unfold arrayH at hr
  have A1 := A.alloc (Obj.cells #[.int .i64 0, .bool false, .int .i64 0, .int .i64 0, .int .i64 0, .string ⟨#[]⟩] 38)
  by_cases h1 : 40000 < n
  · rw [if_pos h1] at hr
    simp only [Prod.mk.injEq] at hr
    obtain ⟨rfl, rfl, rfl⟩ := hr
    go_enter Tryz.func126, Tryz.ntmps126
    go_wp2_with fail
    refine bodyPost_ret (v := .tuple #[O.nil.val, .int .i64 5]) (by simp [results, Tryz.results126, go_sem, O.nil]) rfl ⟨rfl, E, H, A1.keep (List.sublist_cons_self _ _)⟩
  rw [if_neg h1] at hr
  by_cases h2 : n < 0
  · rw [if_pos h2] at hr
    simp only [Prod.mk.injEq] at hr
    obtain ⟨rfl, rfl, rfl⟩ := hr
    go_enter Tryz.func126, Tryz.ntmps126
    go_wp2_with fail
    refine bodyPost_ret (v := .tuple #[O.nil.val, .int .i64 2]) (by simp [results, Tryz.results126, go_sem, O.nil]) rfl ⟨rfl, E, H, A1.keep (List.sublist_cons_self _ _)⟩
  rw [if_neg h2] at hr
  obtain ⟨k, rfl⟩ := Int.eq_ofNat_of_zero_le (show 0 ≤ n by omega)
  have hk : k ≤ 40000 := by omega
  rw [Int.toNat_natCast] at hr
  obtain ⟨ok, ox, on, op, ol, os⟩ := o
  have HRR := hid' hr
  clear hr
  go_enter Tryz.func126, Tryz.ntmps126
  go_wp2_with fail
  refine (rnulls_any k (by omega) _).mono ?_
  rintro r w1 ⟨rfl, X1, cur, hcur, hl⟩
  have A2 := A1.got X1 hcur (Nat.le_refl _)
  simp only [World.size_alloc] at A2
  have A3 : Ats w0 w1 M (((w.heap.size + 1, Obj.cells cur 38) :: E) ++ ((w.heap.size, Obj.cells #[.int .i64 0, .bool false, .int .i64 0, .int .i64 0, .int .i64 0, .string ⟨#[]⟩] 38) :: K)) := A2.perm (List.perm_middle.symm.cons _)
  have H3 := H.more (w.heap.size + 1, Obj.cells cur 38)
  have hc : CellIn ((w.heap.size + 1, Obj.cells cur 38) :: E) ⟨false, false, false, List.replicate k nullO, []⟩ [.int .i64 9, .slice (some ⟨w.heap.size + 1, 0, none⟩) k k, .slice none 0 0, .bool false] :=
    ⟨_, _, rfl, by simp only; rw [List.length_replicate]; exact nulls_in hl (by simp) (by omega) E, .inl ⟨rfl, rfl, rfl⟩, fun h => by simp at h, fun _ => rfl⟩
  have HM := rmake_h H3 A3 hc (by simp only [C.size, Bool.false_eq_true, if_false, List.length_replicate]; omega) HRR.out
  have HM := hid' HM
  clear hc H3 A3 A2 A1 A X1 hcur hl HRR
  go_wp2_with fail
  refine HM.out.mono ?_
  rintro r w2 ⟨rfl, E', H', A4⟩
  have A5 := A4.perm List.perm_middle
  (try clear Rr); (try clear yr); (try clear Zr)
  have Rr := cells_of (A5.box _ m0)
  have yr := blk_lt (A5.box _ m0)
  have Zr := free_of (A5.box _ m0)
  (try simp only at Rr yr Zr)
  have A6 := A5.putO ok ox on op ol os
  go_wp2_with fail
  have R6 := cells_of (A6.box _ m0)
  refine bodyPost_ret (v := .tuple #[O.val (⟨ok, ox, on, op, ol, os⟩ : O), .int .i64 e]) ?_ rfl ⟨rfl, E', H', A6.keep (List.sublist_cons_self _ _)⟩
  simp [results, Tryz.results126, go_sem, R6]
end Go.Proofs.YtpgkjgceldleaaaGreat
/- The reference's heap: Dict. -/
namespace Go.Proofs.YtpgkjgceldleaaaGreat
open Go.RowKit

abbrev cntO : O := ⟨3, false, 0, 0, 0, ⟨#[]⟩⟩
/-- An object's six cells, stored at a row's beginning. -/
def six (cur : Array Value) (p : Nat) (o : O) : Array Value := (((((cur.setIfInBounds p (.int .i64 o.kind)).setIfInBounds (p + 1) (.bool o.exec)).setIfInBounds (p + 2) (.int .i64 o.n)).setIfInBounds (p + 3) (.int .i64 o.pos)).setIfInBounds (p + 4) (.int .i64 o.len)).setIfInBounds (p + 5) (.string o.s)
theorem six_first {cur : Array Value} {n : Nat} (hl : cur.toList = (List.replicate (n + 1) nullO).flatMap O.cells) (o : O) : (six cur 0 o).toList = (o :: List.replicate n nullO).flatMap O.cells := by
  unfold six
  simp only [Array.toList_setIfInBounds, hl, List.replicate_succ, List.flatMap_cons, O.cells, nullO, List.cons_append, List.set_cons_zero, List.set_cons_succ, Nat.zero_add]
set_option maxRecDepth 100000 in
set_option maxHeartbeats 1000000 in
theorem rdict_any {J0 : List (Nat × Obj)} {w0 w : World} {M : List (Nat × List C)} {E K : List (Nat × Obj)} {gp : Nat} {L L' : List C} {o : O} {e : Int} (H : RefK J0 gp L E) (A : Ats w0 w M (E ++ K)) (n : Int) (hr : dictH L n = (L', o, e)) :
    Calls Tryz.prog 60 #[ptr gp, .int .i64 n] w fun r w' => r = .returned (.tuple #[o.val, .int .i64 e]) ∧ ∃ E', RefK J0 gp L' E' ∧ Ats w0 w' M (E' ++ K) := by
  unfold dictH at hr
  have A1 := A.alloc (Obj.cells #[.int .i64 0, .bool false, .int .i64 0, .int .i64 0, .int .i64 0, .string ⟨#[]⟩] 38)
  by_cases h1 : n < 0 ∨ 1000 < n
  · rw [if_pos h1] at hr
    simp only [Prod.mk.injEq] at hr
    obtain ⟨rfl, rfl, rfl⟩ := hr
    have h2 : n < 0 ∨ (0 ≤ n ∧ 1000 < n) := by omega
    clear h1
    rcases h2 with h1 | ⟨h1, h2⟩
    all_goals
      go_enter Tryz.func60, Tryz.ntmps60
      go_wp2_with fail
      refine bodyPost_ret (v := .tuple #[O.nil.val, .int .i64 2]) (by simp [results, Tryz.results60, go_sem, O.nil]) rfl ⟨rfl, E, H, A1.keep (List.sublist_cons_self _ _)⟩
  rw [if_neg h1] at hr
  obtain ⟨k, rfl⟩ := Int.eq_ofNat_of_zero_le (show 0 ≤ n by omega)
  have hk : k ≤ 1000 := by omega
  rw [Int.toNat_natCast] at hr
  obtain ⟨ok, ox, on, op, ol, os⟩ := o
  have HRR := hid' hr
  have hki : (k : Int) ≤ 1000 := by omega
  have wr1 := IntWalk.i64_in (2 * (k : Int)) (by omega)
  have wr2 : IntKind.i64.wrap (2 * (k : Int) + 1) = ((2 * k + 1 : Nat) : Int) := by rw [IntWalk.i64_in _ (by omega)]; push_cast; rfl
  obtain ⟨n1, hn1⟩ : ∃ n1, 2 * k + 1 = n1 := ⟨_, rfl⟩
  rw [hn1] at wr2
  have HN1 := hid' hn1
  have hn1p : 0 < n1 := by omega
  have hn1i : (0 : Int) < n1 := by omega
  clear hr h1 hn1
  go_enter Tryz.func60, Tryz.ntmps60
  go_wp2_with fail
  refine (rnulls_any n1 (by have := HN1.out; omega) _).mono ?_
  rintro r w1 ⟨rfl, X1, cur, hcur, hl⟩
  have A2 := A1.got X1 hcur (Nat.le_refl _)
  simp only [World.size_alloc] at A2
  have HL := hid' hl
  clear X1 hcur hl A1
  (try clear Rb); (try clear yb); (try clear Zb)
  have Rb := cells_of (A2.box _ m0)
  have yb := blk_lt (A2.box _ m0)
  have Zb := free_of (A2.box _ m0)
  (try simp only at Rb yb Zb)
  have A2b := (((((A2.put 0 (.int .i64 3)).put 1 (.bool false)).put 2 (.int .i64 0)).put 3 (.int .i64 0)).put 4 (.int .i64 0)).put 5 (.string ⟨#[]⟩)
  have hc0 : cur[0]? = some (.int .i64 1) ∧ cur[1]? = some (.bool false) ∧ cur[2]? = some (.int .i64 0) ∧ cur[3]? = some (.int .i64 0) ∧ cur[4]? = some (.int .i64 0) ∧ cur[5]? = some (.string ⟨#[]⟩) := by
    obtain ⟨m, rfl⟩ : ∃ m, n1 = m + 1 := ⟨n1 - 1, by omega⟩
    simp only [← Array.getElem?_toList, HL.out, List.replicate_succ, List.flatMap_cons, O.cells, nullO, List.cons_append, List.getElem?_cons_zero, List.getElem?_cons_succ, and_self]
  obtain ⟨d0, d1, d2, d3, d4, d5⟩ := hc0
  go_upto_region 5 with (fail)
  generalize hW : (World.setCell _ _ _) = w3 at *
  clear hW A2
  have A3 : Ats w0 w3 M (((w.heap.size + 1, Obj.cells (six cur 0 cntO) 38) :: E) ++ ((w.heap.size, Obj.cells #[.int .i64 0, .bool false, .int .i64 0, .int .i64 0, .int .i64 0, .string ⟨#[]⟩] 38) :: K)) := A2b.perm (List.perm_middle.symm.cons _)
  have H3 := H.more (w.heap.size + 1, Obj.cells (six cur 0 cntO) 38)
  have hl2 : (six cur 0 cntO).toList = (cntO :: List.replicate (2 * k) nullO).flatMap O.cells := six_first (n := 2 * k) (by rw [HL.out, HN1.out]) cntO
  have hc : CellIn ((w.heap.size + 1, Obj.cells (six cur 0 cntO) 38) :: E) ⟨false, true, false, cntO :: List.replicate (2 * k) nullO, []⟩ [.int .i64 10, .slice (some ⟨w.heap.size + 1, 0, none⟩) n1 n1, .slice none 0 0, .bool false] :=
    ⟨_, _, rfl, by simp only; rw [List.length_cons, List.length_replicate, HN1.out]; exact nulls_in hl2 (by simp; exact HN1.out) (by have := HN1.out; omega) E, .inl ⟨rfl, rfl, rfl⟩, fun h => by simp at h, fun _ => rfl⟩
  have HM := rmake_h H3 A3 hc (by simp only [C.size, Bool.false_eq_true, if_false, List.length_cons, List.length_replicate]; omega) HRR.out
  have HM := hid' HM
  clear hc H3 A3 A2b A HRR Rb yb Zb d0 d1 d2 d3 d4 d5 hl2
  go_wp2_with fail
  refine HM.out.mono ?_
  rintro r w4 ⟨rfl, E', H', A4⟩
  have A5 := A4.perm List.perm_middle
  (try clear Rr); (try clear yr); (try clear Zr)
  have Rr := cells_of (A5.box _ m0)
  have yr := blk_lt (A5.box _ m0)
  have Zr := free_of (A5.box _ m0)
  (try simp only at Rr yr Zr)
  have A6 := A5.putO ok ox on op ol os
  go_wp2_with fail
  have R6 := cells_of (A6.box _ m0)
  refine bodyPost_ret (v := .tuple #[O.val (⟨ok, ox, on, op, ol, os⟩ : O), .int .i64 e]) ?_ rfl ⟨rfl, E', H', A6.keep (List.sublist_cons_self _ _)⟩
  simp [results, Tryz.results60, go_sem, R6]
end Go.Proofs.YtpgkjgceldleaaaGreat
/- The reference's heap: Copy. -/
namespace Go.Proofs.YtpgkjgceldleaaaGreat
open Go.RowKit

theorem own_new {g n c H : Nat} (hg : (Value.slice none 0 0).ownBlock = some g ∨ g = H) : (Value.slice (some ⟨g, 0, none⟩) n c).ownBlock = (Value.slice none 0 0).ownBlock ∨ (Value.slice (some ⟨g, 0, none⟩) n c).ownBlock = some H := by
  rcases hg with e | e
  · simp [Value.ownBlock] at e
  · exact .inr (by simp [Value.ownBlock, e])
/-- A copy of a reference's heap: its own row, over rows among J. -/
def RefV (J : List (Nat × Obj)) (vp : Nat) (L : List C) (E : List (Nat × Obj)) : Prop :=
  ∃ R lv rows, E = R ++ [(vp, refBox lv)] ∧ RowG 143 4 R lv L.length (joinV rows) ∧ rows.length = L.length ∧ (∀ (i : Nat) (c : C) (vs : List Value), L[i]? = some c → rows[i]? = some vs → CellIn J c vs) ∧ L.length ≤ 2000 ∧ used L ≤ 40000 ∧ (L = [] → lv = .slice none 0 0)
set_option maxRecDepth 100000 in
set_option maxHeartbeats 1000000 in
theorem rcopy_any {J0 : List (Nat × Obj)} {w0 w : World} {M : List (Nat × List C)} {E K : List (Nat × Obj)} {gp : Nat} {L : List C} (H : RefK J0 gp L E) (A : Ats w0 w M (E ++ K)) :
    Calls Tryz.prog 58 #[ptr gp] w fun r w' => ∃ vp, r = .returned (ptr vp) ∧ ∃ J E2, RefK J gp L E ∧ (∀ q ∈ J0, q ∈ J) ∧ RefV J vp L E2 ∧ Ats w0 w' M (E2 ++ (E ++ K)) := by
  obtain ⟨J, R, lv, rows, hJ0, hE, hR, hrl, hrc, h1, h2, hnil⟩ := H
  have HK : RefK J gp L E := ⟨J, R, lv, rows, fun _ h => h, hE, hR, hrl, hrc, h1, h2, hnil⟩
  have mg : (gp, refBox lv) ∈ E ++ K := by rw [hE]; simp
  obtain ⟨i0, hi, hz0, hz1, hz2⟩ := info_parts Tryz.infoRcell
  rcases hR with ⟨rfl, h0, hrw, rfl⟩ | ⟨g, cap, cur, rfl, rfl, k1, k2, k3, k4, k5⟩
  · have HV : ∀ vp, RefV J vp L [(vp, refBox (.slice none 0 0))] := fun vp => ⟨[], _, rows, rfl, .inl ⟨rfl, h0, hrw, rfl⟩, hrl, hrc, h1, h2, fun _ => rfl⟩
    have HVH := hid' HV
    have HKH := hid' HK
    have HJ := hid' hJ0
    clear HV HK hrc hrl hrw h0 hnil hJ0 hE h1 h2
    (try clear Rg); (try clear yg); (try clear Zg)
    have Rg := cells_of (A.box _ mg)
    have yg := blk_lt (A.box _ mg)
    (try simp only at Rg yg)
    go_enter Tryz.func58, Tryz.ntmps58
    go_wp2_with (at_builtin; refine wpList_append_own_none rfl _ _ 60 rfl w.heap.size 143 i0 4 Tryz.underRcells hi (.slice none 0 0) 0 [] rfl (World.ownsRow_nil _ _ _ _) rfl ?_)
    go_ret
    exact ⟨_, rfl, J, _, HKH.out, HJ.out, HVH.out _, A.alloc _⟩
  · have hpos : 0 < L.length := by
      rcases Nat.eq_zero_or_pos L.length with e | e
      · have := hnil (List.eq_nil_of_length_eq_zero e); simp at this
      · exact e
    have mr : (g, Obj.cells cur 143) ∈ E ++ K := by rw [hE]; simp
    have hone1 : ∀ u ∈ joinV rows, u.oneCell' = true := fun u hu => by
      obtain ⟨r, hr, hu⟩ := List.mem_flatMap.1 hu
      obtain ⟨k, hk, rfl⟩ := List.getElem_of_mem hr
      exact (hrc k (L[k]'(by omega)) rows[k] (List.getElem?_eq_getElem _) (List.getElem?_eq_getElem _)).one u hu
    have HV : ∀ vp g1 cap1 R1, RowG 143 4 R1 (.slice (some ⟨g1, 0, none⟩) L.length cap1) L.length (joinV rows) → RefV J vp L (R1 ++ [(vp, refBox (.slice (some ⟨g1, 0, none⟩) L.length cap1))]) := fun vp g1 cap1 R1 hR1 => ⟨R1, _, rows, rfl, hR1, hrl, hrc, h1, h2, fun e => by rw [e] at hpos; simp at hpos⟩
    have HVH := hid' HV
    have HKH := hid' HK
    have HJ := hid' hJ0
    have HT := hid' k4
    have H5 := hid' k5
    have HONE := hid' hone1
    clear HV HK hrc hrl hnil hJ0 k4 k5 hone1 hE h2
    generalize L.length = n at *
    (try clear Rg); (try clear yg); (try clear Zg)
    have Rg := cells_of (A.box _ mg)
    have yg := blk_lt (A.box _ mg)
    (try simp only at Rg yg)
    go_enter Tryz.func58, Tryz.ntmps58
    go_wp2_with (at_builtin; refine wpList_append_lies _ rfl (.const (.slice none 0 0)) (.tmp 6) 60 rfl w0.heap.size 143 i0 (.agg #[.int .i64 0, .slice none 0 0, .slice none 0 0, .bool false]) 4 64 Tryz.underRcells hi hz0 hz1 hz2 rfl (by decide) (.slice none 0 0) 0 [] rfl (World.ownsRow_nil _ _ _ _) ⟨g, 0, none⟩ n cap (joinV rows) rfl H5.out (news_take (A.box _ mr) (n * 4) _ HT.out) HONE.out hpos (by unfold maxLen; omega) (by omega) A.chg.size _ rfl ?_; intro g1 cap1 w2 hown hgr hg hgl)
    obtain ⟨R1, hR1, A2⟩ := Ats.grownG (R := []) A (.inl ⟨rfl, rfl, rfl, rfl⟩) hown hgr (by
      rcases hg with e | e
      · simp [Value.ownBlock] at e
      · exact .inr (by simp [Value.ownBlock, e])) hpos
    rw [Nat.zero_add, List.nil_append] at hR1
    have HR1 := hid' hR1
    clear hR1 hown hgr hg A Rg yg
    try simp only [Nat.zero_add]
    go_wp2_with fail
    go_ret
    refine ⟨_, rfl, J, _, HKH.out, HJ.out, HVH.out _ _ _ _ HR1.out, (A2.alloc _).perm ?_⟩
    rw [List.append_assoc]
    exact List.perm_middle.symm
end Go.Proofs.YtpgkjgceldleaaaGreat
/- The reference's heap: Become. -/
namespace Go.Proofs.YtpgkjgceldleaaaGreat
open Go.RowKit

theorem Ats.become {w0 W : World} {M : List (Nat × List C)} {J R R1 K : List (Nat × Obj)} {gp : Nat} {lv : Value} (A : Ats w0 W M (R1 ++ ((J ++ (R ++ [(gp, refBox lv)])) ++ K))) (v : Value) :
    Ats w0 (W.setCell ⟨gp, 0, none⟩ v) M ((J ++ (R1 ++ [(gp, refBox v)])) ++ K) := by
  have A1 := (A.perm (K' := (gp, refBox lv) :: (R ++ (J ++ (R1 ++ K)))) (by
    classical refine List.perm_iff_count.2 fun q => ?_
    simp only [List.count_append, List.count_cons, List.count_nil]
    omega)).put 0 v
  have A2 : Ats w0 (W.setCell ⟨gp, 0, none⟩ v) M ((gp, refBox v) :: (R ++ (J ++ (R1 ++ K)))) := A1
  refine (A2.keep (K' := (gp, refBox v) :: (J ++ (R1 ++ K))) ((List.sublist_append_right _ _).cons_cons _)).perm ?_
  classical refine List.perm_iff_count.2 fun q => ?_
  simp only [List.count_append, List.count_cons, List.count_nil]
  omega
set_option maxRecDepth 100000 in
set_option maxHeartbeats 1000000 in
theorem rbecome_any {J0 : List (Nat × Obj)} {w0 w : World} {M : List (Nat × List C)} {E E2 K : List (Nat × Obj)} {gp vp : Nat} {L Lv : List C} (H : RefK J0 gp L E) (V : RefV J0 vp Lv E2) (A : Ats w0 w M (E ++ (E2 ++ K))) :
    Calls Tryz.prog 61 #[ptr gp, ptr vp] w fun r w' => r = .returned (.tuple #[]) ∧ ∃ E', RefK J0 gp Lv E' ∧ Ats w0 w' M (E' ++ (E2 ++ K)) := by
  obtain ⟨J, R, lv, rows, hJ0, rfl, hR, -⟩ := H
  obtain ⟨R2, lv2, rows2, hE2, hR2, hrl, hrc, h1, h2, hnil⟩ := V
  have mg : (gp, refBox lv) ∈ (J ++ (R ++ [(gp, refBox lv)])) ++ (E2 ++ K) := by simp
  have mv : (vp, refBox lv2) ∈ (J ++ (R ++ [(gp, refBox lv)])) ++ (E2 ++ K) := by rw [hE2]; simp
  obtain ⟨i0, hi, hz0, hz1, hz2⟩ := info_parts Tryz.infoRcell
  have hrc' : ∀ (i : Nat) (c : C) (vs : List Value), Lv[i]? = some c → rows2[i]? = some vs → CellIn J c vs := fun i c vs hi hv => (hrc i c vs hi hv).mono hJ0
  have HNEW : ∀ R1 v, RowG 143 4 R1 v Lv.length (joinV rows2) → (Lv = [] → v = .slice none 0 0) → RefK J0 gp Lv (J ++ (R1 ++ [(gp, refBox v)])) := fun R1 v hR1 hv => ⟨J, R1, v, rows2, hJ0, rfl, hR1, hrl, hrc', h1, h2, hv⟩
  have HNW := hid' HNEW
  clear HNEW hR
  rcases hR2 with ⟨rfl, h0, hrw, rfl⟩ | ⟨g, cap, cur, rfl, rfl, k1, k2, k3, k4, k5⟩
  · have HL := hid' (And.intro h0 hrw)
    clear hrc hrc' hrl hrw h0 hnil hJ0 hE2 h1 h2
    (try clear Rg); (try clear yg); (try clear Zg)
    have Rg := cells_of (A.box _ mg)
    have yg := blk_lt (A.box _ mg)
    have Zg := free_of (A.box _ mg)
    (try clear Rv); (try clear yv); (try clear Zv)
    have Rv := cells_of (A.box _ mv)
    have yv := blk_lt (A.box _ mv)
    (try simp only at Rg yg Zg Rv yv)
    have A3 := Ats.become (R1 := []) A (.slice none 0 0)
    go_enter Tryz.func61, Tryz.ntmps61
    go_wp2_with (at_builtin; refine wpList_append_own_none rfl _ _ 60 rfl w.heap.size 143 i0 4 Tryz.underRcells hi (.slice none 0 0) 0 [] rfl (World.ownsRow_nil _ _ _ _) rfl ?_)
    refine bodyPost_end (v := .tuple #[]) (by simp [results, Tryz.results61, go_sem]) rfl ⟨rfl, _, HNW.out [] _ (.inl ⟨rfl, HL.out.1, HL.out.2, rfl⟩) (fun _ => rfl), A3⟩
  · have hpos : 0 < Lv.length := by
      rcases Nat.eq_zero_or_pos Lv.length with e | e
      · have := hnil (List.eq_nil_of_length_eq_zero e); simp at this
      · exact e
    have mr : (g, Obj.cells cur 143) ∈ (J ++ (R ++ [(gp, refBox lv)])) ++ (E2 ++ K) := by rw [hE2]; simp
    have hone1 : ∀ u ∈ joinV rows2, u.oneCell' = true := fun u hu => by
      obtain ⟨r, hr, hu⟩ := List.mem_flatMap.1 hu
      obtain ⟨k, hk, rfl⟩ := List.getElem_of_mem hr
      exact (hrc k (Lv[k]'(by omega)) rows2[k] (List.getElem?_eq_getElem _) (List.getElem?_eq_getElem _)).one u hu
    have hne : Lv ≠ [] := fun e => by rw [e] at hpos; simp at hpos
    have HNE := hid' hne
    have HT := hid' k4
    have H5 := hid' k5
    have HONE := hid' hone1
    clear hrc hrc' hrl hnil hJ0 k4 k5 hone1 hE2 h2 hne
    generalize Lv.length = n at *
    (try clear Rg); (try clear yg); (try clear Zg)
    have Rg := cells_of (A.box _ mg)
    have yg := blk_lt (A.box _ mg)
    have Zg := free_of (A.box _ mg)
    (try clear Rv); (try clear yv); (try clear Zv)
    have Rv := cells_of (A.box _ mv)
    have yv := blk_lt (A.box _ mv)
    (try simp only at Rg yg Zg Rv yv)
    go_enter Tryz.func61, Tryz.ntmps61
    go_wp2_with (at_builtin; refine wpList_append_lies _ rfl (.const (.slice none 0 0)) (.tmp 10) 60 rfl w0.heap.size 143 i0 (.agg #[.int .i64 0, .slice none 0 0, .slice none 0 0, .bool false]) 4 64 Tryz.underRcells hi hz0 hz1 hz2 rfl (by decide) (.slice none 0 0) 0 [] rfl (World.ownsRow_nil _ _ _ _) ⟨g, 0, none⟩ n cap (joinV rows2) rfl H5.out (news_take (A.box _ mr) (n * 4) _ HT.out) HONE.out hpos (by unfold maxLen; omega) (by omega) A.chg.size _ rfl ?_; intro g1 cap1 w2 hown hgr hg hgl; obtain ⟨R1, hR1, A2⟩ := Ats.grownG (R := []) A (.inl ⟨rfl, rfl, rfl, rfl⟩) hown hgr (own_new hg) hpos; rw [Nat.zero_add, List.nil_append] at hR1; have HR1 := hid' hR1; have HA2 := hid' A2; clear hR1 hown hgr hg A Rg yg Zg Rv yv; have Zg := free_of (HA2.out.box _ (List.mem_append_right R1 mg)); have yg := blk_lt (HA2.out.box _ (List.mem_append_right R1 mg)); have Rg := cells_of (HA2.out.box _ (List.mem_append_right R1 mg)); clear A2; try simp only [Nat.zero_add])
    have A3 := Ats.become HA2.out (.slice (some ⟨g1, 0, none⟩) n cap1)
    refine bodyPost_end (v := .tuple #[]) (by simp [results, Tryz.results61, go_sem]) rfl ⟨rfl, _, HNW.out R1 _ HR1.out (fun e => absurd e HNE.out), A3⟩
end Go.Proofs.YtpgkjgceldleaaaGreat
