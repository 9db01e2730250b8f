/- Parts of the proof: Rxc. -/
import Derived.Test.YtoogmimbmgdflaaGreatY14
namespace Go.Proofs.YtoogmimbmgdflaaGreat
open Go.RowKit
def RefV (J : List (Nat × Obj)) (vp : Nat) (L : List C) (E : List (Nat × Obj)) : Prop :=
 ∃ R lv rows, E = R ++ [(vp, refBox lv)] ∧ RowG 108 4 R lv L.length (joinV rows) ∧ rows.length = L.length ∧ (∀ (i : Nat) (c : C) (vs : List Value), L[i]? = some c → rows[i]? = some vs → CellIn J c vs) ∧ L.length ≤ 2000 ∧ used L ≤ 40000 ∧ (L = [] → lv = .slice none 0 0)
set_option maxRecDepth 100000 in
set_option maxHeartbeats 1000000 in
theorem rcopy_any {J0 : List (Nat × Obj)} {w0 w : World} {M : List (Nat × List C)} {E K : List (Nat × Obj)} {gp : Nat} {L : List C} (H : RefK J0 gp L E) (A : Ats w0 w M (E ++ K)) :
 Calls Tryz.prog 30 #[ptr gp] w fun r w' => ∃ vp, r = .returned (ptr vp) ∧ ∃ J E2, RefK J gp L E ∧ (∀ q ∈ J0, q ∈ J) ∧ RefV J vp L E2 ∧ Ats w0 w' M (E2 ++ (E ++ K)) := by
 obtain ⟨J, R, lv, rows, hJ0, hE, hR, hrl, hrc, h1, h2, hnil⟩ := H
 have HK : RefK J gp L E := ⟨J, R, lv, rows, fun _ h => h, hE, hR, hrl, hrc, h1, h2, hnil⟩
 have mg : (gp, refBox lv) ∈ E ++ K := by rw [hE]; simp
 obtain ⟨i0, hi, hz0, hz1, hz2⟩ := info_parts Tryz.infoRcell
 rcases hR with ⟨rfl, h0, hrw, rfl⟩ | ⟨g, cap, cur, rfl, rfl, k1, k2, k3, k4, k5⟩
 · have HV : ∀ vp, RefV J vp L [(vp, refBox (.slice none 0 0))] := fun vp => ⟨[], _, rows, rfl, .inl ⟨rfl, h0, hrw, rfl⟩, hrl, hrc, h1, h2, fun _ => rfl⟩
   have HVH := hid' HV; have HKH := hid' HK; have HJ := hid' hJ0; clear HV HK hrc hrl hrw h0 hnil hJ0 hE h1 h2
   (try clear Rg); (try clear yg); (try clear Zg)
   have Rg := cells_of (A.box _ mg); have yg := blk_lt (A.box _ mg)
   (try simp only at Rg yg)
   go_enter Tryz.func30, Tryz.ntmps30
   go_wp2_with (at_builtin; refine wpList_append_own_none rfl _ _ 27 rfl w.heap.size 108 i0 4 Tryz.underRcells hi (.slice none 0 0) 0 [] rfl (World.ownsRow_nil _ _ _ _) rfl ?_)
   go_ret; exact ⟨_, rfl, J, _, HKH.out, HJ.out, HVH.out _, A.alloc _⟩
 · have hpos : 0 < L.length := by
    rcases Nat.eq_zero_or_pos L.length with e | e
    · have := hnil (List.eq_nil_of_length_eq_zero e); simp at this
    · exact e
   have mr : (g, Obj.cells cur 108) ∈ E ++ K := by rw [hE]; simp
   have hone1 : ∀ u ∈ joinV rows, u.oneCell' = true := fun u hu => by
    obtain ⟨r, hr, hu⟩ := List.mem_flatMap.1 hu; obtain ⟨k, hk, rfl⟩ := List.getElem_of_mem hr; exact (hrc k (L[k]'(by omega)) rows[k] (List.getElem?_eq_getElem _) (List.getElem?_eq_getElem _)).one u hu
   have HV : ∀ vp g1 cap1 R1, RowG 108 4 R1 (.slice (some ⟨g1, 0, none⟩) L.length cap1) L.length (joinV rows) → RefV J vp L (R1 ++ [(vp, refBox (.slice (some ⟨g1, 0, none⟩) L.length cap1))]) := fun vp g1 cap1 R1 hR1 => ⟨R1, _, rows, rfl, hR1, hrl, hrc, h1, h2, fun e => by rw [e] at hpos; simp at hpos⟩
   have HVH := hid' HV; have HKH := hid' HK; have HJ := hid' hJ0; have HT := hid' k4; have H5 := hid' k5; have HONE := hid' hone1; clear HV HK hrc hrl hnil hJ0 k4 k5 hone1 hE h2; generalize L.length = n at *
   (try clear Rg); (try clear yg); (try clear Zg)
   have Rg := cells_of (A.box _ mg); have yg := blk_lt (A.box _ mg)
   (try simp only at Rg yg)
   go_enter Tryz.func30, Tryz.ntmps30
   go_wp2_with (at_builtin; refine wpList_append_lies _ rfl (.const (.slice none 0 0)) (.tmp 6) 27 rfl w0.heap.size 108 i0 (.agg #[.int .i64 0, .slice none 0 0, .slice none 0 0, .bool false]) 4 64 Tryz.underRcells hi hz0 hz1 hz2 rfl (by decide) (.slice none 0 0) 0 [] rfl (World.ownsRow_nil _ _ _ _) ⟨g, 0, none⟩ n cap (joinV rows) rfl H5.out (news_take (A.box _ mr) (n * 4) _ HT.out) HONE.out hpos (by unfold maxLen; omega) (by omega) A.chg.size _ rfl ?_; intro g1 cap1 w2 hown hgr hg hgl)
   obtain ⟨R1, hR1, A2⟩ := Ats.grownG (R := []) A (.inl ⟨rfl, rfl, rfl, rfl⟩) hown hgr (by
    rcases hg with e | e
    · simp [Value.ownBlock] at e
    · exact .inr (by simp [Value.ownBlock, e])) hpos
   rw [Nat.zero_add, List.nil_append] at hR1; have HR1 := hid' hR1; clear hR1 hown hgr hg A Rg yg
   try simp only [Nat.zero_add]
   go_wp2_with fail
   go_ret; refine ⟨_, rfl, J, _, HKH.out, HJ.out, HVH.out _ _ _ _ HR1.out, (A2.alloc _).perm ?_⟩; rw [List.append_assoc]; exact List.perm_middle.symm
end Go.Proofs.YtoogmimbmgdflaaGreat
