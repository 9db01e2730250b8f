/- Parts of the proof: Hbw, Lat, Row, Rgl, Stk, Smr, Lpl, Lpt. -/
import Derived.Deep.RegionHeld
import Derived.Laws.CopyOwn
import Derived.StillTailTactics
import Derived.Test.YtoogmimbmgdflaaGreatY09
namespace Go.Proofs.YtoogmimbmgdflaaGreat
open Go.RowKit
variable {w w' w0 : World} {T : TypeId} {b hp i j n sz : Nat} {xs : List Value} {v : Value} {M : List (Nat × List C)} {K R : List (Nat × Obj)} {L L' : List C} {o : O} {e : Int}
theorem Tryz.infoByte : (Tryz.prog.info? 5).map (fun i => (i.zero, i.size, i.bytes)) = some (some (.int .u8 0), 1, 1) := by kernel_rfl
theorem vu8_one (l : List UInt8) : ∀ u ∈ l.map vu8, u.oneCell' = true := by
 intro u hu; obtain ⟨b, _, rfl⟩ := List.mem_map.1 hu; rfl
theorem cells_newS (w : World) (a : Addr) (v : Value) (cs : List Value) (t : TypeId) : ∀ j u, cs[j]? = some u → ((w.setCell a v).alloc (.cells cs.toArray t)).cell? ((⟨w.heap.size, 0, none⟩ : Addr).add j) = some u := by
 have := cells_new (w.setCell a v) cs t; rw [World.size_setCell] at this; exact this
theorem cells_new2 (w : World) (o o' : Obj) (cs : List Value) (t : TypeId) : ∀ j u, cs[j]? = some u → (((w.alloc o).alloc o').alloc (.cells cs.toArray t)).cell? ((⟨w.heap.size + 1 + 1, 0, none⟩ : Addr).add j) = some u := by
 have := cells_new ((w.alloc o).alloc o') cs t
 simpa using this
theorem Row.of_nil {size : Nat} (h : Row w T size (.slice none 0 0) n xs) : Row w' T size (.slice none 0 0) n xs := by
 refine ⟨h.1, ?_⟩
 rcases h.2 with h | ⟨g, cap, cur, fz, e, _⟩
 · exact .inl h
 · simp at e
theorem Row.src {w1 : World} {size : Nat} (h : Row w1 T size v n xs) :
 (v = .slice none 0 0 ∧ n = 0) ∨ ∃ ad cap, v = .slice (some ad) n cap ∧ ∀ W, Chg NoB w1 W → ∀ j u, xs[j]? = some u → W.cell? (ad.add j) = some u := by
 rcases h.2 with ⟨rfl, hn⟩ | ⟨g, cap, cur, fz, rfl, hcur, hfz, hnc, hcm, hcs, htk⟩
 · exact .inl ⟨rfl, hn⟩
 · refine .inr ⟨_, _, rfl, fun W hW j u hj => ?_⟩
   have hlt : j < n * size := by rw [← h.1]; exact (List.getElem?_eq_some_iff.1 hj).1
   rw [add_one, cells_of (hW.blk hcur id), ← Array.getElem?_toList]
   have : cur.toList[j]? = (cur.toList.take (n * size))[j]? := by rw [List.getElem?_take, if_pos hlt]
   rw [this, htk]; exact hj
set_option maxRecDepth 100000 in
set_option maxHeartbeats 4000000 in
theorem become_any (hp : Nat) (g : HS) (w : World) (H : HeapRep w g) (x0 x1 : Value) (hh : w.heap[hp]? = some (.cells #[x0, x1] 60 (0, 0))) (hhg : hp ∉ g.foot) :
 Calls Tryz.prog 26 #[ptr hp, ptr g.hp] w fun e w' => e = .returned (.tuple #[]) ∧
  ∃ h' : HS, h'.hp = hp ∧ h'.l = g.l ∧ HeapRep w' h' ∧ HeapRep w' g ∧ Chg (· = hp) w w' ∧ ∀ b ∈ h'.foot, b = hp ∨ w.heap.size ≤ b := by
 obtain ⟨gp, slv, L⟩ := g; obtain ⟨sa, cap, rfl, -⟩ := H.shape; have hgl := blk_lt H.head; have hhl := blk_lt hh; have hm := H.most; simp only at hm; have R0 := cells_of H.head; go_enter Tryz.func26, Tryz.ntmps26
 go_wp2
 go_loopw [4, 20] (fun v i wr => ∃ k : Nat, k ≤ L.length ∧ i = .int .i64 k ∧ BecInv w (L.map PC.c) k v wr) (fun _ i _ => L.length - (intOf i).toNat)
 case atStart => exact ⟨0, Nat.zero_le _, rfl, BecInv.start _ _⟩
 case round =>
  obtain ⟨k, hk, rfl, hB⟩ := hrel; obtain ⟨M, m1, m2, m3, m4, m5, m6, X⟩ := hB; have G1 := H.pure X; clear R0
  by_cases hlt : k < L.length
  · obtain ⟨gb, cap', cur, fz, u, v', hsl, hcur, hu, hv, huv, hgb⟩ := G1.at' hlt; simp only [Value.slice.injEq] at hsl; obtain ⟨rfl, -, rfl⟩ := hsl; have hok := G1.cell _ (List.getElem_mem hlt)
    have hGk : (L.map PC.c)[k]? = some L[k].c := by simp [hlt]
    have hkG : k < (L.map PC.c).length := by simpa using hlt
    have hGk' : L[k].c = (L.map PC.c)[k] := by simp
    have ST := Hid.mk' (fun (w' : World) (v' : Value) (x : PC) => BecInv.step (w' := w') (v' := v') (x := x) m1 m2 hkG m3 m4 m5 m6 X); have HG := Hid.mk' hGk'; have hvl := owns_ge m3; have hsm := cell_small G1 (List.getElem_mem hlt); have HM := Hid.mk' m3; have wsz := X.size; clear hGk hGk' m1 m3 m4 m5 m6; have HU := Hid.mk' huv; clear huv; generalize hxe : L[k] = x at *; clear hxe; have Rg := Chg.cells (S := NoB) hcur id; have lg := blk_lt hcur; have X := Chg.refl NoB wr
    by_cases ht : x.c.text = true
    · have hp2 := HU.out; simp only [PC.ptrs, ht, if_true, List.cons.injEq, Value.pointer.injEq] at hp2; obtain ⟨rfl, rfl, -⟩ := hp2; have hhd := hok.head.1 ht; have hrow := hok.textRow ht; have Rx := Chg.cells (S := NoB) hhd id; have lx := blk_lt hhd
      have hsm2 : x.c.bytes.length ≤ 40000 := by simpa [C.size, ht] using hsm
      rcases hrow.src with ⟨hsl, hn0⟩ | ⟨ad, c1, hsl, hsrc⟩
      · rw [hsl] at hhd Rx; have HSL := Hid.mk' hsl; have HN0 := Hid.mk' hn0; clear hsl hn0; obtain ⟨i5, hi5, hz50, hz51, hz52⟩ := info_parts Tryz.infoByte; obtain ⟨i0, hi, hz0, hz1, hz2⟩ := info_parts Tryz.infoCell
        go_wp2_with (first
         | (at_builtin; refine wpList_append_own_none rfl (.const (.slice none 0 0)) (.tmp 32) 99 rfl wr.heap.size 5 i5 1 Tryz.underBytes hi5 (.slice none 0 0) 0 [] rfl (World.ownsRow_nil _ _ _ _) rfl ?_)
         | (at_builtin; refine wpList_append_own_at _ rfl (.tmp 35) (.tmp 37) 58 rfl w.heap.size 116 i0 (.agg #[.pointer none, .pointer none]) 2 16 Tryz.underCells hi hz0 hz1 hz2 rfl (by decide) u4 k (M.flatMap PC.ptrs) rfl (owns_chgB HM.out (((X.alloc _).alloc _).alloc _) (fun _ _ e => e)) _ 1 1 [.pointer none, ptr (wr.heap.size + 1)] rfl rfl (fun j u hj => cells_new2 _ _ _ [.pointer none, ptr (wr.heap.size + 1)] 116 j u hj) (one2 _ _) ?_ ?_ ?_ ?_; (unfold maxLen; omega); omega; (simp <;> omega); intro v5 w5 hown5 hgr5 _ hob5))
        have C5a : Chg (· ∈ u4.ownBlock.toList) (((wr.alloc (.cells #[.pointer none, ptr x.p] 116)).alloc (.cells #[.bool x.c.locked, .slice none 0 0] 120)).alloc (.cells #[.pointer none, ptr (wr.heap.size + 1)] 116)) w5 := Chg.grown (Chg.refl _ _) hgr5 (fun n hn => .inl (by simp [hn])); have C5 : Chg (· ∈ u4.ownBlock.toList) wr w5 := ((((Chg.refl _ wr).alloc _).alloc _).alloc _).trans C5a; have hq5 := C5a.blk (blk_alloc (blk_new1 wr _ _) _) (fun hb => by have := (hvl _ hb).2; omega)
        have HX : PC.ok w5 ⟨wr.heap.size + 1, .slice none 0 0, x.c⟩ := by
         unfold PC.ok; simp only [ht, if_true]; have hok2 := hok; unfold PC.ok at hok2; simp only [ht, if_true] at hok2; refine ⟨hq5, ?_, hok2.2.2⟩; have hr := hok2.2.1; rw [HSL.out] at hr; exact hr.of_nil
        go_roundw
        case rel =>
         refine ⟨k + 1, by omega, by go_num, ST.out w5 v5 ⟨wr.heap.size + 1, .slice none 0 0, x.c⟩ C5 HX HG.out ?_ ?_ ?_ ?_⟩
         · intro b hb; simp only [PC.foot, Value.ownBlock, Option.toList, List.mem_cons, List.not_mem_nil, or_false] at hb; omega
         · simp [PC.foot, Value.ownBlock]
         · have e : PC.ptrs ⟨wr.heap.size + 1, .slice none 0 0, x.c⟩ = [.pointer none, ptr (wr.heap.size + 1)] := by simp [PC.ptrs, ht]
           rw [e]; exact hown5
         · rcases hob5 with h | h
           · exact .inl h
           · refine .inr ⟨_, h, by simp; omega, fun hb => ?_⟩; simp only [PC.foot, Value.ownBlock, Option.toList, List.mem_cons, List.not_mem_nil, or_false, World.size_alloc] at hb; omega
        case measure => simp [intOf]; omega
      · rw [hsl] at hhd Rx; have HS1 := Hid.mk' hsrc; clear hsrc hsl; obtain ⟨i5, hi5, hz50, hz51, hz52⟩ := info_parts Tryz.infoByte; obtain ⟨i0, hi, hz0, hz1, hz2⟩ := info_parts Tryz.infoCell
        go_wp2_with (first
         | (at_builtin; refine wpList_append_own_at _ rfl (.const (.slice none 0 0)) (.tmp 32) 99 rfl wr.heap.size 5 i5 (.int .u8 0) 1 1 Tryz.underBytes hi5 hz50 hz51 hz52 rfl (by decide) (.slice none 0 0) 0 [] rfl (World.ownsRow_nil _ _ _ _) ad x.c.bytes.length c1 (x.c.bytes.map vu8) rfl (by simp) (fun j u hj => HS1.out _ ((X.alloc _).alloc _) j u hj) (vu8_one _) ?_ ?_ ?_ ?_; (unfold maxLen; omega); omega; (simp; omega); intro v2 w3 hown2 hgr2 _ hob2; have C3 : Chg NoB wr w3 := Chg.grown ((X.alloc _).alloc _) hgr2 (fun k hk => by simp [Value.ownBlock] at hk); have hq7 := (Chg.grown (Chg.refl NoB _) hgr2 (fun k hk => by simp [Value.ownBlock] at hk)).blk (blk_new1 wr _ _) id; obtain ⟨a2, cap2, rfl, _⟩ := (Row.of_owns (owns_base hown2 (Nat.zero_le _))).shape; have R7 := cells_of hq7; have Z7 := free_of hq7; have l7 := blk_lt hq7; have HW2 := Hid.mk' hown2; have HB2 := Hid.mk' hob2; clear hown2 hob2)
         | (at_builtin; refine wpList_append_own_at _ rfl (.tmp 35) (.tmp 37) 58 rfl w.heap.size 116 i0 (.agg #[.pointer none, .pointer none]) 2 16 Tryz.underCells hi hz0 hz1 hz2 rfl (by decide) u4 k (M.flatMap PC.ptrs) rfl (owns_chgB HM.out (Chg.alloc (Chg.setCell C3 (.inr (Nat.le_add_right _ _)) _) _) (fun _ _ e => e)) _ 1 1 [.pointer none, ptr (wr.heap.size + 1)] rfl rfl (fun j u hj => cells_newS _ _ _ [.pointer none, ptr (wr.heap.size + 1)] 116 j u hj) (one2 _ _) ?_ ?_ ?_ ?_; (unfold maxLen; omega); omega; (simp <;> omega); intro v5 w5 hown5 hgr5 _ hob5))
        have hown2 := HW2.out; simp only [Nat.zero_add, List.nil_append] at hown2
        have hv2b : ∀ b ∈ (Value.slice a2 x.c.bytes.length cap2).ownBlock.toList, b = wr.heap.size + 1 + 1 := fun b hb => by
         have := HB2.out; simp only [Nat.zero_add] at this
         rcases this with this | this
         · rw [this] at hb; simp [Value.ownBlock] at hb
         · rw [this] at hb; simp at hb; omega
        have C5a : Chg (· ∈ u4.ownBlock.toList) ((w3.setCell ⟨wr.heap.size + 1, 1, none⟩ (.slice a2 x.c.bytes.length cap2)).alloc (.cells #[.pointer none, ptr (wr.heap.size + 1)] 116)) w5 := Chg.grown (Chg.refl _ _) hgr5 (fun n hn => .inl (by simp [hn])); have C5 : Chg (· ∈ u4.ownBlock.toList) wr w5 := (((C3.mono (fun _ _ e => e.elim)).setCell (p := ⟨wr.heap.size + 1, 1, none⟩) (.inr (Nat.le_add_right _ _)) _).alloc _).trans C5a; have hq5 := C5a.blk (blk_alloc (blk_set hq7 1 (.slice a2 x.c.bytes.length cap2)) _) (fun hb => by have := (hvl _ hb).2; omega); simp only [List.setIfInBounds_toArray, List.set_cons_zero, List.set_cons_succ] at hq5; have hrow5 := (Row.of_owns (owns_base hown2 (Nat.zero_le _))).chg ((Chg.refl (fun b => b = wr.heap.size + 1) w3).one (p := ⟨wr.heap.size + 1, 1, none⟩) rfl (.slice a2 x.c.bytes.length cap2)) (fun b hb e => by have := hv2b b hb; omega); have hrow6 := (hrow5.chg ((Chg.refl NoB _).alloc (.cells #[.pointer none, ptr (wr.heap.size + 1)] 116)) (fun _ _ e => e)).chg C5a (fun b hb e => by have := hv2b b hb; have := (hvl _ e).2; omega); have hsz5 := C3.size
        have HX : PC.ok w5 ⟨wr.heap.size + 1, .slice a2 x.c.bytes.length cap2, x.c⟩ := by
         unfold PC.ok; simp only [ht, if_true]; have hok2 := hok; unfold PC.ok at hok2; simp only [ht, if_true] at hok2; exact ⟨hq5, hrow6, hok2.2.2⟩
        go_roundw
        case rel =>
         refine ⟨k + 1, by omega, by go_num, ST.out w5 v5 ⟨wr.heap.size + 1, .slice a2 x.c.bytes.length cap2, x.c⟩ C5 HX HG.out ?_ ?_ ?_ ?_⟩
         · intro b hb; simp only [PC.foot, List.mem_cons] at hb
           rcases hb with rfl | hb
           · omega
           · have := hv2b b hb; omega
         · simp only [PC.foot, List.nodup_cons]; refine ⟨fun hb => by have := hv2b _ hb; omega, ?_⟩
           cases (Value.slice a2 x.c.bytes.length cap2).ownBlock <;> simp
         · have e : PC.ptrs ⟨wr.heap.size + 1, .slice a2 x.c.bytes.length cap2, x.c⟩ = [.pointer none, ptr (wr.heap.size + 1)] := by simp [PC.ptrs, ht]
           rw [e]; exact hown5
         · rcases hob5 with h | h
           · exact .inl h
           · refine .inr ⟨_, h, by simp; omega, fun hb => ?_⟩; simp only [PC.foot, List.mem_cons, World.size_alloc, World.size_setCell] at hb
             rcases hb with hb | hb
             · omega
             · have := hv2b _ hb; omega
        case measure => simp [intOf]; omega
    · have htf : x.c.text = false := by simpa using ht
      have hp2 := HU.out; simp only [PC.ptrs, htf, if_false, Bool.false_eq_true, List.cons.injEq, Value.pointer.injEq] at hp2; obtain ⟨rfl, rfl, -⟩ := hp2; have hhd := hok.head.2 htf; have hrow := hok.itemRow htf; have Rx := Chg.cells (S := NoB) hhd id; have lx := blk_lt hhd
      have hsm2 : x.c.items.length ≤ 40000 := by simpa [C.size, htf] using hsm
      rcases hrow.src with ⟨hsl, hn0⟩ | ⟨ad, c1, hsl, hsrc⟩
      · rw [hsl] at hhd Rx; have HSL := Hid.mk' hsl; have HN0 := Hid.mk' hn0; clear hsl hn0; obtain ⟨i5, hi5, hz50, hz51, hz52⟩ := info_parts Tryz.infoObj; obtain ⟨i0, hi, hz0, hz1, hz2⟩ := info_parts Tryz.infoCell
        go_wp2_with (first
         | (at_builtin; refine wpList_append_own_none rfl (.const (.slice none 0 0)) (.tmp 44) 42 rfl wr.heap.size 39 i5 6 Tryz.underObjs hi5 (.slice none 0 0) 0 [] rfl (World.ownsRow_nil _ _ _ _) rfl ?_)
         | (at_builtin; refine wpList_append_own_at _ rfl (.tmp 47) (.tmp 49) 58 rfl w.heap.size 116 i0 (.agg #[.pointer none, .pointer none]) 2 16 Tryz.underCells hi hz0 hz1 hz2 rfl (by decide) u4 k (M.flatMap PC.ptrs) rfl (owns_chgB HM.out (((X.alloc _).alloc _).alloc _) (fun _ _ e => e)) _ 1 1 [ptr (wr.heap.size + 1), .pointer none] rfl rfl (fun j u hj => cells_new2 _ _ _ [ptr (wr.heap.size + 1), .pointer none] 116 j u hj) (one2 _ _) ?_ ?_ ?_ ?_; (unfold maxLen; omega); omega; (simp <;> omega); intro v5 w5 hown5 hgr5 _ hob5))
        have C5a : Chg (· ∈ u4.ownBlock.toList) (((wr.alloc (.cells #[ptr x.p, .pointer none] 116)).alloc (.cells #[.bool x.c.locked, .bool x.c.dict, .slice none 0 0] 122)).alloc (.cells #[ptr (wr.heap.size + 1), .pointer none] 116)) w5 := Chg.grown (Chg.refl _ _) hgr5 (fun n hn => .inl (by simp [hn])); have C5 : Chg (· ∈ u4.ownBlock.toList) wr w5 := ((((Chg.refl _ wr).alloc _).alloc _).alloc _).trans C5a; have hq5 := C5a.blk (blk_alloc (blk_new1 wr _ _) _) (fun hb => by have := (hvl _ hb).2; omega)
        have HX : PC.ok w5 ⟨wr.heap.size + 1, .slice none 0 0, x.c⟩ := by
         unfold PC.ok; simp only [htf, if_false, Bool.false_eq_true]; have hok2 := hok; unfold PC.ok at hok2; simp only [htf, if_false, Bool.false_eq_true] at hok2; refine ⟨hq5, ?_, hok2.2.2⟩; have hr := hok2.2.1; rw [HSL.out] at hr; exact hr.of_nil
        go_roundw
        case rel =>
         refine ⟨k + 1, by omega, by go_num, ST.out w5 v5 ⟨wr.heap.size + 1, .slice none 0 0, x.c⟩ C5 HX HG.out ?_ ?_ ?_ ?_⟩
         · intro b hb; simp only [PC.foot, Value.ownBlock, Option.toList, List.mem_cons, List.not_mem_nil, or_false] at hb; omega
         · simp [PC.foot, Value.ownBlock]
         · have e : PC.ptrs ⟨wr.heap.size + 1, .slice none 0 0, x.c⟩ = [ptr (wr.heap.size + 1), .pointer none] := by simp [PC.ptrs, htf]
           rw [e]; exact hown5
         · rcases hob5 with h | h
           · exact .inl h
           · refine .inr ⟨_, h, by simp; omega, fun hb => ?_⟩; simp only [PC.foot, Value.ownBlock, Option.toList, List.mem_cons, List.not_mem_nil, or_false, World.size_alloc] at hb; omega
        case measure => simp [intOf]; omega
      · rw [hsl] at hhd Rx; have HS1 := Hid.mk' hsrc; clear hsrc hsl; obtain ⟨i5, hi5, hz50, hz51, hz52⟩ := info_parts Tryz.infoObj; obtain ⟨i0, hi, hz0, hz1, hz2⟩ := info_parts Tryz.infoCell
        go_wp2_with (first
         | (at_builtin; refine wpList_append_own_at _ rfl (.const (.slice none 0 0)) (.tmp 44) 42 rfl wr.heap.size 39 i5 O.nil.val 6 56 Tryz.underObjs hi5 hz50 hz51 hz52 rfl (by decide) (.slice none 0 0) 0 [] rfl (World.ownsRow_nil _ _ _ _) ad x.c.items.length c1 (x.c.items.flatMap O.cells) rfl (flat_length O.cells 6 cells_length _) (fun j u hj => HS1.out _ ((X.alloc _).alloc _) j u hj) (flat_one _) ?_ ?_ ?_ ?_; (unfold maxLen; omega); omega; (simp; omega); intro v2 w3 hown2 hgr2 _ hob2; have C3 : Chg NoB wr w3 := Chg.grown ((X.alloc _).alloc _) hgr2 (fun k hk => by simp [Value.ownBlock] at hk); have hq7 := (Chg.grown (Chg.refl NoB _) hgr2 (fun k hk => by simp [Value.ownBlock] at hk)).blk (blk_new1 wr _ _) id; obtain ⟨a2, cap2, rfl, _⟩ := (Row.of_owns (owns_base hown2 (Nat.zero_le _))).shape; have R7 := cells_of hq7; have Z7 := free_of hq7; have l7 := blk_lt hq7; have HW2 := Hid.mk' hown2; have HB2 := Hid.mk' hob2; clear hown2 hob2)
         | (at_builtin; refine wpList_append_own_at _ rfl (.tmp 47) (.tmp 49) 58 rfl w.heap.size 116 i0 (.agg #[.pointer none, .pointer none]) 2 16 Tryz.underCells hi hz0 hz1 hz2 rfl (by decide) u4 k (M.flatMap PC.ptrs) rfl (owns_chgB HM.out (Chg.alloc (Chg.setCell C3 (.inr (Nat.le_add_right _ _)) _) _) (fun _ _ e => e)) _ 1 1 [ptr (wr.heap.size + 1), .pointer none] rfl rfl (fun j u hj => cells_newS _ _ _ [ptr (wr.heap.size + 1), .pointer none] 116 j u hj) (one2 _ _) ?_ ?_ ?_ ?_; (unfold maxLen; omega); omega; (simp <;> omega); intro v5 w5 hown5 hgr5 _ hob5))
        have hown2 := HW2.out; simp only [Nat.zero_add, List.nil_append] at hown2
        have hv2b : ∀ b ∈ (Value.slice a2 x.c.items.length cap2).ownBlock.toList, b = wr.heap.size + 1 + 1 := fun b hb => by
         have := HB2.out; simp only [Nat.zero_add] at this
         rcases this with this | this
         · rw [this] at hb; simp [Value.ownBlock] at hb
         · rw [this] at hb; simp at hb; omega
        have C5a : Chg (· ∈ u4.ownBlock.toList) ((w3.setCell ⟨wr.heap.size + 1, 2, none⟩ (.slice a2 x.c.items.length cap2)).alloc (.cells #[ptr (wr.heap.size + 1), .pointer none] 116)) w5 := Chg.grown (Chg.refl _ _) hgr5 (fun n hn => .inl (by simp [hn])); have C5 : Chg (· ∈ u4.ownBlock.toList) wr w5 := (((C3.mono (fun _ _ e => e.elim)).setCell (p := ⟨wr.heap.size + 1, 2, none⟩) (.inr (Nat.le_add_right _ _)) _).alloc _).trans C5a; have hq5 := C5a.blk (blk_alloc (blk_set hq7 2 (.slice a2 x.c.items.length cap2)) _) (fun hb => by have := (hvl _ hb).2; omega); simp only [List.setIfInBounds_toArray, List.set_cons_zero, List.set_cons_succ] at hq5; have hrow5 := (Row.of_owns (owns_base hown2 (Nat.zero_le _))).chg ((Chg.refl (fun b => b = wr.heap.size + 1) w3).one (p := ⟨wr.heap.size + 1, 2, none⟩) rfl (.slice a2 x.c.items.length cap2)) (fun b hb e => by have := hv2b b hb; omega); have hrow6 := (hrow5.chg ((Chg.refl NoB _).alloc (.cells #[ptr (wr.heap.size + 1), .pointer none] 116)) (fun _ _ e => e)).chg C5a (fun b hb e => by have := hv2b b hb; have := (hvl _ e).2; omega); have hsz5 := C3.size
        have HX : PC.ok w5 ⟨wr.heap.size + 1, .slice a2 x.c.items.length cap2, x.c⟩ := by
         unfold PC.ok; simp only [htf, if_false, Bool.false_eq_true]; have hok2 := hok; unfold PC.ok at hok2; simp only [htf, if_false, Bool.false_eq_true] at hok2; exact ⟨hq5, hrow6, hok2.2.2⟩
        go_roundw
        case rel =>
         refine ⟨k + 1, by omega, by go_num, ST.out w5 v5 ⟨wr.heap.size + 1, .slice a2 x.c.items.length cap2, x.c⟩ C5 HX HG.out ?_ ?_ ?_ ?_⟩
         · intro b hb; simp only [PC.foot, List.mem_cons] at hb
           rcases hb with rfl | hb
           · omega
           · have := hv2b b hb; omega
         · simp only [PC.foot, List.nodup_cons]; refine ⟨fun hb => by have := hv2b _ hb; omega, ?_⟩
           cases (Value.slice a2 x.c.items.length cap2).ownBlock <;> simp
         · have e : PC.ptrs ⟨wr.heap.size + 1, .slice a2 x.c.items.length cap2, x.c⟩ = [ptr (wr.heap.size + 1), .pointer none] := by simp [PC.ptrs, htf]
           rw [e]; exact hown5
         · rcases hob5 with h | h
           · exact .inl h
           · refine .inr ⟨_, h, by simp; omega, fun hb => ?_⟩; simp only [PC.foot, List.mem_cons, World.size_alloc, World.size_setCell] at hb
             rcases hb with hb | hb
             · omega
             · have := hv2b _ hb; omega
        case measure => simp [intOf]; omega
  · have hkn : k = L.length := by omega
    subst hkn; obtain ⟨a4, c4, rfl, -⟩ := (Row.of_owns (owns_base m3 (Nat.zero_le _))).shape; have hh2 := X.blk hh id; have hg2 := G1.head; simp only [HS.l] at hg2
    have m1' : M.map PC.c = L.map PC.c := by rw [m1]; exact List.take_of_length_le (by simp)
    have HM1 := Hid.mk' m1'; have HM2 := Hid.mk' m2; clear m1 m1' m2; have Rh := cells_of hh2; have Zh := free_of hh2; have Rg := cells_of hg2; have lh := blk_lt hh2; have lg := blk_lt hg2; have hst := blk_set (blk_set hh2 0 (.slice a4 L.length c4)) 1 (.int .i64 (used (L.map PC.c) : Nat)); simp only [List.setIfInBounds_toArray, List.set_cons_zero, List.set_cons_succ] at hst; have cS := ((Chg.refl (fun b => b = hp) wr).one (p := ⟨hp, 0, none⟩) rfl (.slice a4 L.length c4)).one (p := ⟨hp, 1, none⟩) rfl (.int .i64 (used (L.map PC.c) : Nat)); have hvl := owns_ge m3; go_wp2
    go_end0; refine ⟨rfl, ⟨hp, .slice a4 L.length c4, M⟩, rfl, HM1.out, ⟨?_, ?_, ?_, ?_, ?_, ?_⟩, G1.chg cS (fun b hb e => hhg (by rw [← e]; exact hb)), (X.mono (fun _ _ e => e.elim)).trans cS, ?_⟩
    · simp only [HS.l, HM1.out]; exact hst
    · have := owns_chgB m3 cS (fun b hb e => by have := (hvl b hb).1; omega); simp only [HM2.out]; exact owns_base this (Nat.zero_le _)
    · intro y hy; exact (m4 y hy).chg cS (fun b hb e => by have := m6 b (List.mem_flatMap.2 ⟨y, hy, hb⟩); omega)
    · simp only [HS.foot, List.nodup_cons]; refine ⟨fun hb => ?_, m5⟩
      rcases List.mem_append.1 hb with hb | hb
      · have := (hvl _ hb).1; omega
      · have := m6 _ hb; omega
    · simp only [HM2.out]; exact hm
    · simp only [HS.l, HM1.out]; exact H.room
    · intro b hb; simp only [HS.foot, List.mem_cons, List.mem_append] at hb
      rcases hb with rfl | hb | hb
      · exact .inl rfl
      · exact .inr (hvl b hb).1
      · exact .inr (m6 b hb)
theorem copy_any (h : HS) (w : World) (H : HeapRep w h) :
 Calls Tryz.prog 23 #[ptr h.hp] w fun e w' => e = .returned (ptr w.heap.size) ∧
  ∃ h' : HS, h'.hp = w.heap.size ∧ h'.l = h.l ∧ HeapRep w' h' ∧ Chg NoB w w' ∧ ∀ b ∈ h'.foot, w.heap.size ≤ b := by
 have hlt := H.lt; go_enter Tryz.func23, Tryz.ntmps23
 go_wp2_with fail
 refine (new_any _).mono ?_; rintro e w1 ⟨rfl, rfl⟩; go_wp2_with fail
 refine (become_any w.heap.size h _ (H.pure ((Chg.refl _ _).alloc _)) _ _ (blk_new w _) (fun hb => by have := hlt _ hb; omega)).mono ?_; rintro e w2 ⟨rfl, h', e1, e2, H2, -, X2, F2⟩; go_wp2
 go_ret; refine ⟨rfl, h', e1, e2, H2, ((Chg.refl NoB w).alloc _).trans' X2 (fun i hi e => by omega), fun b hb => ?_⟩
 rcases F2 b hb with e | e
 · omega
 · simp at e; omega
def Ats (w0 w : World) (M : List (Nat × List C)) (K : List (Nat × Obj)) : Prop :=
 ∃ hs : List HS, hs.map (fun h => (h.hp, h.l)) = M ∧ (∀ h ∈ hs, HeapRep w h) ∧ Chg NoB w0 w ∧ (hs.flatMap HS.foot).Nodup ∧ (∀ b ∈ hs.flatMap HS.foot, w0.heap.size ≤ b) ∧
  (∀ q ∈ K, w.heap[q.1]? = some q.2 ∧ q.1 ∉ hs.flatMap HS.foot ∧ w0.heap.size ≤ q.1) ∧ (K.map Prod.fst).Nodup
theorem reps_lt {hs : List HS} (H : ∀ h ∈ hs, HeapRep w h) : ∀ b ∈ hs.flatMap HS.foot, b < w.heap.size := fun b hb => by
 obtain ⟨h, hh, hb⟩ := List.mem_flatMap.1 hb; exact (H h hh).lt b hb
theorem Ats.start (X : Chg NoB w0 w) : Ats w0 w [] [] :=
 ⟨[], rfl, fun h hh => by simp at hh, X, by simp, fun b hb => by simp at hb, fun q hq => by simp at hq, by simp⟩
theorem Ats.more (A : Ats w0 w M K) (h' : HS) (H' : HeapRep w' h') (X : Chg NoB w w') (F : ∀ b ∈ h'.foot, w.heap.size ≤ b) :
 Ats w0 w' ((h'.hp, h'.l) :: M) K := by
 obtain ⟨hs, rfl, H, X0, D, G, k, n⟩ := A; have lt := reps_lt H; refine ⟨h' :: hs, rfl, fun h hh => ?_, X0.pure X, ?_, fun b hb => ?_, fun q hq => ⟨X.blk (k q hq).1 id, fun hb => ?_, (k q hq).2.2⟩, n⟩
 · rcases List.mem_cons.1 hh with rfl | hh
   · exact H'
   · exact (H h hh).pure X
 · rw [List.flatMap_cons, List.nodup_append]; exact ⟨H'.apart, D, fun a ha b hb e => by have := F a ha; have := lt b hb; omega⟩
 · rw [List.flatMap_cons, List.mem_append] at hb
   rcases hb with hb | hb
   · have := F b hb; have := X0.size; omega
   · exact G b hb
 · rw [List.flatMap_cons, List.mem_append] at hb
   rcases hb with hb | hb
   · have := F _ hb; have := blk_lt (k q hq).1; omega
   · exact (k q hq).2.1 hb
theorem Ats.new (A : Ats w0 w M K) :
 Ats w0 (w.alloc (.cells #[.slice none 0 0, .int .i64 0] 60)) ((w.heap.size, []) :: M) K :=
 A.more ⟨w.heap.size, .slice none 0 0, []⟩ (HeapRep.new w) ((Chg.refl _ _).alloc _) fun b hb => by simp [HS.foot, Value.ownBlock] at hb; omega
theorem Ats.chg (A : Ats w0 w M K) : Chg NoB w0 w := by
 obtain ⟨h, -, -, X, -⟩ := A; exact X
theorem Ats.box (A : Ats w0 w M K) (q : Nat × Obj) (hq : q ∈ K) : w.heap[q.1]? = some q.2 := by
 obtain ⟨h, -, -, -, -, -, k, -⟩ := A; exact (k q hq).1
theorem Ats.box_ge (A : Ats w0 w M K) (q : Nat × Obj) (hq : q ∈ K) : w0.heap.size ≤ q.1 := by
 obtain ⟨h, -, -, -, -, -, k, -⟩ := A; exact (k q hq).2.2
theorem Ats.pure (A : Ats w0 w M K) (X : Chg NoB w w') : Ats w0 w' M K := by
 obtain ⟨h, h1, H, X0, D, F, k, n⟩ := A; exact ⟨h, h1, fun h hh => (H h hh).pure X, X0.pure X, D, F, fun q hq => ⟨X.blk (k q hq).1 id, (k q hq).2⟩, n⟩
theorem Ats.got (A : Ats w0 w M K) (X : Chg NoB w w') {b : Nat} {o : Obj} (hb : w'.heap[b]? = some o) (hn : w.heap.size ≤ b) : Ats w0 w' M ((b, o) :: K) := by
 obtain ⟨h, h1, H, X0, D, F, k, n⟩ := A; have lt := reps_lt H; refine ⟨h, h1, fun h hh => (H h hh).pure X, X0.pure X, D, F, fun q hq => ?_, ?_⟩
 · rcases List.mem_cons.1 hq with rfl | hq
   · exact ⟨hb, fun h' => by have := lt _ h'; simp only at this; omega, Nat.le_trans X0.size hn⟩
   · exact ⟨X.blk (k q hq).1 id, (k q hq).2⟩
 · rw [List.map_cons, List.nodup_cons]; refine ⟨fun hm => ?_, n⟩; obtain ⟨q, hq, e⟩ := List.mem_map.1 hm; have := blk_lt (k q hq).1; simp only at e; omega
theorem Ats.alloc (A : Ats w0 w M K) (o : Obj) : Ats w0 (w.alloc o) M ((w.heap.size, o) :: K) :=
 A.got ((Chg.refl _ _).alloc _) (blk_new w o) (Nat.le_refl _)
theorem Ats.put {cs : Array Value} {fz : Nat × Nat} (A : Ats w0 w M ((b, .cells cs T fz) :: K)) (i : Nat) (v : Value) :
 Ats w0 (w.setCell ⟨b, i, none⟩ v) M ((b, .cells (cs.setIfInBounds i v) T fz) :: K) := by
 obtain ⟨h, h1, H, X0, D, F, k, n⟩ := A; obtain ⟨kb, kn, kg⟩ := k _ (List.mem_cons_self ..); have X : Chg (· = b) w (w.setCell ⟨b, i, none⟩ v) := (Chg.refl (· = b) w).setCell (p := ⟨b, i, none⟩) (.inl rfl) v; refine ⟨h, h1, fun x hx => (H x hx).chg X fun c hc e => kn (List.mem_flatMap.2 ⟨x, hx, e ▸ hc⟩), X0.setCell (.inr kg) v, D, F, fun q hq => ?_, n⟩
 rcases List.mem_cons.1 hq with rfl | hq
 · exact ⟨blk_set kb i v, kn, kg⟩
 · refine ⟨X.blk (k q (List.mem_cons_of_mem _ hq)).1 fun e => ?_, (k q (List.mem_cons_of_mem _ hq)).2⟩; rw [List.map_cons, List.nodup_cons] at n; exact n.1 (List.mem_map.2 ⟨q, hq, e⟩)
theorem Ats.perm {K' : List (Nat × Obj)} (A : Ats w0 w M K) (hK : K.Perm K') : Ats w0 w M K' := by
 obtain ⟨h, h1, H, X0, D, F, k, n⟩ := A; exact ⟨h, h1, H, X0, D, F, fun q hq => k q (hK.mem_iff.2 hq), (hK.map _).nodup_iff.1 n⟩
theorem Ats.keep {K' : List (Nat × Obj)} (A : Ats w0 w M K) (hK : K'.Sublist K) : Ats w0 w M K' := by
 obtain ⟨h, h1, H, X0, D, F, k, n⟩ := A; exact ⟨h, h1, H, X0, D, F, fun q hq => k q (hK.subset hq), (hK.map _).nodup n⟩
theorem Ats.drop {x : Nat × List C} (A : Ats w0 w (x :: M) K) : Ats w0 w M K := by
 obtain ⟨hs, h1, H, X0, D, F, k, n⟩ := A; obtain ⟨h, t, rfl, -, rfl⟩ := List.map_eq_cons_iff.1 h1; rw [List.flatMap_cons] at D
 exact ⟨t, rfl, fun x hx => H x (List.mem_cons_of_mem _ hx), X0, (List.nodup_append.1 D).2.1, fun b hb => F b (by rw [List.flatMap_cons, List.mem_append]; exact .inr hb),
  fun q hq => ⟨(k q hq).1, fun hb => (k q hq).2.1 (by rw [List.flatMap_cons, List.mem_append]; exact .inr hb), (k q hq).2.2⟩, n⟩
theorem Ats.does {f : Nat} {args : Array Value} {r : Value} (A : Ats w0 w ((hp, L) :: M) K)
 (hc : ∀ h : HS, h.hp = hp → h.l = L → HeapRep w h → Calls Tryz.prog f args w fun e w' => e = .returned r ∧ Next w h w' L') :
 Calls Tryz.prog f args w fun e w' => e = .returned r ∧ Ats w0 w' ((hp, L') :: M) K := by
 obtain ⟨hs, h1, H, X0, D, F, k, n⟩ := A; obtain ⟨h, t, rfl, h2, rfl⟩ := List.map_eq_cons_iff.1 h1; obtain ⟨h2, h3⟩ := Prod.mk.injEq .. ▸ h2
 refine (hc h h2 h3 (H h (List.mem_cons_self ..))).mono fun e w' ⟨he, hn⟩ => ⟨he, ?_⟩
 obtain ⟨h', e1, e2, H', X, F'⟩ := hn; rw [List.flatMap_cons, List.nodup_append] at D; obtain ⟨D1, D2, D3⟩ := D; have Ht : ∀ x ∈ t, HeapRep w x := fun x hx => H x (List.mem_cons_of_mem _ hx); have lt := reps_lt Ht; have F0 : ∀ b ∈ h.foot, w0.heap.size ≤ b := fun b hb => F b (by rw [List.flatMap_cons, List.mem_append]; exact .inl hb); have Ft : ∀ b ∈ t.flatMap HS.foot, w0.heap.size ≤ b := fun b hb => F b (by rw [List.flatMap_cons, List.mem_append]; exact .inr hb)
 have kn : ∀ q ∈ K, q.1 ∉ h.foot ∧ q.1 ∉ t.flatMap HS.foot := fun q hq => by
  have := (k q hq).2.1; rw [List.flatMap_cons, List.mem_append] at this; exact ⟨fun z => this (.inl z), fun z => this (.inr z)⟩
 refine ⟨h' :: t, by simp [e1, e2, h2], fun x hx => ?_, X0.trans' X (fun i hi hb => by have := F0 i hb; omega), ?_, fun b hb => ?_, fun q hq => ⟨X.blk (k q hq).1 (kn q hq).1, fun hb => ?_, (k q hq).2.2⟩, n⟩
 · rcases List.mem_cons.1 hx with rfl | hx
   · exact H'
   · exact (Ht x hx).chg X fun b hb hb' => D3 b hb' b (List.mem_flatMap.2 ⟨x, hx, hb⟩) rfl
 · rw [List.flatMap_cons, List.nodup_append]; refine ⟨H'.apart, D2, fun a ha b hb e => ?_⟩
   rcases F' a ha with q | q
   · exact D3 a q b hb e
   · have := lt b hb; omega
 · rw [List.flatMap_cons, List.mem_append] at hb
   rcases hb with hb | hb
   · have := X0.size
     rcases F' b hb with q | q
     · exact F0 b q
     · omega
   · exact Ft b hb
 · rw [List.flatMap_cons, List.mem_append] at hb
   rcases hb with hb | hb
   · rcases F' _ hb with e | e
     · exact (kn q hq).1 e
     · have := blk_lt (k q hq).1; omega
   · exact (kn q hq).2 hb
theorem Ats.rep (A : Ats w0 w M K) (hm : (hp, L) ∈ M) : ∃ h : HS, h.hp = hp ∧ h.l = L ∧ HeapRep w h := by
 obtain ⟨hs, rfl, H, -⟩ := A; obtain ⟨h, hh, e⟩ := List.mem_map.1 hm; obtain ⟨e1, e2⟩ := Prod.mk.injEq .. ▸ e; exact ⟨h, e1, e2, H h hh⟩
theorem Ats.asks {f : Nat} {args : Array Value} {r : Value} (A : Ats w0 w M K) (hm : (hp, L) ∈ M)
 (hc : ∀ h : HS, h.hp = hp → h.l = L → HeapRep w h → Calls Tryz.prog f args w fun e w' => e = .returned r ∧ Chg NoB w w') :
 Calls Tryz.prog f args w fun e w' => e = .returned r ∧ Ats w0 w' M K := by
 obtain ⟨h, h1, h2, H⟩ := A.rep hm
 exact (hc h h1 h2 H).mono fun e w' ⟨he, hn⟩ => ⟨he, A.pure hn⟩
theorem at_array (A : Ats w0 w ((hp, L) :: M) K) (n : Int) {L' : List C} {o : O} {e : Int} (hr : arrayH L n = (L', o, e)) :
 Calls Tryz.prog 71 #[ptr hp, .int .i64 n] w fun r w' => r = .returned (.tuple #[o.val, .int .i64 e]) ∧ Ats w0 w' ((hp, L') :: M) K :=
 A.does fun h h1 h2 H => by subst h1 h2; have := array_any h n w H; rwa [hr] at this
theorem at_string (A : Ats w0 w ((hp, L) :: M) K) (s : ByteArray) {L' : List C} {o : O} {e : Int} (hr : stringH L s = (L', o, e)) :
 Calls Tryz.prog 41 #[ptr hp, .string s] w fun r w' => r = .returned (.tuple #[o.val, .int .i64 e]) ∧ Ats w0 w' ((hp, L') :: M) K :=
 A.does fun h h1 h2 H => by subst h1 h2; have := string_any h s w H; rwa [hr] at this
theorem at_dict (A : Ats w0 w ((hp, L) :: M) K) (n : Int) {L' : List C} {o : O} {e : Int} (hr : dictH L n = (L', o, e)) :
 Calls Tryz.prog 56 #[ptr hp, .int .i64 n] w fun r w' => r = .returned (.tuple #[o.val, .int .i64 e]) ∧ Ats w0 w' ((hp, L') :: M) K :=
 A.does fun h h1 h2 H => by subst h1 h2; have := hdict_any h n w H; rwa [hr] at this
theorem at_set (A : Ats w0 w ((hp, L) :: M) K) (o : O) (i : Int) (x : O) {L' : List C} {e : Int} (hr : setH L o i x = (L', e)) :
 Calls Tryz.prog 49 #[ptr hp, o.val, .int .i64 i, x.val] w fun r w' => r = .returned (.int .i64 e) ∧ Ats w0 w' ((hp, L') :: M) K :=
 A.does fun h h1 h2 H => by subst h1 h2; have := set_any h o i x w H; rwa [hr] at this
theorem at_lock (A : Ats w0 w ((hp, L) :: M) K) (o : O) {L' : List C} {e : Int} (hr : lockH L o = (L', e)) :
 Calls Tryz.prog 29 #[ptr hp, o.val] w fun r w' => r = .returned (.int .i64 e) ∧ Ats w0 w' ((hp, L') :: M) K :=
 A.does fun h h1 h2 H => by subst h1 h2; have := lock_any h o w H; rwa [hr] at this
theorem at_get (A : Ats w0 w M K) (o : O) (i : Int) {o' : O} {e : Int} (hr : getH L o i = (o', e)) (hm : (hp, L) ∈ M := by first | exact List.mem_cons_self .. | exact List.mem_cons_of_mem _ (List.mem_cons_self ..) | assumption) :
 Calls Tryz.prog 105 #[ptr hp, o.val, .int .i64 i] w fun r w' => r = .returned (.tuple #[o'.val, .int .i64 e]) ∧ Ats w0 w' M K :=
 A.asks hm fun h h1 h2 H => by subst h1 h2; have := get_any h o i w H; rwa [hr] at this
theorem at_bytes (A : Ats w0 w M K) (o : O) {b : ByteArray} {e : Int} (hr : bytesH L o = (b, e)) (hm : (hp, L) ∈ M := by first | exact List.mem_cons_self .. | exact List.mem_cons_of_mem _ (List.mem_cons_self ..) | assumption) :
 Calls Tryz.prog 118 #[ptr hp, o.val] w fun r w' => r = .returned (.tuple #[.string b, .int .i64 e]) ∧ Ats w0 w' M K :=
 A.asks hm fun h h1 h2 H => by subst h1 h2; have := bytes_any h o w H; rwa [hr] at this
theorem at_cells (A : Ats w0 w M K) (hm : (hp, L) ∈ M := by first | exact List.mem_cons_self .. | exact List.mem_cons_of_mem _ (List.mem_cons_self ..) | assumption) :
 Calls Tryz.prog 13 #[ptr hp] w fun r w' => r = .returned (.int .i64 (L.length : Nat)) ∧ w = w' := by
 obtain ⟨h, rfl, rfl, H⟩ := A.rep hm; exact cells_any h w H
theorem at_used (A : Ats w0 w M K) (hm : (hp, L) ∈ M := by first | exact List.mem_cons_self .. | exact List.mem_cons_of_mem _ (List.mem_cons_self ..) | assumption) :
 Calls Tryz.prog 20 #[ptr hp] w fun r w' => r = .returned (.int .i64 (used L : Nat)) ∧ w = w' := by
 obtain ⟨h, rfl, rfl, H⟩ := A.rep hm; exact used_any h w H
theorem at_items (A : Ats w0 w M K) (o : O) {l : List O} {e : Int} (hr : itemsH L o = (l, e)) (hl : 0 < l.length) (hm : (hp, L) ∈ M := by first | exact List.mem_cons_self .. | exact List.mem_cons_of_mem _ (List.mem_cons_self ..) | assumption) :
 Calls Tryz.prog 48 #[ptr hp, o.val] w fun r w' => ∃ g cap cur fz, r = .returned (.tuple #[.slice (some ⟨g, 0, none⟩) l.length cap, .int .i64 e]) ∧ l.length ≤ cap ∧ Ats w0 w' M ((g, .cells cur 39 fz) :: K) ∧
  ∀ i, i < l.length * 6 → cur[i]? = (l.flatMap O.cells)[i]? := by
 obtain ⟨h, rfl, rfl, H⟩ := A.rep hm; refine (items_any h o w H).mono ?_; rintro r w' ⟨v, rfl, X, own⟩; rw [hr] at own ⊢; obtain ⟨g, cap, cur, fz, rfl, hg, -, hcap, -, -, hc⟩ := (Row.of_owns (owns_base own (Nat.zero_le _))).some' hl; exact ⟨g, cap, cur, fz, rfl, hcap, A.got X hg (owns_ge own g (by simp [Value.ownBlock])).1, hc⟩
theorem at_copy (A : Ats w0 w M K) (hm : (hp, L) ∈ M := by first | exact List.mem_cons_self .. | exact List.mem_cons_of_mem _ (List.mem_cons_self ..) | assumption) :
 Calls Tryz.prog 23 #[ptr hp] w fun r w' => r = .returned (ptr w.heap.size) ∧ Ats w0 w' ((w.heap.size, L) :: M) K := by
 obtain ⟨h, rfl, rfl, H⟩ := A.rep hm; refine (copy_any h w H).mono ?_; rintro r w' ⟨rfl, h', e1, e2, H', X, F⟩; have := A.more h' H' X F; rw [e1, e2] at this; exact ⟨rfl, this⟩
theorem at_may (A : Ats w0 w M K) (o : O) {b : Bool} (hr : mayH L o = b) (hm : (hp, L) ∈ M) :
 Calls Tryz.prog 47 #[ptr hp, o.val] w fun r w' => r = .returned (.bool b) ∧ Ats w0 w' M K :=
 A.asks hm fun h h1 h2 H => by subst h1 h2; have := hmay_any h o w H; rwa [hr] at this
theorem Ats.drew (A : Ats w0 w M K) : Ats w0 w.drew M K := A.pure (Chg.refl NoB w).drew
theorem Ats.cellsOf {g : Nat} {cs : Array Value} {fz : Nat × Nat} (h : (g, Obj.cells cs T fz) ∈ K) : ∀ W, Ats w0 W M K → ∀ i, W.cell? ⟨g, i, none⟩ = cs[i]? :=
 fun _W A i => cells_of (A.box _ h) i
theorem at_hnew (A : Ats w0 w M K) :
 Calls Tryz.prog 5 #[] w fun e w' => ∃ hp, e = .returned (ptr hp) ∧ Ats w0 w' ((hp, []) :: M) K :=
 (new_any w).mono fun _e _w' ⟨h1, h2⟩ => ⟨_, h1, h2 ▸ A.new⟩
theorem Ats.renewG {b' : Nat} {o o' : Obj} (A : Ats w0 w M ((b, o) :: K)) (X : Chg (· = b) w w') (hb : w'.heap[b']? = some o') (hg : b' = b ∨ w.heap.size ≤ b') : Ats w0 w' M ((b', o') :: K) := by
 obtain ⟨h, h1, H, X0, D, F, k, n⟩ := A; obtain ⟨kb, kn, kg⟩ := k _ (List.mem_cons_self ..); simp only at kb kn kg; have lt := reps_lt H; have lk : ∀ q ∈ K, q.1 < w.heap.size := fun q hq => blk_lt (k q (List.mem_cons_of_mem _ hq)).1; rw [List.map_cons, List.nodup_cons] at n; refine ⟨h, h1, fun x hx => (H x hx).chg X fun c hc e => kn (List.mem_flatMap.2 ⟨x, hx, e ▸ hc⟩), X0.trans' X (fun i hi e => by omega), D, F, fun q hq => ?_, ?_⟩
 · rcases List.mem_cons.1 hq with rfl | hq
   · refine ⟨hb, fun hf => ?_, ?_⟩
     · rcases hg with rfl | hg
       · exact kn hf
       · have := lt _ hf; simp only at this; omega
     · rcases hg with rfl | hg
       · exact kg
       · exact Nat.le_trans X0.size hg
   · refine ⟨X.blk (k q (List.mem_cons_of_mem _ hq)).1 fun e => n.1 (List.mem_map.2 ⟨q, hq, e⟩), (k q (List.mem_cons_of_mem _ hq)).2⟩
 · rw [List.map_cons, List.nodup_cons]; refine ⟨fun hm => ?_, n.2⟩; obtain ⟨q, hq, e⟩ := List.mem_map.1 hm
   rcases hg with rfl | hg
   · exact n.1 (List.mem_map.2 ⟨q, hq, e⟩)
   · have := lk q hq; simp only at e; omega
def RowG (T : TypeId) (sz : Nat) (R : List (Nat × Obj)) (v : Value) (n : Nat) (xs : List Value) : Prop :=
 (v = .slice none 0 0 ∧ n = 0 ∧ xs = [] ∧ R = []) ∨
 ∃ g cap cur, v = .slice (some ⟨g, 0, none⟩) n cap ∧ R = [(g, .cells cur T)] ∧ n ≤ cap ∧ cap ≤ maxLen ∧ cur.size = cap * sz ∧ cur.toList.take (n * sz) = xs ∧ xs.length = n * sz
theorem Ats.ownsG (A : Ats w0 w M (R ++ K)) (h : RowG T sz R v n xs) : w.ownsRow w0.heap.size T sz v n xs := by
 rcases h with ⟨rfl, rfl, rfl, rfl⟩ | ⟨g, cap, cur, rfl, rfl, h1, h2, h3, h4, h5⟩
 · exact World.ownsRow_nil _ _ _ _
 · exact ⟨h5, .inr ⟨g, cap, cur, rfl, A.box_ge (g, .cells cur T) (List.mem_cons_self ..), A.box (g, .cells cur T) (List.mem_cons_self ..), h1, h2, h3, h4⟩⟩
theorem Ats.grownG {v' : Value} {m : Nat} {xs' : List Value} (A : Ats w0 w M (R ++ K)) (h : RowG T sz R v n xs)
 (hown : w'.ownsRow w0.heap.size T sz v' (n + m) xs') (hgr : w.grownBy w' v.ownBlock) (hob : v'.ownBlock = v.ownBlock ∨ v'.ownBlock = some w.heap.size) (hm : 0 < m) :
 ∃ R', RowG T sz R' v' (n + m) xs' ∧ Ats w0 w' M (R' ++ K) := by
 obtain ⟨hl, ⟨rfl, h0⟩ | ⟨g', cap', cur', rfl, hg0, hg', c1, c2, c3, c4⟩⟩ := hown
 · omega
 refine ⟨[(g', .cells cur' T)], .inr ⟨g', cap', cur', rfl, rfl, c1, c2, c3, c4, hl⟩, ?_⟩
 rcases h with ⟨rfl, rfl, rfl, rfl⟩ | ⟨g, cap, cur, rfl, rfl, -⟩
 · have C1 : Chg NoB w w' := Chg.grown (Chg.refl NoB w) hgr (fun k hk => by simp [Value.ownBlock] at hk); refine A.got C1 hg' ?_
   rcases hob with e | e
   · simp [Value.ownBlock] at e
   · simp [Value.ownBlock] at e; omega
 · have C1 : Chg (· = g) w w' := Chg.grown (Chg.refl (· = g) w) hgr (fun k hk => by simp [Value.ownBlock] at hk; exact .inl hk.symm); refine Ats.renewG A C1 hg' ?_
   rcases hob with e | e
   · simp [Value.ownBlock] at e; exact .inl e
   · simp [Value.ownBlock] at e; exact .inr (by omega)
theorem RowG.shape (h : RowG T sz R v n xs) (hn : 0 < n) :
 ∃ g cap cur, v = .slice (some ⟨g, 0, none⟩) n cap ∧ R = [(g, .cells cur T)] ∧ ∀ i, i < n * sz → cur[i]? = xs[i]? := by
 rcases h with ⟨-, h0, -⟩ | ⟨g, cap, cur, h1, h2, -, -, -, h3, -⟩
 · omega
 · exact ⟨g, cap, cur, h1, h2, fun i hi => by rw [← h3, List.getElem?_take_of_lt hi, Array.getElem?_toList]⟩
section
section
variable {P : Program} {ops : Array Oper} {Q : Exit → Act → World → Prop} {md : Region.Mode} {S : World → Prop} {late : List Nat}
def offL (late : List Nat) (listed : Array Bool) : Bool := late.any fun j => listed.getD j true
def wpAnyL (P : Program) (md : Region.Mode) (ops : Array Oper) (Q : Exit → Act → World → Prop) (S : World → Prop) (late : List Nat) : Nat → Array Bool → Act → World → Prop
 | 0, listed, a, w => Region.ready md ops listed = [] ∧ Q .normal a w
 | fuel + 1, listed, a, w =>
  (Region.ready md ops listed = [] → Q .normal a w) ∧
  ∀ i ∈ Region.ready md ops listed, wpOp P ops Q i (fun a' w' => (offL late (listed.setIfInBounds i true) = false → S w') ∧ wpAnyL P md ops Q S late fuel (listed.setIfInBounds i true) a' w') a w
theorem wpAny_of_late : ∀ (fuel : Nat) (listed : Array Bool) (a : Act) (w : World), wpAnyL P md ops Q S late fuel listed a w → wpAny P md ops Q fuel listed a w
 | 0, _, _, _, h => h
 | fuel + 1, _, _, _, h => ⟨h.1, fun i hi => wpOp_mono (fun a' w' h' => wpAny_of_late fuel _ a' w' h'.2) (h.2 i hi)⟩
def waitL (md : Region.Mode) (ops : Array Oper) (late : List Nat) (i : Nat) : Bool := late.all fun j => match ops[j]? with
 | some o => o.after.any fun e => Region.binds md e && e.on == i
 | none => false
theorem wait_not {oj : Oper} (h : waitL md ops late i = true) (hj : ops[j]? = some oj) (hl : j ∈ late) : ∃ e ∈ oj.after, Region.binds md e = true ∧ e.on = i := by
 have := List.all_eq_true.1 h j hl; rw [hj] at this; obtain ⟨e, he, h2⟩ := Array.any_eq_true'.1 this; rw [Bool.and_eq_true, beq_iff_eq] at h2; exact ⟨e, he, h2⟩
theorem off_set {listed : Array Bool} (h : offL late listed = false) (hj : j ∉ late) : offL late (listed.setIfInBounds j true) = false := by
 unfold offL at *; rw [List.any_eq_false] at *; intro k hk; have hjk : j ≠ k := fun e => hj (e ▸ hk); rw [getD_set_ne true hjk]; exact h k hk
theorem off_unset {listed : Array Bool} (h : offL late (listed.setIfInBounds j true) = false) : offL late listed = false := by
 unfold offL at *; rw [List.any_eq_false] at *; intro k hk; have := h k hk
 by_cases hjk : j = k
 · subst hjk; intro e
   rcases Nat.lt_or_ge j listed.size with hlt | hlt
   · simp [hlt] at this
   · simp at this
 · rw [getD_set_ne true hjk] at this; exact this
theorem wpAnyL_first {oi : Oper} (hi : ops[i]? = some oi) (hsel : ∀ (j : Nat) (o : Oper) cs b, ops[j]? = some o → o.op ≠ .select cs b) (hwt : waitL md ops late i = true) (hil : i ∉ late)
 (hQ : ∀ c a w, Q (.panic c) (a.put oi.dst v) w → Q (.panic c) a w) :
 ∀ (fuel : Nat) (listed : Array Bool) (a : Act) (w : World),
  (∀ j oj, ops[j]? = some oj → j ≠ i → listed.getD j true = false → (∀ e ∈ oj.after, Region.binds md e = true → e.on ≠ i) → oi.apart ops oj = true) →
  i ∈ Region.ready md ops listed → YieldsIf P ops S oi v a → S w → offL late listed = false →
  wpAnyL P md ops Q S late fuel (listed.setIfInBounds i true) (a.put oi.dst v) w → wpAnyL P md ops Q S late (fuel + 1) listed a w := by
 intro fuel
 induction fuel with
 | zero =>
  intro listed a w _ hr hy hS hoff H; refine ⟨fun h => (by rw [h] at hr; cases hr), fun j hj => ?_⟩
  by_cases hji : j = i
  · subst hji; exact hy.wpOp hi hS ⟨fun _ => hS, H⟩
  · have := ready_mono hj hji; rw [H.1] at this
    cases this
 | succ fuel ih =>
  intro listed a w hfree hr hy hS hoff H; refine ⟨fun h => (by rw [h] at hr; cases hr), fun j hj => ?_⟩
  by_cases hji : j = i
  · subst hji; exact hy.wpOp hi hS ⟨fun _ => hS, H⟩
  · have h1 := H.2 j (ready_mono hj hji); obtain ⟨hjun, oj, hoj, hall⟩ := mem_ready.1 hj
    have hnot : ∀ e ∈ oj.after, Region.binds md e = true → e.on ≠ i := fun e he hb heq => by
     have h1 := hall e he hb; have h0 := (mem_ready.1 hr).1; rw [heq] at h1
     rcases Nat.lt_or_ge i listed.size with h' | h'
     · simp [h'] at h0 h1; rw [h0] at h1; cases h1
     · simp [Array.getElem?_eq_none h'] at h1
    have hjl : j ∉ late := fun hl => by
     obtain ⟨e, he, hb, heq⟩ := wait_not hwt hoj hl; exact hnot e he hb heq
    have h2 := wpOp_putIf hoj (hfree j oj hoj hji hjun hnot) (fun cs b => hsel i oi cs b hi) (fun cs b => hsel j oj cs b hoj) hQ hy h1
    have hfree' : ∀ k ok, ops[k]? = some ok → k ≠ i → (listed.setIfInBounds j true).getD k true = false →
     (∀ e ∈ ok.after, Region.binds md e = true → e.on ≠ i) → oi.apart ops ok = true := fun k ok hk hki hun hno => by
     refine hfree k ok hk hki ?_ hno
     by_cases hjk : j = k
     · subst hjk; exact hjun
     · rw [getD_set_ne true hjk] at hun; exact hun
    have hoffj : offL late (listed.setIfInBounds j true) = false := off_set hoff hjl; have hoffij : offL late ((listed.setIfInBounds i true).setIfInBounds j true) = false := off_set (off_set hoff hil) hjl; refine wpOp_mono (fun a' w' h3 => ⟨fun _ => h3.2.1 hoffij, ih (listed.setIfInBounds j true) a' w' hfree' (ready_mono hr (Ne.symm hji)) h3.1 (h3.2.1 hoffij) hoffj ?_⟩) h2; rw [Array.setIfInBounds_comm _ _ hji]; exact h3.2.2
theorem wpAnyL_take {oi : Oper} {fuel : Nat} {listed : Array Bool} {a : Act} (hi : ops[i]? = some oi)
 (hs : Region.noSelect ops = true) (hwt : waitL md ops late i = true) (hil : late.contains i = false) (hoff : offL late listed = false) (hf : Region.free md ops listed i = true) (hr : (Region.ready md ops listed).contains i = true)
 (hQ : ∀ c a w, Q (.panic c) (a.put oi.dst v) w → Q (.panic c) a w) (hy : YieldsIf P ops S oi v a) (hS : S w)
 (h : wpAnyL P md ops Q S late fuel (listed.setIfInBounds i true) (a.put oi.dst v) w) : wpAnyL P md ops Q S late (fuel + 1) listed a w :=
 wpAnyL_first hi (Region.noSelect_spec hs) hwt (fun hm => by rw [List.contains_iff_mem.2 hm] at hil; exact absurd hil (by decide)) hQ fuel listed a w (Region.free_spec hi hf) (by simpa using hr) hy hS hoff h
theorem wpAnyL_firstP {oi : Oper} (hi : ops[i]? = some oi) (hsel : ∀ (j : Nat) (o : Oper) cs b, ops[j]? = some o → o.op ≠ .select cs b) (hil : i ∉ late)
 (hQ : ∀ c a w, Q (.panic c) (a.put oi.dst v) w → Q (.panic c) a w) :
 ∀ (fuel : Nat) (listed : Array Bool) (a : Act) (w : World),
  (∀ j oj, ops[j]? = some oj → j ≠ i → listed.getD j true = false → (∀ e ∈ oj.after, Region.binds md e = true → e.on ≠ i) → oi.apart ops oj = true) →
  i ∈ Region.ready md ops listed → YieldsIf P ops (fun _ => True) oi v a → (offL late listed = false → S w) →
  wpAnyL P md ops Q S late fuel (listed.setIfInBounds i true) (a.put oi.dst v) w → wpAnyL P md ops Q S late (fuel + 1) listed a w := by
 intro fuel
 induction fuel with
 | zero =>
  intro listed a w _ hr hy hS H; refine ⟨fun h => (by rw [h] at hr; cases hr), fun j hj => ?_⟩
  by_cases hji : j = i
  · subst hji; exact hy.wpOp hi trivial ⟨fun h => hS (off_unset h), H⟩
  · have := ready_mono hj hji; rw [H.1] at this
    cases this
 | succ fuel ih =>
  intro listed a w hfree hr hy hS H; refine ⟨fun h => (by rw [h] at hr; cases hr), fun j hj => ?_⟩
  by_cases hji : j = i
  · subst hji; exact hy.wpOp hi trivial ⟨fun h => hS (off_unset h), H⟩
  · have h1 := H.2 j (ready_mono hj hji); obtain ⟨hjun, oj, hoj, hall⟩ := mem_ready.1 hj
    have hnot : ∀ e ∈ oj.after, Region.binds md e = true → e.on ≠ i := fun e he hb heq => by
     have h1 := hall e he hb; have h0 := (mem_ready.1 hr).1; rw [heq] at h1
     rcases Nat.lt_or_ge i listed.size with h' | h'
     · simp [h'] at h0 h1; rw [h0] at h1; cases h1
     · simp [Array.getElem?_eq_none h'] at h1
    have h2 := wpOp_putIf hoj (hfree j oj hoj hji hjun hnot) (fun cs b => hsel i oi cs b hi) (fun cs b => hsel j oj cs b hoj) hQ hy h1
    have hfree' : ∀ k ok, ops[k]? = some ok → k ≠ i → (listed.setIfInBounds j true).getD k true = false →
     (∀ e ∈ ok.after, Region.binds md e = true → e.on ≠ i) → oi.apart ops ok = true := fun k ok hk hki hun hno => by
     refine hfree k ok hk hki ?_ hno
     by_cases hjk : j = k
     · subst hjk; exact hjun
     · rw [getD_set_ne true hjk] at hun; exact hun
    have hSj : ∀ w', (offL late ((listed.setIfInBounds i true).setIfInBounds j true) = false → S w') → (offL late (listed.setIfInBounds j true) = false → S w') := fun w' h h' => h (by
     rw [Array.setIfInBounds_comm _ _ (Ne.symm hji)]
     exact off_set h' hil)
    refine wpOp_mono (fun a' w' h3 => ⟨hSj w' h3.2.1, ih (listed.setIfInBounds j true) a' w' hfree' (ready_mono hr (Ne.symm hji)) h3.1 (hSj w' h3.2.1) ?_⟩) h2; rw [Array.setIfInBounds_comm _ _ hji]; exact h3.2.2
theorem wpAnyL_pure {oi : Oper} {fuel : Nat} {listed : Array Bool} {a : Act} (hi : ops[i]? = some oi)
 (hs : Region.noSelect ops = true) (hil : late.contains i = false) (hf : Region.free md ops listed i = true) (hr : (Region.ready md ops listed).contains i = true)
 (hQ : ∀ c a w, Q (.panic c) (a.put oi.dst v) w → Q (.panic c) a w) (hy : YieldsIf P ops (fun _ => True) oi v a) (hS : S w)
 (h : wpAnyL P md ops Q S late fuel (listed.setIfInBounds i true) (a.put oi.dst v) w) : wpAnyL P md ops Q S late (fuel + 1) listed a w :=
 wpAnyL_firstP hi (Region.noSelect_spec hs) (fun hm => by rw [List.contains_iff_mem.2 hm] at hil; exact absurd hil (by decide)) hQ fuel listed a w (Region.free_spec hi hf) (by simpa using hr) hy (fun _ => hS) h
def AllReadyL (P : Program) (md : Region.Mode) (ops : Array Oper) (Q : Exit → Act → World → Prop) (S : World → Prop) (late : List Nat) (fuel : Nat) (listed : Array Bool) (a : Act) (w : World) (rs : List Nat) : Prop :=
 ∀ i ∈ rs, wpOp P ops Q i (fun a' w' => (offL late (listed.setIfInBounds i true) = false → S w') ∧ wpAnyL P md ops Q S late fuel (listed.setIfInBounds i true) a' w') a w
theorem AllReadyL.nil {fuel : Nat} {listed : Array Bool} {a : Act} : AllReadyL P md ops Q S late fuel listed a w [] := fun _ h => by cases h
theorem AllReadyL.cons {fuel : Nat} {listed : Array Bool} {a : Act} {o : Oper} {rs : List Nat} (ho : ops[i]? = some o)
 (h : ∀ K' : Act → World → Prop, Shut (∀ a w, S w → (S w → wpAnyL P md ops Q S late fuel (listed.setIfInBounds i true) a w) → K' a w) → if Region.wanted o (yielded ops a.tmps) = true then Oper.wp P o a w K' Q else K' (a.put o.dst undef) w)
 (hs : AllReadyL P md ops Q S late fuel listed a w rs) : AllReadyL P md ops Q S late fuel listed a w (i :: rs) := fun j hj => by
 rcases List.mem_cons.1 hj with rfl | hj
 · exact wpOp_step ho (fun K' hK => h K' (fun a w hS hW => hK a w ⟨fun _ => hS, hW hS⟩))
 · exact hs j hj
theorem AllReadyL.behind {fuel : Nat} {listed : Array Bool} {a : Act} {o : Oper} {rs : List Nat} (ho : ops[i]? = some o) (hoff : offL late (listed.setIfInBounds i true) = true)
 (h : ∀ K' : Act → World → Prop, Shut (∀ a w, wpAnyL P md ops Q S late fuel (listed.setIfInBounds i true) a w → K' a w) → if Region.wanted o (yielded ops a.tmps) = true then Oper.wp P o a w K' Q else K' (a.put o.dst undef) w)
 (hs : AllReadyL P md ops Q S late fuel listed a w rs) : AllReadyL P md ops Q S late fuel listed a w (i :: rs) := fun j hj => by
 rcases List.mem_cons.1 hj with rfl | hj
 · exact wpOp_step ho (fun K' hK => h K' (fun a w hW => hK a w ⟨fun h0 => absurd (hoff.symm.trans h0) (by decide), hW⟩))
 · exact hs j hj
theorem wpAnyL_ready {rs : List Nat} {fuel : Nat} {listed : Array Bool} {a : Act} (hr : Region.ready md ops listed = rs) (hne : rs ≠ [])
 (h : AllReadyL P md ops Q S late fuel listed a w rs) : wpAnyL P md ops Q S late (fuel + 1) listed a w :=
 ⟨fun h0 => absurd (hr ▸ h0) hne, hr ▸ h⟩
theorem wpAnyL_done {listed : Array Bool} {a : Act} (hr : Region.ready md ops listed = []) (h : Q .normal a w) : ∀ fuel, wpAnyL P md ops Q S late fuel listed a w
 | 0 => ⟨hr, h⟩
 | _ + 1 => ⟨fun _ => h, by rw [hr]; simp⟩
theorem wp_region_late {id : Nat} {a : Act} (hm : P.follows .mixedOrders = true) (hS : S w.drew)
 (h : S w.drew → wpAnyL P .any ops Q S late ops.size (Array.replicate ops.size false) a w.drew) : (Code.region id ops true).wp P Q a w :=
 wp_region_any hm (wpAny_of_late _ _ _ _ (h hS))
end
end
theorem Ats.putO {c0 c1 c2 c3 c4 c5 : Value} (A : Ats w0 w M ((b, .cells #[c0, c1, c2, c3, c4, c5] T) :: K)) (kk : Int) (kx : Bool) (kn kp kl : Int) (ks : ByteArray) :
 Ats w0 ((((((w.setCell ⟨b, 0, none⟩ (.int .i64 kk)).setCell ⟨b, 1, none⟩ (.bool kx)).setCell ⟨b, 2, none⟩ (.int .i64 kn)).setCell ⟨b, 3, none⟩ (.int .i64 kp)).setCell ⟨b, 4, none⟩ (.int .i64 kl)).setCell ⟨b, 5, none⟩ (.string ks)) M ((b, .cells #[.int .i64 kk, .bool kx, .int .i64 kn, .int .i64 kp, .int .i64 kl, .string ks] T) :: K) := by
 have := (((((A.put 0 (.int .i64 kk)).put 1 (.bool kx)).put 2 (.int .i64 kn)).put 3 (.int .i64 kp)).put 4 (.int .i64 kl)).put 5 (.string ks)
 simpa only [List.setIfInBounds_toArray, List.set_cons_zero, List.set_cons_succ] using this
theorem rowG_slice (h : RowG T sz R v n xs) : ∃ a c, v = .slice a n c ∧ n ≤ c := by
 rcases h with ⟨rfl, h0, -⟩ | ⟨g, cap, cur, rfl, -, h1, -⟩
 · exact ⟨none, 0, by rw [h0], by omega⟩
 · exact ⟨_, _, rfl, h1⟩
def RowOf (w : World) (v : Value) (n : Nat) (xs : List O) : Prop :=
 ∃ a c, v = .slice a n c ∧ n ≤ c ∧ (0 < n → ∃ g cur fz, a = some ⟨g, 0, none⟩ ∧ w.heap[g]? = some (.cells cur 39 fz) ∧ ∀ m o, xs[m]? = some o → ∀ j, j < 6 → cur[m * 6 + j]? = o.cells[j]?)
set_option maxRecDepth 100000 in
theorem same_rows (w : World) (va vb : Value) (n : Nat) (xs : List O) (hn : xs.length = n) (hn9 : n ≤ 100000) (ha : RowOf w va n xs) (hb : RowOf w vb n xs) :
 Calls Tryz.prog 12 #[va, vb] w fun e w' => e = .returned (.bool true) ∧ Chg NoB w w' := by
 obtain ⟨a, c, rfl, hac, hra⟩ := ha; obtain ⟨b, d, rfl, hbd, hrb⟩ := hb; have HRA := hid' hra; have HRB := hid' hrb; have HN := hid' hn; clear hra hrb hn; go_enter Tryz.func12, Tryz.ntmps12
 go_wp2_with fail
 go_loopw [5] (fun cv wr => ∃ k : Nat, k ≤ n ∧ cv = .int .i64 k ∧ Chg NoB w wr) (fun cv _ => n - (intOf cv).toNat)
 case atStart => exact ⟨0, Nat.zero_le _, rfl, Chg.refl _ _⟩
 case round =>
  obtain ⟨k, hk, rfl, X⟩ := hrel
  by_cases hlt : k < n
  · obtain ⟨g, cur, fz, rfl, hg, hc⟩ := HRA.out (by omega); obtain ⟨g', cur', fz', rfl, hg', hc'⟩ := HRB.out (by omega)
    have hkl : k < xs.length := by rw [HN.out]; exact hlt
    have ho : xs[k]? = some xs[k] := List.getElem?_eq_getElem hkl; have Q := hc k _ ho; have Q' := hc' k _ ho; have R1 := cells_of (X.blk hg id); have R2 := cells_of (X.blk hg' id); have l1 := blk_lt (X.blk hg id); have l2 := blk_lt (X.blk hg' id); generalize xs[k] = o at *; have qe : eqO o o = true := eqO_self _; obtain ⟨kk, kx, kn, kp, kl, ks⟩ := o; have q0 := Q 0 (by decide); have q1 := Q 1 (by decide); have q2 := Q 2 (by decide); have q3 := Q 3 (by decide); have q4 := Q 4 (by decide); have q5 := Q 5 (by decide); have p0 := Q' 0 (by decide); have p1 := Q' 1 (by decide); have p2 := Q' 2 (by decide); have p3 := Q' 3 (by decide); have p4 := Q' 4 (by decide); have p5 := Q' 5 (by decide); simp only [O.cells, List.getElem?_cons_zero, List.getElem?_cons_succ, Nat.add_zero] at q0 q1 q2 q3 q4 q5 p0 p1 p2 p3 p4 p5; have vk := IntWalk.i64_in ((k : Int) + 1) (by omega)
    have dl : (k : Int) < n := by omega
    have dc : (n : Int) ≤ c := by omega
    have dd : (n : Int) ≤ d := by omega
    clear Q Q' hc hc' ho hg hg'; go_wp2_with fail
    go_quiet (fail)
    go_wp2_with fail
    go_roundw
    case rel => exact ⟨k + 1, by omega, by go_num, X.drewN _⟩
    case measure => simp [intOf]; omega
  · obtain rfl : k = n := by omega
    go_wp2_with fail
    go_ret; exact ⟨rfl, X⟩
theorem add_fits (L : List C) (c : C) (h1 : L.length < 2000) (h2 : used L + c.size ≤ 40000) : makeH L c = (L ++ [c], objOf L c, 0) := by
 have : addE L c = 0 := by unfold addE; rw [if_neg (by omega)]
 simp only [makeH, this, ne_eq, not_true_eq_false, if_false]
abbrev arr (k : Nat) : C := ⟨false, false, false, List.replicate k nullO, []⟩
theorem row_item {cur : Array Value} {l : List O} (hc : ∀ i, i < l.length * 6 → cur[i]? = (l.flatMap O.cells)[i]?) {j : Nat} {o : O} (h : l[j]? = some o) :
 cur[j * 6]? = some (.int .i64 o.kind) ∧ cur[j * 6 + 1]? = some (.bool o.exec) ∧ cur[j * 6 + 2]? = some (.int .i64 o.n) ∧ cur[j * 6 + 3]? = some (.int .i64 o.pos) ∧ cur[j * 6 + 4]? = some (.int .i64 o.len) ∧ cur[j * 6 + 5]? = some (.string o.s) := by
 have hj : j < l.length := (List.getElem?_eq_some_iff.1 h).1
 have g : ∀ t, t < 6 → cur[j * 6 + t]? = o.cells[t]? := fun t ht => by
  rw [hc _ (by omega), flat_get O.cells 6 cells_length t ht, h]; rfl
 exact ⟨g 0 (by decide), g 1 (by decide), g 2 (by decide), g 3 (by decide), g 4 (by decide), g 5 (by decide)⟩
abbrev txt (l : List UInt8) : C := ⟨true, false, false, [], l⟩
theorem txt_size (l : List UInt8) : (txt l).size = l.length := by simp [C.size]
theorem size_toList (s : ByteArray) : s.toList.length = s.size := by rw [ByteArray.toList_eq]; rfl
theorem ofList (s : ByteArray) : (⟨s.toList.toArray⟩ : ByteArray) = s := by rw [ByteArray.toList_eq]
end Go.Proofs.YtoogmimbmgdflaaGreat
