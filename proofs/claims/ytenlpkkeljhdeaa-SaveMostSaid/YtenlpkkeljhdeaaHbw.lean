/- Walk: Become, Copy. -/
import Derived.Test.YtenlpkkeljhdeaaHbec
namespace Go.Proofs.Ytenlpkkeljhdeaa
open Go.RowKit

theorem Try.infoByte : (Try.prog.info? 5).map (fun i => (i.zero, i.size, i.bytes)) = some (some (.int .u8 0), 1, 1) := by kernel_rfl
theorem vu8_one (l : List UInt8) : ∀ u ∈ l.map vu8, u.oneCell' = true := by
  intro u hu
  obtain ⟨b, _, rfl⟩ := List.mem_map.1 hu
  rfl
theorem cells_newS (w : World) (a : Addr) (v : Value) (cs : List Value) (t : TypeId) : ∀ j u, cs[j]? = some u → ((w.setCell a v).alloc (.cells cs.toArray t)).cell? ((⟨w.heap.size, 0, none⟩ : Addr).add j) = some u := by
  have := cells_new (w.setCell a v) cs t
  rw [World.size_setCell] at this
  exact this
theorem cells_new2 (w : World) (o o' : Obj) (cs : List Value) (t : TypeId) : ∀ j u, cs[j]? = some u → (((w.alloc o).alloc o').alloc (.cells cs.toArray t)).cell? ((⟨w.heap.size + 1 + 1, 0, none⟩ : Addr).add j) = some u := by
  have := cells_new ((w.alloc o).alloc o') cs t
  simpa using this
theorem Row.of_nil {w w' : World} {T : TypeId} {size n : Nat} {xs : List Value} (h : Row w T size (.slice none 0 0) n xs) : Row w' T size (.slice none 0 0) n xs := by
  refine ⟨h.1, ?_⟩
  rcases h.2 with h | ⟨g, cap, cur, fz, e, _⟩
  · exact .inl h
  · simp at e
/-- What a slice's source holds, at every world to come. -/
theorem Row.src {w1 : World} {T : TypeId} {size : Nat} {v : Value} {n : Nat} {xs : List Value} (h : Row w1 T size v n xs) :
    (v = .slice none 0 0 ∧ n = 0) ∨ ∃ ad cap, v = .slice (some ad) n cap ∧ ∀ W, Chg NoB w1 W → ∀ j u, xs[j]? = some u → W.cell? (ad.add j) = some u := by
  rcases h.2 with ⟨rfl, hn⟩ | ⟨g, cap, cur, fz, rfl, hcur, hfz, hnc, hcm, hcs, htk⟩
  · exact .inl ⟨rfl, hn⟩
  · refine .inr ⟨_, _, rfl, fun W hW j u hj => ?_⟩
    have hlt : j < n * size := by rw [← h.1]; exact (List.getElem?_eq_some_iff.1 hj).1
    rw [add_one, cells_of (hW.blk hcur id), ← Array.getElem?_toList]
    have : cur.toList[j]? = (cur.toList.take (n * size))[j]? := by rw [List.getElem?_take, if_pos hlt]
    rw [this, htk]; exact hj

set_option maxRecDepth 100000 in
set_option maxHeartbeats 4000000 in
theorem become_any (hp : Nat) (g : HS) (w : World) (H : HeapRep w g) (x0 x1 : Value) (hh : w.heap[hp]? = some (.cells #[x0, x1] 71 (0, 0))) (hhg : hp ∉ g.foot) :
   Calls Try.prog 30 #[ptr hp, ptr g.hp] w fun e w' => e = .returned (.tuple #[]) ∧
     ∃ h' : HS, h'.hp = hp ∧ h'.l = g.l ∧ HeapRep w' h' ∧ HeapRep w' g ∧ Chg (· = hp) w w' ∧ ∀ b ∈ h'.foot, b = hp ∨ w.heap.size ≤ b := by
  obtain ⟨gp, slv, L⟩ := g
  obtain ⟨sa, cap, rfl, -⟩ := H.shape
  have hgl := blk_lt H.head
  have hhl := blk_lt hh
  have hm := H.most
  simp only at hm
  have R0 := cells_of H.head
  go_enter Try.func30, Try.ntmps30
  go_wp2
  go_loopw [4, 20] (fun v i wr => ∃ k : Nat, k ≤ L.length ∧ i = .int .i64 k ∧ BecInv w (L.map PC.c) k v wr) (fun _ i _ => L.length - (intOf i).toNat)
  case atStart => exact ⟨0, Nat.zero_le _, rfl, BecInv.start _ _⟩
  case round =>
    obtain ⟨k, hk, rfl, hB⟩ := hrel
    obtain ⟨M, m1, m2, m3, m4, m5, m6, X⟩ := hB
    have G1 := H.pure X
    clear R0
    by_cases hlt : k < L.length
    · obtain ⟨gb, cap', cur, fz, u, v', hsl, hcur, hu, hv, huv, hgb⟩ := G1.at' hlt
      simp only [Value.slice.injEq] at hsl
      obtain ⟨rfl, -, rfl⟩ := hsl
      have hok := G1.cell _ (List.getElem_mem hlt)
      have hGk : (L.map PC.c)[k]? = some L[k].c := by simp [hlt]
      have hkG : k < (L.map PC.c).length := by simpa using hlt
      have hGk' : L[k].c = (L.map PC.c)[k] := by simp
      have ST := Hid.mk' (fun (w' : World) (v' : Value) (x : PC) => BecInv.step (w' := w') (v' := v') (x := x) m1 m2 hkG m3 m4 m5 m6 X)
      have HG := Hid.mk' hGk'
      have hvl := owns_ge m3
      have hsm := cell_small G1 (List.getElem_mem hlt)
      have HM := Hid.mk' m3
      have wsz := X.size
      clear hGk hGk' m1 m3 m4 m5 m6
      have HU := Hid.mk' huv
      clear huv
      generalize hxe : L[k] = x at *
      clear hxe
      have Rg := Chg.cells (S := NoB) hcur id
      have lg := blk_lt hcur
      have X := Chg.refl NoB wr
      by_cases ht : x.c.text = true
      · have hp2 := HU.out
        simp only [PC.ptrs, ht, if_true, List.cons.injEq, Value.pointer.injEq] at hp2
        obtain ⟨rfl, rfl, -⟩ := hp2
        have hhd := hok.head.1 ht
        have hrow := hok.textRow ht
        have Rx := Chg.cells (S := NoB) hhd id
        have lx := blk_lt hhd
        have hsm2 : x.c.bytes.length ≤ 40000 := by simpa [C.size, ht] using hsm
        rcases hrow.src with ⟨hsl, hn0⟩ | ⟨ad, c1, hsl, hsrc⟩
        · rw [hsl] at hhd Rx
          have HSL := Hid.mk' hsl
          have HN0 := Hid.mk' hn0
          clear hsl hn0
          obtain ⟨i5, hi5, hz50, hz51, hz52⟩ := info_parts Try.infoByte
          obtain ⟨i0, hi, hz0, hz1, hz2⟩ := info_parts Try.infoCell
          go_wp2_with (first
            | (at_builtin; refine wpList_append_own_none rfl (.const (.slice none 0 0)) (.tmp 32) 50 rfl wr.heap.size 5 i5 1 Try.underBytes hi5 (.slice none 0 0) 0 [] rfl (World.ownsRow_nil _ _ _ _) rfl ?_)
            | (at_builtin; refine wpList_append_own_at _ rfl (.tmp 35) (.tmp 37) 69 rfl w.heap.size 87 i0 (.agg #[.pointer none, .pointer none]) 2 16 Try.underCells hi hz0 hz1 hz2 rfl (by decide) u4 k (M.flatMap PC.ptrs) rfl (owns_chgB HM.out (((X.alloc _).alloc _).alloc _) (fun _ _ e => e)) _ 1 1 [.pointer none, ptr (wr.heap.size + 1)] rfl rfl (fun j u hj => cells_new2 _ _ _ [.pointer none, ptr (wr.heap.size + 1)] 87 j u hj) (one2 _ _) ?_ ?_ ?_ ?_; (unfold maxLen; omega); omega; (simp <;> omega); intro v5 w5 hown5 hgr5 _ hob5))
          have C5a : Chg (· ∈ u4.ownBlock.toList) (((wr.alloc (.cells #[.pointer none, ptr x.p] 87)).alloc (.cells #[.bool x.c.locked, .slice none 0 0] 93)).alloc (.cells #[.pointer none, ptr (wr.heap.size + 1)] 87)) w5 := Chg.grown (Chg.refl _ _) hgr5 (fun n hn => .inl (by simp [hn]))
          have C5 : Chg (· ∈ u4.ownBlock.toList) wr w5 := ((((Chg.refl _ wr).alloc _).alloc _).alloc _).trans C5a
          have hq5 := C5a.blk (blk_alloc (blk_new1 wr _ _) _) (fun hb => by have := (hvl _ hb).2; omega)
          have HX : PC.ok w5 ⟨wr.heap.size + 1, .slice none 0 0, x.c⟩ := by
            unfold PC.ok
            simp only [ht, if_true]
            have hok2 := hok
            unfold PC.ok at hok2
            simp only [ht, if_true] at hok2
            refine ⟨hq5, ?_, hok2.2.2⟩
            have hr := hok2.2.1
            rw [HSL.out] at hr
            exact hr.of_nil
          go_roundw
          case rel =>
            refine ⟨k + 1, by omega, by go_num, ST.out w5 v5 ⟨wr.heap.size + 1, .slice none 0 0, x.c⟩ C5 HX HG.out ?_ ?_ ?_ ?_⟩
            · intro b hb
              simp only [PC.foot, Value.ownBlock, Option.toList, List.mem_cons, List.not_mem_nil, or_false] at hb
              omega
            · simp [PC.foot, Value.ownBlock]
            · have e : PC.ptrs ⟨wr.heap.size + 1, .slice none 0 0, x.c⟩ = [.pointer none, ptr (wr.heap.size + 1)] := by simp [PC.ptrs, ht]
              rw [e]; exact hown5
            · rcases hob5 with h | h
              · exact .inl h
              · refine .inr ⟨_, h, by simp; omega, fun hb => ?_⟩
                simp only [PC.foot, Value.ownBlock, Option.toList, List.mem_cons, List.not_mem_nil, or_false, World.size_alloc] at hb
                omega
          case measure => simp [intOf]; omega
        · rw [hsl] at hhd Rx
          have HS1 := Hid.mk' hsrc
          clear hsrc hsl
          obtain ⟨i5, hi5, hz50, hz51, hz52⟩ := info_parts Try.infoByte
          obtain ⟨i0, hi, hz0, hz1, hz2⟩ := info_parts Try.infoCell
          go_wp2_with (first
            | (at_builtin; refine wpList_append_own_at _ rfl (.const (.slice none 0 0)) (.tmp 32) 50 rfl wr.heap.size 5 i5 (.int .u8 0) 1 1 Try.underBytes hi5 hz50 hz51 hz52 rfl (by decide) (.slice none 0 0) 0 [] rfl (World.ownsRow_nil _ _ _ _) ad x.c.bytes.length c1 (x.c.bytes.map vu8) rfl (by simp) (fun j u hj => HS1.out _ ((X.alloc _).alloc _) j u hj) (vu8_one _) ?_ ?_ ?_ ?_; (unfold maxLen; omega); omega; (simp; omega); intro v2 w3 hown2 hgr2 _ hob2; have C3 : Chg NoB wr w3 := Chg.grown ((X.alloc _).alloc _) hgr2 (fun k hk => by simp [Value.ownBlock] at hk); have hq7 := (Chg.grown (Chg.refl NoB _) hgr2 (fun k hk => by simp [Value.ownBlock] at hk)).blk (blk_new1 wr _ _) id; obtain ⟨a2, cap2, rfl, _⟩ := (Row.of_owns (owns_base hown2 (Nat.zero_le _))).shape; have R7 := cells_of hq7; have Z7 := free_of hq7; have l7 := blk_lt hq7; have HW2 := Hid.mk' hown2; have HB2 := Hid.mk' hob2; clear hown2 hob2)
            | (at_builtin; refine wpList_append_own_at _ rfl (.tmp 35) (.tmp 37) 69 rfl w.heap.size 87 i0 (.agg #[.pointer none, .pointer none]) 2 16 Try.underCells hi hz0 hz1 hz2 rfl (by decide) u4 k (M.flatMap PC.ptrs) rfl (owns_chgB HM.out (Chg.alloc (Chg.setCell C3 (.inr (Nat.le_add_right _ _)) _) _) (fun _ _ e => e)) _ 1 1 [.pointer none, ptr (wr.heap.size + 1)] rfl rfl (fun j u hj => cells_newS _ _ _ [.pointer none, ptr (wr.heap.size + 1)] 87 j u hj) (one2 _ _) ?_ ?_ ?_ ?_; (unfold maxLen; omega); omega; (simp <;> omega); intro v5 w5 hown5 hgr5 _ hob5))
          have hown2 := HW2.out
          simp only [Nat.zero_add, List.nil_append] at hown2
          have hv2b : ∀ b ∈ (Value.slice a2 x.c.bytes.length cap2).ownBlock.toList, b = wr.heap.size + 1 + 1 := fun b hb => by
            have := HB2.out
            simp only [Nat.zero_add] at this
            rcases this with this | this
            · rw [this] at hb; simp [Value.ownBlock] at hb
            · rw [this] at hb; simp at hb; omega
          have C5a : Chg (· ∈ u4.ownBlock.toList) ((w3.setCell ⟨wr.heap.size + 1, 1, none⟩ (.slice a2 x.c.bytes.length cap2)).alloc (.cells #[.pointer none, ptr (wr.heap.size + 1)] 87)) w5 := Chg.grown (Chg.refl _ _) hgr5 (fun n hn => .inl (by simp [hn]))
          have C5 : Chg (· ∈ u4.ownBlock.toList) wr w5 := (((C3.mono (fun _ _ e => e.elim)).setCell (p := ⟨wr.heap.size + 1, 1, none⟩) (.inr (Nat.le_add_right _ _)) _).alloc _).trans C5a
          have hq5 := C5a.blk (blk_alloc (blk_set hq7 1 (.slice a2 x.c.bytes.length cap2)) _) (fun hb => by have := (hvl _ hb).2; omega)
          simp only [List.setIfInBounds_toArray, List.set_cons_zero, List.set_cons_succ] at hq5
          have hrow5 := (Row.of_owns (owns_base hown2 (Nat.zero_le _))).chg ((Chg.refl (fun b => b = wr.heap.size + 1) w3).one (p := ⟨wr.heap.size + 1, 1, none⟩) rfl (.slice a2 x.c.bytes.length cap2)) (fun b hb e => by have := hv2b b hb; omega)
          have hrow6 := (hrow5.chg ((Chg.refl NoB _).alloc (.cells #[.pointer none, ptr (wr.heap.size + 1)] 87)) (fun _ _ e => e)).chg C5a (fun b hb e => by have := hv2b b hb; have := (hvl _ e).2; omega)
          have hsz5 := C3.size
          have HX : PC.ok w5 ⟨wr.heap.size + 1, .slice a2 x.c.bytes.length cap2, x.c⟩ := by
            unfold PC.ok
            simp only [ht, if_true]
            have hok2 := hok
            unfold PC.ok at hok2
            simp only [ht, if_true] at hok2
            exact ⟨hq5, hrow6, hok2.2.2⟩
          go_roundw
          case rel =>
            refine ⟨k + 1, by omega, by go_num, ST.out w5 v5 ⟨wr.heap.size + 1, .slice a2 x.c.bytes.length cap2, x.c⟩ C5 HX HG.out ?_ ?_ ?_ ?_⟩
            · intro b hb
              simp only [PC.foot, List.mem_cons] at hb
              rcases hb with rfl | hb
              · omega
              · have := hv2b b hb; omega
            · simp only [PC.foot, List.nodup_cons]
              refine ⟨fun hb => by have := hv2b _ hb; omega, ?_⟩
              cases (Value.slice a2 x.c.bytes.length cap2).ownBlock <;> simp
            · have e : PC.ptrs ⟨wr.heap.size + 1, .slice a2 x.c.bytes.length cap2, x.c⟩ = [.pointer none, ptr (wr.heap.size + 1)] := by simp [PC.ptrs, ht]
              rw [e]; exact hown5
            · rcases hob5 with h | h
              · exact .inl h
              · refine .inr ⟨_, h, by simp; omega, fun hb => ?_⟩
                simp only [PC.foot, List.mem_cons, World.size_alloc, World.size_setCell] at hb
                rcases hb with hb | hb
                · omega
                · have := hv2b _ hb; omega
          case measure => simp [intOf]; omega
      · have htf : x.c.text = false := by simpa using ht
        have hp2 := HU.out
        simp only [PC.ptrs, htf, if_false, Bool.false_eq_true, List.cons.injEq, Value.pointer.injEq] at hp2
        obtain ⟨rfl, rfl, -⟩ := hp2
        have hhd := hok.head.2 htf
        have hrow := hok.itemRow htf
        have Rx := Chg.cells (S := NoB) hhd id
        have lx := blk_lt hhd
        have hsm2 : x.c.items.length ≤ 40000 := by simpa [C.size, htf] using hsm
        rcases hrow.src with ⟨hsl, hn0⟩ | ⟨ad, c1, hsl, hsrc⟩
        · rw [hsl] at hhd Rx
          have HSL := Hid.mk' hsl
          have HN0 := Hid.mk' hn0
          clear hsl hn0
          obtain ⟨i5, hi5, hz50, hz51, hz52⟩ := info_parts Try.infoObj
          obtain ⟨i0, hi, hz0, hz1, hz2⟩ := info_parts Try.infoCell
          go_wp2_with (first
            | (at_builtin; refine wpList_append_own_none rfl (.const (.slice none 0 0)) (.tmp 44) 27 rfl wr.heap.size 29 i5 6 Try.underObjs hi5 (.slice none 0 0) 0 [] rfl (World.ownsRow_nil _ _ _ _) rfl ?_)
            | (at_builtin; refine wpList_append_own_at _ rfl (.tmp 47) (.tmp 49) 69 rfl w.heap.size 87 i0 (.agg #[.pointer none, .pointer none]) 2 16 Try.underCells hi hz0 hz1 hz2 rfl (by decide) u4 k (M.flatMap PC.ptrs) rfl (owns_chgB HM.out (((X.alloc _).alloc _).alloc _) (fun _ _ e => e)) _ 1 1 [ptr (wr.heap.size + 1), .pointer none] rfl rfl (fun j u hj => cells_new2 _ _ _ [ptr (wr.heap.size + 1), .pointer none] 87 j u hj) (one2 _ _) ?_ ?_ ?_ ?_; (unfold maxLen; omega); omega; (simp <;> omega); intro v5 w5 hown5 hgr5 _ hob5))
          have C5a : Chg (· ∈ u4.ownBlock.toList) (((wr.alloc (.cells #[ptr x.p, .pointer none] 87)).alloc (.cells #[.bool x.c.locked, .bool x.c.dict, .slice none 0 0] 84)).alloc (.cells #[ptr (wr.heap.size + 1), .pointer none] 87)) w5 := Chg.grown (Chg.refl _ _) hgr5 (fun n hn => .inl (by simp [hn]))
          have C5 : Chg (· ∈ u4.ownBlock.toList) wr w5 := ((((Chg.refl _ wr).alloc _).alloc _).alloc _).trans C5a
          have hq5 := C5a.blk (blk_alloc (blk_new1 wr _ _) _) (fun hb => by have := (hvl _ hb).2; omega)
          have HX : PC.ok w5 ⟨wr.heap.size + 1, .slice none 0 0, x.c⟩ := by
            unfold PC.ok
            simp only [htf, if_false, Bool.false_eq_true]
            have hok2 := hok
            unfold PC.ok at hok2
            simp only [htf, if_false, Bool.false_eq_true] at hok2
            refine ⟨hq5, ?_, hok2.2.2⟩
            have hr := hok2.2.1
            rw [HSL.out] at hr
            exact hr.of_nil
          go_roundw
          case rel =>
            refine ⟨k + 1, by omega, by go_num, ST.out w5 v5 ⟨wr.heap.size + 1, .slice none 0 0, x.c⟩ C5 HX HG.out ?_ ?_ ?_ ?_⟩
            · intro b hb
              simp only [PC.foot, Value.ownBlock, Option.toList, List.mem_cons, List.not_mem_nil, or_false] at hb
              omega
            · simp [PC.foot, Value.ownBlock]
            · have e : PC.ptrs ⟨wr.heap.size + 1, .slice none 0 0, x.c⟩ = [ptr (wr.heap.size + 1), .pointer none] := by simp [PC.ptrs, htf]
              rw [e]; exact hown5
            · rcases hob5 with h | h
              · exact .inl h
              · refine .inr ⟨_, h, by simp; omega, fun hb => ?_⟩
                simp only [PC.foot, Value.ownBlock, Option.toList, List.mem_cons, List.not_mem_nil, or_false, World.size_alloc] at hb
                omega
          case measure => simp [intOf]; omega
        · rw [hsl] at hhd Rx
          have HS1 := Hid.mk' hsrc
          clear hsrc hsl
          obtain ⟨i5, hi5, hz50, hz51, hz52⟩ := info_parts Try.infoObj
          obtain ⟨i0, hi, hz0, hz1, hz2⟩ := info_parts Try.infoCell
          go_wp2_with (first
            | (at_builtin; refine wpList_append_own_at _ rfl (.const (.slice none 0 0)) (.tmp 44) 27 rfl wr.heap.size 29 i5 O.nil.val 6 56 Try.underObjs hi5 hz50 hz51 hz52 rfl (by decide) (.slice none 0 0) 0 [] rfl (World.ownsRow_nil _ _ _ _) ad x.c.items.length c1 (x.c.items.flatMap O.cells) rfl (flat_length O.cells 6 cells_length _) (fun j u hj => HS1.out _ ((X.alloc _).alloc _) j u hj) (flat_one _) ?_ ?_ ?_ ?_; (unfold maxLen; omega); omega; (simp; omega); intro v2 w3 hown2 hgr2 _ hob2; have C3 : Chg NoB wr w3 := Chg.grown ((X.alloc _).alloc _) hgr2 (fun k hk => by simp [Value.ownBlock] at hk); have hq7 := (Chg.grown (Chg.refl NoB _) hgr2 (fun k hk => by simp [Value.ownBlock] at hk)).blk (blk_new1 wr _ _) id; obtain ⟨a2, cap2, rfl, _⟩ := (Row.of_owns (owns_base hown2 (Nat.zero_le _))).shape; have R7 := cells_of hq7; have Z7 := free_of hq7; have l7 := blk_lt hq7; have HW2 := Hid.mk' hown2; have HB2 := Hid.mk' hob2; clear hown2 hob2)
            | (at_builtin; refine wpList_append_own_at _ rfl (.tmp 47) (.tmp 49) 69 rfl w.heap.size 87 i0 (.agg #[.pointer none, .pointer none]) 2 16 Try.underCells hi hz0 hz1 hz2 rfl (by decide) u4 k (M.flatMap PC.ptrs) rfl (owns_chgB HM.out (Chg.alloc (Chg.setCell C3 (.inr (Nat.le_add_right _ _)) _) _) (fun _ _ e => e)) _ 1 1 [ptr (wr.heap.size + 1), .pointer none] rfl rfl (fun j u hj => cells_newS _ _ _ [ptr (wr.heap.size + 1), .pointer none] 87 j u hj) (one2 _ _) ?_ ?_ ?_ ?_; (unfold maxLen; omega); omega; (simp <;> omega); intro v5 w5 hown5 hgr5 _ hob5))
          have hown2 := HW2.out
          simp only [Nat.zero_add, List.nil_append] at hown2
          have hv2b : ∀ b ∈ (Value.slice a2 x.c.items.length cap2).ownBlock.toList, b = wr.heap.size + 1 + 1 := fun b hb => by
            have := HB2.out
            simp only [Nat.zero_add] at this
            rcases this with this | this
            · rw [this] at hb; simp [Value.ownBlock] at hb
            · rw [this] at hb; simp at hb; omega
          have C5a : Chg (· ∈ u4.ownBlock.toList) ((w3.setCell ⟨wr.heap.size + 1, 2, none⟩ (.slice a2 x.c.items.length cap2)).alloc (.cells #[ptr (wr.heap.size + 1), .pointer none] 87)) w5 := Chg.grown (Chg.refl _ _) hgr5 (fun n hn => .inl (by simp [hn]))
          have C5 : Chg (· ∈ u4.ownBlock.toList) wr w5 := (((C3.mono (fun _ _ e => e.elim)).setCell (p := ⟨wr.heap.size + 1, 2, none⟩) (.inr (Nat.le_add_right _ _)) _).alloc _).trans C5a
          have hq5 := C5a.blk (blk_alloc (blk_set hq7 2 (.slice a2 x.c.items.length cap2)) _) (fun hb => by have := (hvl _ hb).2; omega)
          simp only [List.setIfInBounds_toArray, List.set_cons_zero, List.set_cons_succ] at hq5
          have hrow5 := (Row.of_owns (owns_base hown2 (Nat.zero_le _))).chg ((Chg.refl (fun b => b = wr.heap.size + 1) w3).one (p := ⟨wr.heap.size + 1, 2, none⟩) rfl (.slice a2 x.c.items.length cap2)) (fun b hb e => by have := hv2b b hb; omega)
          have hrow6 := (hrow5.chg ((Chg.refl NoB _).alloc (.cells #[ptr (wr.heap.size + 1), .pointer none] 87)) (fun _ _ e => e)).chg C5a (fun b hb e => by have := hv2b b hb; have := (hvl _ e).2; omega)
          have hsz5 := C3.size
          have HX : PC.ok w5 ⟨wr.heap.size + 1, .slice a2 x.c.items.length cap2, x.c⟩ := by
            unfold PC.ok
            simp only [htf, if_false, Bool.false_eq_true]
            have hok2 := hok
            unfold PC.ok at hok2
            simp only [htf, if_false, Bool.false_eq_true] at hok2
            exact ⟨hq5, hrow6, hok2.2.2⟩
          go_roundw
          case rel =>
            refine ⟨k + 1, by omega, by go_num, ST.out w5 v5 ⟨wr.heap.size + 1, .slice a2 x.c.items.length cap2, x.c⟩ C5 HX HG.out ?_ ?_ ?_ ?_⟩
            · intro b hb
              simp only [PC.foot, List.mem_cons] at hb
              rcases hb with rfl | hb
              · omega
              · have := hv2b b hb; omega
            · simp only [PC.foot, List.nodup_cons]
              refine ⟨fun hb => by have := hv2b _ hb; omega, ?_⟩
              cases (Value.slice a2 x.c.items.length cap2).ownBlock <;> simp
            · have e : PC.ptrs ⟨wr.heap.size + 1, .slice a2 x.c.items.length cap2, x.c⟩ = [ptr (wr.heap.size + 1), .pointer none] := by simp [PC.ptrs, htf]
              rw [e]; exact hown5
            · rcases hob5 with h | h
              · exact .inl h
              · refine .inr ⟨_, h, by simp; omega, fun hb => ?_⟩
                simp only [PC.foot, List.mem_cons, World.size_alloc, World.size_setCell] at hb
                rcases hb with hb | hb
                · omega
                · have := hv2b _ hb; omega
          case measure => simp [intOf]; omega
    · have hkn : k = L.length := by omega
      subst hkn
      obtain ⟨a4, c4, rfl, -⟩ := (Row.of_owns (owns_base m3 (Nat.zero_le _))).shape
      have hh2 := X.blk hh id
      have hg2 := G1.head
      simp only [HS.l] at hg2
      have m1' : M.map PC.c = L.map PC.c := by rw [m1]; exact List.take_of_length_le (by simp)
      have HM1 := Hid.mk' m1'
      have HM2 := Hid.mk' m2
      clear m1 m1' m2
      have Rh := cells_of hh2
      have Zh := free_of hh2
      have Rg := cells_of hg2
      have lh := blk_lt hh2
      have lg := blk_lt hg2
      have hst := blk_set (blk_set hh2 0 (.slice a4 L.length c4)) 1 (.int .i64 (used (L.map PC.c) : Nat))
      simp only [List.setIfInBounds_toArray, List.set_cons_zero, List.set_cons_succ] at hst
      have cS := ((Chg.refl (fun b => b = hp) wr).one (p := ⟨hp, 0, none⟩) rfl (.slice a4 L.length c4)).one (p := ⟨hp, 1, none⟩) rfl (.int .i64 (used (L.map PC.c) : Nat))
      have hvl := owns_ge m3
      go_wp2
      go_end0
      refine ⟨rfl, ⟨hp, .slice a4 L.length c4, M⟩, rfl, HM1.out, ⟨?_, ?_, ?_, ?_, ?_, ?_⟩, G1.chg cS (fun b hb e => hhg (by rw [← e]; exact hb)), (X.mono (fun _ _ e => e.elim)).trans cS, ?_⟩
      · simp only [HS.l, HM1.out]; exact hst
      · have := owns_chgB m3 cS (fun b hb e => by have := (hvl b hb).1; omega)
        simp only [HM2.out]
        exact owns_base this (Nat.zero_le _)
      · intro y hy
        exact (m4 y hy).chg cS (fun b hb e => by have := m6 b (List.mem_flatMap.2 ⟨y, hy, hb⟩); omega)
      · simp only [HS.foot, List.nodup_cons]
        refine ⟨fun hb => ?_, m5⟩
        rcases List.mem_append.1 hb with hb | hb
        · have := (hvl _ hb).1; omega
        · have := m6 _ hb; omega
      · simp only [HM2.out]; exact hm
      · simp only [HS.l, HM1.out]; exact H.room
      · intro b hb
        simp only [HS.foot, List.mem_cons, List.mem_append] at hb
        rcases hb with rfl | hb | hb
        · exact .inl rfl
        · exact .inr (hvl b hb).1
        · exact .inr (m6 b hb)

theorem copy_any (h : HS) (w : World) (H : HeapRep w h) :
   Calls Try.prog 29 #[ptr h.hp] w fun e w' => e = .returned (ptr w.heap.size) ∧
     ∃ h' : HS, h'.hp = w.heap.size ∧ h'.l = h.l ∧ HeapRep w' h' ∧ Chg NoB w w' ∧ ∀ b ∈ h'.foot, w.heap.size ≤ b := by
  have hlt := H.lt
  go_enter Try.func29, Try.ntmps29
  go_wp2_with fail
  refine (new_any _).mono ?_
  rintro e w1 ⟨rfl, rfl⟩
  go_wp2_with fail
  refine (become_any w.heap.size h _ (H.pure ((Chg.refl _ _).alloc _)) _ _ (blk_new w _) (fun hb => by have := hlt _ hb; omega)).mono ?_
  rintro e w2 ⟨rfl, h', e1, e2, H2, -, X2, F2⟩
  go_wp2
  go_ret
  refine ⟨rfl, h', e1, e2, H2, ((Chg.refl NoB w).alloc _).trans' X2 (fun i hi e => by omega), fun b hb => ?_⟩
  rcases F2 b hb with e | e
  · omega
  · simp at e; omega
end Go.Proofs.Ytenlpkkeljhdeaa
