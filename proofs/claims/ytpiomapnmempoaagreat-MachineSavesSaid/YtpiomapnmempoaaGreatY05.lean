/- Parts of the proof: Hmk, Hlk, Hby. -/
import Derived.Test.YtpiomapnmempoaaGreatY04
namespace Go.Proofs.YtpiomapnmempoaaGreat
open Go.RowKit
variable {w : World}
theorem new_any (w : World) :
 Calls Tryz.prog 22 #[] w fun e w' => e = .returned (ptr w.heap.size) ∧ w' = w.alloc (.cells #[.slice none 0 0, .int .i64 0] 84) := by
 go_enter Tryz.func22, Tryz.ntmps22
 go_wp2
 go_ret; exact ⟨rfl, rfl⟩
theorem HeapRep.new (w : World) : HeapRep (w.alloc (.cells #[.slice none 0 0, .int .i64 0] 84)) ⟨w.heap.size, .slice none 0 0, []⟩ where
 head := blk_new w _
 own := World.ownsRow_nil _ _ _ _
 cell := fun x hx => by simp at hx
 apart := by simp [HS.foot, Value.ownBlock]
 most := by simp
 room := by simp [used]
theorem Next.of_add {w1 w2 : World} {h : HS} {x : PC} (H : HeapRep w h) (X1 : Chg NoB w w1) (hx : ∀ b ∈ x.foot, w.heap.size < b ∧ b < w1.heap.size) (h1 : w.heap.size < w1.heap.size)
 (hP : ∃ h' : HS, h'.hp = h.hp ∧ h'.L = h.L ++ [x] ∧ HeapRep w2 h' ∧ Chg (· ∈ h.foot) w1 w2 ∧ ∀ b ∈ h'.foot, b ∈ h.foot ∨ b ∈ x.foot ∨ w1.heap.size ≤ b) :
 ∀ W, Chg (· = w.heap.size) w2 W → Next w h W (h.l ++ [x.c]) := by
 obtain ⟨h', e1, e2, H2, X2, F⟩ := hP; intro W hW; have hlt := H.lt; refine ⟨h', e1, by simp [HS.l, e2], H2.chg hW (fun b hb e => ?_), ((X1.mono (fun _ _ e => e.elim)).trans X2).trans' hW (fun i hi e => by omega), fun b hb => ?_⟩
 · rcases F b hb with q | q | q
   · have := hlt b q; omega
   · have := (hx b q).1; omega
   · omega
 · rcases F b hb with q | q | q
   · exact .inl q
   · exact .inr (by have := (hx b q).1; omega)
   · exact .inr (by omega)
def makeH (L : List C) (c : C) : List C × O × Int := if addE L c ≠ 0 then (L, O.nil, 5) else (L ++ [c], objOf L c, 0)
def arrayH (L : List C) (n : Int) : List C × O × Int :=
 if 40000 < n then (L, O.nil, 5) else if n < 0 then (L, O.nil, 2) else makeH L ⟨false, false, false, List.replicate n.toNat nullO, []⟩
def stringH (L : List C) (b : ByteArray) : List C × O × Int :=
 if 40000 < b.size then (L, O.nil, 5) else makeH L ⟨true, false, false, [], b.toList⟩
def dictH (L : List C) (n : Int) : List C × O × Int :=
 if n < 0 ∨ 1000 < n then (L, O.nil, 2) else makeH L ⟨false, true, false, ⟨3, false, 0, 0, 0, ⟨#[]⟩⟩ :: List.replicate (2 * n.toNat) nullO, []⟩
set_option maxHeartbeats 1000000 in
theorem array_any (h : HS) (n : Int) (w : World) (H : HeapRep w h) :
 Calls Tryz.prog 71 #[ptr h.hp, .int .i64 n] w fun e w' => e = .returned (.tuple #[(arrayH h.l n).2.1.val, .int .i64 (arrayH h.l n).2.2]) ∧ Next w h w' (arrayH h.l n).1 := by
 by_cases h1 : 40000 < n
 · have hs : arrayH h.l n = (h.l, O.nil, 5) := by simp [arrayH, h1]
   rw [hs]; go_enter Tryz.func71, Tryz.ntmps71
   go_wp2
   refine bodyPost_ret (v := .tuple #[O.nil.val, .int .i64 5]) (by simp [results, Tryz.results71, go_sem, O.nil]) rfl ⟨rfl, Next.same H ?_⟩; exact (Chg.refl _ _).alloc _
 by_cases h2 : n < 0
 · have hs : arrayH h.l n = (h.l, O.nil, 2) := by simp [arrayH, h1, h2]
   rw [hs]; go_enter Tryz.func71, Tryz.ntmps71
   go_wp2
   refine bodyPost_ret (v := .tuple #[O.nil.val, .int .i64 2]) (by simp [results, Tryz.results71, go_sem, O.nil]) rfl ⟨rfl, Next.same H ?_⟩; exact (Chg.refl _ _).alloc _
 obtain ⟨k, rfl⟩ := Int.eq_ofNat_of_zero_le (show 0 ≤ n by omega)
 have hk : k ≤ 40000 := by omega
 obtain ⟨c, hc⟩ : ∃ c : C, c = ⟨false, false, false, List.replicate k nullO, []⟩ := ⟨_, rfl⟩
 have hs : arrayH h.l k = makeH h.l c := by rw [hc]; simp [arrayH, h1, h2]
 rw [hs]; have HC := Hid.mk' hc; clear hs hc; go_enter Tryz.func71, Tryz.ntmps71
 go_wp2_with fail
 refine (nulls_any k (by omega) _).mono ?_; rintro e w1 ⟨rfl, hb1, cur, hcur, hl⟩; have hB0 := hb1.blk (blk_new w _) id; have XW := ((Chg.refl NoB w).alloc _).pure hb1; have lT := blk_lt hB0; have lc := blk_lt hcur; simp only [World.size_alloc] at lc
 have hcs : cur.size = k * 6 := by have := congrArg List.length hl; rw [flat_length O.cells 6 cells_length] at this; simpa using this
 have hok : ∀ W, Chg NoB w1 W → ∀ p, W.heap[p]? = some (.cells #[.bool false, .bool false, .slice (some ⟨w.heap.size + 1, 0, none⟩) k k] 127 (0, 0)) → PC.ok W ⟨p, .slice (some ⟨w.heap.size + 1, 0, none⟩) k k, c⟩ := fun W hW p hp => by
  rw [HC.out]; unfold PC.ok; simp only [if_false, Bool.false_eq_true]; refine ⟨hp, ?_, trivial⟩; have hcur' := hW.blk hcur id; simp only [World.size_alloc] at hcur'; refine ⟨by rw [flat_length O.cells 6 cells_length], .inr ⟨_, k, cur, _, by simp, hcur', .inl rfl, by simp, by unfold maxLen; omega, hcs, ?_⟩⟩; rw [hl]; rw [List.take_of_length_le]; rw [flat_length O.cells 6 cells_length]; simp
 have HOK := Hid.mk' hok; clear hok hcs hl; have H1 := (H.pure ((Chg.refl NoB w).alloc _)).pure hb1; go_wp2_with fail
 have XA := (Chg.refl NoB w1).alloc (.cells #[.bool false, .bool false, .slice (some ⟨w.heap.size + 1, 0, none⟩) k k] 127); have hpn := blk_new w1 (.cells #[.bool false, .bool false, .slice (some ⟨w.heap.size + 1, 0, none⟩) k k] 127); have hB0a := XA.blk hB0 id; have HA := H1.pure XA; have HX := HOK.out _ XA _ hpn; have XWA := XW.trans XA
 have lA : w1.heap.size < (w1.alloc (.cells #[.bool false, .bool false, .slice (some ⟨w.heap.size + 1, 0, none⟩) k k] 127)).heap.size := by simp
 have lA0 : w.heap.size < (w1.alloc (.cells #[.bool false, .bool false, .slice (some ⟨w.heap.size + 1, 0, none⟩) k k] 127)).heap.size := Nat.lt_trans lT lA; have hlt := H.lt
 by_cases hA : addE h.l c = 0
 · have hmk : makeH h.l c = (h.l ++ [c], objOf h.l c, 0) := by simp [makeH, hA]
   have HM := Hid.mk' hmk; clear hmk; have hf : PC.foot ⟨w1.heap.size, .slice (some ⟨w.heap.size + 1, 0, none⟩) k k, c⟩ = [w1.heap.size, w.heap.size + 1] := rfl; have KA := add_ok h ⟨w1.heap.size, .slice (some ⟨w.heap.size + 1, 0, none⟩) k k, c⟩ _ HA HX hA (by rw [hf]; simp <;> omega) (fun b hb hb' => by rw [hf] at hb; have := hlt b hb'; simp at hb; omega); rw [show PC.val ⟨w1.heap.size, .slice (some ⟨w.heap.size + 1, 0, none⟩) k k, c⟩ = .agg #[ptr w1.heap.size, .pointer none] by rw [HC.out]; rfl] at KA; refine KA.mono ?_; rintro e w2 ⟨rfl, hP⟩; have FN := Hid.mk' (Next.of_add H XWA (fun b hb => by rw [hf] at hb; simp at hb ⊢; omega) lA0 hP); obtain ⟨h', -, -, -, X2, -⟩ := hP; have hB2 := X2.blk hB0a (fun hb => by have := hlt _ hb; omega); clear X2 KA HX HA H1 hpn hB0a hB0 XA; generalize hoe : objOf h.l c = oo at *; have l2 := blk_lt hB2; have R2 := cells_of hB2; have Z2 := free_of hB2; clear lA lA0 HOK; go_wp2
   refine bodyPost_ret (v := .tuple #[oo.val, .int .i64 0]) (by simp [results, Tryz.results71, go_sem, R2, cell_set_at]) rfl ⟨by rw [HM.out], ?_⟩; rw [HM.out]; refine FN.out _ ?_; have X2 := Chg.refl (fun b => b = w.heap.size) w2; exact (((((X2.setCell (.inl rfl) _).setCell (.inl rfl) _).setCell (.inl rfl) _).setCell (.inl rfl) _).setCell (.inl rfl) _).setCell (.inl rfl) _
 · have hmk : makeH h.l c = (h.l, O.nil, 5) := by simp [makeH, hA]
   have HM := Hid.mk' hmk; clear hmk; have KA := add_full h ⟨w1.heap.size, .slice (some ⟨w.heap.size + 1, 0, none⟩) k k, c⟩ _ HA HX hA; rw [show PC.val ⟨w1.heap.size, .slice (some ⟨w.heap.size + 1, 0, none⟩) k k, c⟩ = .agg #[ptr w1.heap.size, .pointer none] by rw [HC.out]; rfl] at KA; refine KA.mono ?_; rintro e w2 ⟨rfl, hb2⟩; have hB2 := hb2.blk hB0a id; have X2 := XWA.trans hb2; clear KA HX HA H1 hpn hB0a hB0 XA hb2; have l2 := blk_lt hB2; have R2 := cells_of hB2; have Z2 := free_of hB2; clear lA lA0 HOK; go_wp2
   refine bodyPost_ret (v := .tuple #[O.nil.val, .int .i64 5]) (by simp [results, Tryz.results71, go_sem, R2, cell_set_at, O.nil]) rfl ⟨by rw [HM.out], ?_⟩; rw [HM.out]; refine Next.same H ?_
   (repeat' (first | with_reducible assumption | with_reducible refine Chg.alloc ?_ _ | with_reducible refine Chg.drew ?_ | with_reducible refine Chg.drewN ?_ _ | with_reducible refine Chg.setCell ?_ (Or.inr ?_) _ | exact Nat.le_refl _ | exact Nat.le_add_right _ _ | (simp; done) | (simp; omega)))
set_option maxHeartbeats 1000000 in
theorem string_any (h : HS) (s : ByteArray) (w : World) (H : HeapRep w h) :
 Calls Tryz.prog 68 #[ptr h.hp, .string s] w fun e w' => e = .returned (.tuple #[(stringH h.l s).2.1.val, .int .i64 (stringH h.l s).2.2]) ∧ Next w h w' (stringH h.l s).1 := by
 by_cases h1 : 40000 < s.size
 · have hs : stringH h.l s = (h.l, O.nil, 5) := by simp [stringH, h1]
   rw [hs]
   have h1' : (40000 : Int) < (s.size : Int) := by omega
   go_enter Tryz.func68, Tryz.ntmps68
   go_wp2
   refine bodyPost_ret (v := .tuple #[O.nil.val, .int .i64 5]) (by simp [results, Tryz.results68, go_sem, O.nil]) rfl ⟨rfl, Next.same H ?_⟩; exact (Chg.refl _ _).alloc _
 have hk : (s.size : Int) ≤ 40000 := by omega
 have hcv := fun W => run_str_bytes s W
 obtain ⟨c, hc⟩ : ∃ c : C, c = ⟨true, false, false, [], s.toList⟩ := ⟨_, rfl⟩
 have hs : stringH h.l s = makeH h.l c := by rw [hc]; simp [stringH, h1]
 rw [hs]; have HC := Hid.mk' hc; clear hs hc; go_enter Tryz.func68, Tryz.ntmps68
 go_wp2_with fail
 generalize hw1 : strW _ s = w1; generalize hcap : strCap _ s = cap
 have XW : Chg NoB w w1 := by rw [← hw1]; exact ((Chg.refl NoB w).alloc _).pure (strW_chg _ s)
 have hsz : w1.heap.size = w.heap.size + 1 + 1 := by rw [← hw1]; simp [strW_size]
 have hB0 : w1.heap[w.heap.size]? = some (.cells #[.int .i64 0, .bool false, .int .i64 0, .int .i64 0, .int .i64 0, .string ⟨#[]⟩] 49 (0, 0)) := by rw [← hw1]; exact (strW_chg _ s).blk (blk_new w _) id
 have hrow : ∀ W, Chg NoB w1 W → Row W 5 1 (.slice (some ⟨w.heap.size + 1, 0, none⟩) s.size cap) s.size (s.toList.map vu8) := by
  rw [← hw1, ← hcap]; intro W hW; have := strW_row (by omega) hW
  simpa using this
 clear hw1 hcap hcv
 have hsl : s.toList.length = s.size := by rw [ByteArray.toList_eq]; rfl
 have hok : ∀ W, Chg NoB w1 W → ∀ p, W.heap[p]? = some (.cells #[.bool false, .slice (some ⟨w.heap.size + 1, 0, none⟩) s.size cap] 125 (0, 0)) → PC.ok W ⟨p, .slice (some ⟨w.heap.size + 1, 0, none⟩) s.size cap, c⟩ := fun W hW p hp => by
  rw [HC.out]; unfold PC.ok; simp only [if_true]; refine ⟨hp, ?_, trivial⟩; rw [hsl]; exact hrow W hW
 have HOK := Hid.mk' hok; have hsz' : Hid (w1.heap.size = w.heap.size + 1 + 1) := hsz
 have lT : w.heap.size < w1.heap.size := by omega
 have HSZ : Hid (w1.heap.size = w.heap.size + 1 + 1) := hsz; clear hok hrow hsl hsz'; have H1 := H.pure XW; have XA := (Chg.refl NoB w1).alloc (.cells #[.bool false, .slice (some ⟨w.heap.size + 1, 0, none⟩) s.size cap] 125)
 have hpn : (w1.alloc (.cells #[.bool false, .slice (some ⟨w.heap.size + 1, 0, none⟩) s.size cap] 125)).heap[w.heap.size + 1 + 1]? = some (.cells #[.bool false, .slice (some ⟨w.heap.size + 1, 0, none⟩) s.size cap] 125 (0, 0)) := by
  rw [← hsz]; exact blk_new w1 (.cells #[.bool false, .slice (some ⟨w.heap.size + 1, 0, none⟩) s.size cap] 125)
 have hB0a := XA.blk hB0 id; have HA := H1.pure XA; have HX := HOK.out _ XA _ hpn; have XWA := XW.trans XA
 have lA : w.heap.size + 1 + 1 < (w1.alloc (.cells #[.bool false, .slice (some ⟨w.heap.size + 1, 0, none⟩) s.size cap] 125)).heap.size := by simp [hsz]
 have lA0 : w.heap.size < (w1.alloc (.cells #[.bool false, .slice (some ⟨w.heap.size + 1, 0, none⟩) s.size cap] 125)).heap.size := by simp; omega
 have hlt := H.lt
 by_cases hA : addE h.l c = 0
 · have hmk : makeH h.l c = (h.l ++ [c], objOf h.l c, 0) := by simp [makeH, hA]
   have HM := Hid.mk' hmk; clear hmk; have hf : PC.foot ⟨w.heap.size + 1 + 1, .slice (some ⟨w.heap.size + 1, 0, none⟩) s.size cap, c⟩ = [w.heap.size + 1 + 1, w.heap.size + 1] := rfl; have KA := add_ok h ⟨w.heap.size + 1 + 1, .slice (some ⟨w.heap.size + 1, 0, none⟩) s.size cap, c⟩ _ HA HX hA (by rw [hf]; simp <;> omega) (fun b hb hb' => by rw [hf] at hb; have := hlt b hb'; simp at hb; omega); rw [show PC.val ⟨w.heap.size + 1 + 1, .slice (some ⟨w.heap.size + 1, 0, none⟩) s.size cap, c⟩ = .agg #[.pointer none, ptr (w.heap.size + 1 + 1)] by rw [HC.out]; rfl] at KA; refine KA.mono ?_; rintro e w2 ⟨rfl, hP⟩; have FN := Hid.mk' (Next.of_add H XWA (fun b hb => by rw [hf] at hb; simp at hb ⊢; omega) lA0 hP); obtain ⟨h', -, -, -, X2, -⟩ := hP; have hB2 := X2.blk hB0a (fun hb => by have := hlt _ hb; omega); clear X2 KA HX HA H1 hpn hB0a hB0 XA; generalize hoe : objOf h.l c = oo at *; have l2 := blk_lt hB2; have R2 := cells_of hB2; have Z2 := free_of hB2; clear lA lA0 HOK; go_wp2
   refine bodyPost_ret (v := .tuple #[oo.val, .int .i64 0]) (by simp [results, Tryz.results68, go_sem, R2, cell_set_at]) rfl ⟨by rw [HM.out], ?_⟩; rw [HM.out]; refine FN.out _ ?_; have X2 := Chg.refl (fun b => b = w.heap.size) w2; exact (((((X2.setCell (.inl rfl) _).setCell (.inl rfl) _).setCell (.inl rfl) _).setCell (.inl rfl) _).setCell (.inl rfl) _).setCell (.inl rfl) _
 · have hmk : makeH h.l c = (h.l, O.nil, 5) := by simp [makeH, hA]
   have HM := Hid.mk' hmk; clear hmk; have KA := add_full h ⟨w.heap.size + 1 + 1, .slice (some ⟨w.heap.size + 1, 0, none⟩) s.size cap, c⟩ _ HA HX hA; rw [show PC.val ⟨w.heap.size + 1 + 1, .slice (some ⟨w.heap.size + 1, 0, none⟩) s.size cap, c⟩ = .agg #[.pointer none, ptr (w.heap.size + 1 + 1)] by rw [HC.out]; rfl] at KA; refine KA.mono ?_; rintro e w2 ⟨rfl, hb2⟩; have hB2 := hb2.blk hB0a id; have X2 := XWA.trans hb2; clear KA HX HA H1 hpn hB0a hB0 XA hb2; have l2 := blk_lt hB2; have R2 := cells_of hB2; have Z2 := free_of hB2; clear lA lA0 HOK; go_wp2
   refine bodyPost_ret (v := .tuple #[O.nil.val, .int .i64 5]) (by simp [results, Tryz.results68, go_sem, R2, cell_set_at, O.nil]) rfl ⟨by rw [HM.out], ?_⟩; rw [HM.out]; refine Next.same H ?_
   (repeat' (first | with_reducible assumption | with_reducible refine Chg.alloc ?_ _ | with_reducible refine Chg.drew ?_ | with_reducible refine Chg.drewN ?_ _ | with_reducible refine Chg.setCell ?_ (Or.inr ?_) _ | exact Nat.le_refl _ | exact Nat.le_add_right _ _ | (simp; done) | (simp; omega)))
set_option maxHeartbeats 2000000 in
theorem hdict_any (h : HS) (n : Int) (w : World) (H : HeapRep w h) :
 Calls Tryz.prog 57 #[ptr h.hp, .int .i64 n] w fun e w' => e = .returned (.tuple #[(dictH h.l n).2.1.val, .int .i64 (dictH h.l n).2.2]) ∧ Next w h w' (dictH h.l n).1 := by
 by_cases h1 : n < 0
 · have hs : dictH h.l n = (h.l, O.nil, 2) := by simp [dictH, h1]
   rw [hs]; go_enter Tryz.func57, Tryz.ntmps57
   go_wp2
   refine bodyPost_ret (v := .tuple #[O.nil.val, .int .i64 2]) (by simp [results, Tryz.results57, go_sem, O.nil]) rfl ⟨rfl, Next.same H ?_⟩; exact (Chg.refl _ _).alloc _
 by_cases h2 : 1000 < n
 · have hs : dictH h.l n = (h.l, O.nil, 2) := by simp [dictH, h2]
   rw [hs]; go_enter Tryz.func57, Tryz.ntmps57
   go_wp2
   refine bodyPost_ret (v := .tuple #[O.nil.val, .int .i64 2]) (by simp [results, Tryz.results57, go_sem, O.nil]) rfl ⟨rfl, Next.same H ?_⟩; exact (Chg.refl _ _).alloc _
 obtain ⟨k, rfl⟩ := Int.eq_ofNat_of_zero_le (show 0 ≤ n by omega)
 have hk : k ≤ 1000 := by omega
 obtain ⟨c, hc⟩ : ∃ c : C, c = ⟨false, true, false, ⟨3, false, 0, 0, 0, ⟨#[]⟩⟩ :: List.replicate (2 * k) nullO, []⟩ := ⟨_, rfl⟩
 have hs : dictH h.l k = makeH h.l c := by rw [hc]; simp [dictH, h1, h2]
 rw [hs]; have HC := Hid.mk' hc; clear hs hc; have hA1 : IntKind.i64.wrap (2 * (k : Int)) = 2 * (k : Int) := IntWalk.i64_in _ (by omega); have hA2 : IntKind.i64.wrap (2 * (k : Int) + 1) = 2 * (k : Int) + 1 := IntWalk.i64_in _ (by omega); go_enter Tryz.func57, Tryz.ntmps57
 go_wp2_with fail
 have hN := nulls_any (2 * k + 1) (by omega) (w.alloc (.cells #[.int .i64 0, .bool false, .int .i64 0, .int .i64 0, .int .i64 0, .string ⟨#[]⟩] 49)); simp only [Int.natCast_add, Int.natCast_mul, Int.cast_ofNat_Int, World.size_alloc] at hN; refine hN.mono ?_; rintro e w1 ⟨rfl, hb1, cur, hcur, hl⟩; clear hN; have hB0 := hb1.blk (blk_new w _) id; have XW := ((Chg.refl NoB w).alloc _).pure hb1; have lT := blk_lt hB0; have lc := blk_lt hcur
 have hcs : cur.size = (2 * k + 1) * 6 := by have := congrArg List.length hl; rw [flat_length O.cells 6 cells_length] at this; simpa using this
 have hl' : cur.toList = O.cells nullO ++ (List.replicate (2 * k) nullO).flatMap O.cells := by rw [hl, List.replicate_succ, List.flatMap_cons]
 have yy : ∀ i, i < 6 → cur[i]? = nullO.cells[i]? := fun i hi => by
  rw [← Array.getElem?_toList, hl', List.getElem?_append_left (by rw [cells_length]; exact hi)]
 have y0 := yy 0 (by omega); have y1 := yy 1 (by omega); have y2 := yy 2 (by omega); have y3 := yy 3 (by omega); have y4 := yy 4 (by omega); have y5 := yy 5 (by omega); simp only [O.cells, nullO, List.getElem?_cons_zero, List.getElem?_cons_succ] at y0 y1 y2 y3 y4 y5
 have hrow1 : Row w1 49 6 (.slice (some ⟨w.heap.size + 1, 0, none⟩) (List.replicate (2 * k + 1) nullO).length (2 * k + 1)) (List.replicate (2 * k + 1) nullO).length ((List.replicate (2 * k + 1) nullO).flatMap O.cells) := by
  simp only [List.length_replicate]; refine ⟨by rw [flat_length O.cells 6 cells_length]; simp, .inr ⟨_, 2 * k + 1, cur, _, rfl, hcur, .inl rfl, Nat.le_refl _, by unfold maxLen; omega, hcs, ?_⟩⟩; rw [hl, List.take_of_length_le]; rw [flat_length O.cells 6 cells_length]; simp
 have hrow2 := hrow1.set6 (j := 0) (by simp) ⟨3, false, 0, 0, 0, ⟨#[]⟩⟩; simp only [List.replicate_succ, List.set_cons_zero, List.length_cons, List.length_replicate, Nat.zero_mul] at hrow2; unfold put6 at hrow2; have HR2 := Hid.mk' hrow2; have R := cells_of hcur; have Z := free_of hcur; have HH := Hid.mk' H; have XP : Chg NoB w (put6 w1 (w.heap.size + 1) 0 ⟨3, false, 0, 0, 0, ⟨#[]⟩⟩) := (((((XW.setCell (.inr (Nat.le_add_right _ _)) _).setCell (.inr (Nat.le_add_right _ _)) _).setCell (.inr (Nat.le_add_right _ _)) _).setCell (.inr (Nat.le_add_right _ _)) _).setCell (.inr (Nat.le_add_right _ _)) _).setCell (.inr (Nat.le_add_right _ _)) _; have hB03 : (put6 w1 (w.heap.size + 1) 0 ⟨3, false, 0, 0, 0, ⟨#[]⟩⟩).heap[w.heap.size]? = _ := blk_set_other (blk_set_other (blk_set_other (blk_set_other (blk_set_other (blk_set_other hB0 (by simp) _) (by simp) _) (by simp) _) (by simp) _) (by simp) _) (by simp) _
 have lsz : (put6 w1 (w.heap.size + 1) 0 ⟨3, false, 0, 0, 0, ⟨#[]⟩⟩).heap.size = w1.heap.size := by simp
 unfold put6 at lsz XP hB03; have HSZ := Hid.mk' lsz; clear hl hl' yy hcs hrow1 hrow2 lsz; go_wp2_with fail
 generalize hw3 : (((((w1.setCell ⟨w.heap.size + 1, 0, none⟩ (.int .i64 3)).setCell ⟨w.heap.size + 1, 0 + 1, none⟩ (.bool false)).setCell ⟨w.heap.size + 1, 0 + 2, none⟩ (.int .i64 0)).setCell ⟨w.heap.size + 1, 0 + 3, none⟩ (.int .i64 0)).setCell ⟨w.heap.size + 1, 0 + 4, none⟩ (.int .i64 0)).setCell ⟨w.heap.size + 1, 0 + 5, none⟩ (.string ⟨#[]⟩) = w3 at *; have hsz3 := HSZ.out
 have lT3 : w.heap.size < w3.heap.size := by omega
 have lc3 : w.heap.size + 1 < w3.heap.size := by omega
 rw [← hsz3]; have HR3 : Row w3 49 6 (.slice (some ⟨w.heap.size + 1, 0, none⟩) (2 * k + 1) (2 * k + 1)) (2 * k + 1) ((⟨3, false, 0, 0, 0, ⟨#[]⟩⟩ :: List.replicate (2 * k) nullO).flatMap O.cells) := HR2.out; clear R Z y0 y1 y2 y3 y4 y5 hcur hw3 XW hB0 lT lc HSZ HR2 hsz3 hb1 HH hA1 hA2
 have hok : ∀ W, Chg NoB w3 W → ∀ p, W.heap[p]? = some (.cells #[.bool false, .bool true, .slice (some ⟨w.heap.size + 1, 0, none⟩) (2 * k + 1) (2 * k + 1)] 127 (0, 0)) → PC.ok W ⟨p, .slice (some ⟨w.heap.size + 1, 0, none⟩) (2 * k + 1) (2 * k + 1), c⟩ := fun W hW p hp => by
  rw [HC.out]; unfold PC.ok; simp only [if_false, Bool.false_eq_true, List.length_cons, List.length_replicate]; exact ⟨hp, HR3.chg hW (fun _ _ e => e), trivial⟩
 have HOK := Hid.mk' hok; clear hok HR3; have XW := XP; have hB0 := hB03; have lT := lT3; have lc := lc3; clear XP hB03 lT3 lc3; have H1 := H.pure XW; have XA := (Chg.refl NoB w3).alloc (.cells #[.bool false, .bool true, .slice (some ⟨w.heap.size + 1, 0, none⟩) (2 * k + 1) (2 * k + 1)] 127); have hpn := blk_new w3 (.cells #[.bool false, .bool true, .slice (some ⟨w.heap.size + 1, 0, none⟩) (2 * k + 1) (2 * k + 1)] 127); have hB0a := XA.blk hB0 id; have HA := H1.pure XA; have HX := HOK.out _ XA _ hpn; have XWA := XW.trans XA
 have lA : w3.heap.size < (w3.alloc (.cells #[.bool false, .bool true, .slice (some ⟨w.heap.size + 1, 0, none⟩) (2 * k + 1) (2 * k + 1)] 127)).heap.size := by simp
 have lA0 : w.heap.size < (w3.alloc (.cells #[.bool false, .bool true, .slice (some ⟨w.heap.size + 1, 0, none⟩) (2 * k + 1) (2 * k + 1)] 127)).heap.size := Nat.lt_trans lT lA; have hlt := H.lt
 by_cases hA : addE h.l c = 0
 · have hmk : makeH h.l c = (h.l ++ [c], objOf h.l c, 0) := by simp [makeH, hA]
   have HM := Hid.mk' hmk; clear hmk; have hf : PC.foot ⟨w3.heap.size, .slice (some ⟨w.heap.size + 1, 0, none⟩) (2 * k + 1) (2 * k + 1), c⟩ = [w3.heap.size, w.heap.size + 1] := rfl; have KA := add_ok h ⟨w3.heap.size, .slice (some ⟨w.heap.size + 1, 0, none⟩) (2 * k + 1) (2 * k + 1), c⟩ _ HA HX hA (by rw [hf]; simp <;> omega) (fun b hb hb' => by rw [hf] at hb; have := hlt b hb'; simp at hb; omega); rw [show PC.val ⟨w3.heap.size, .slice (some ⟨w.heap.size + 1, 0, none⟩) (2 * k + 1) (2 * k + 1), c⟩ = .agg #[ptr w3.heap.size, .pointer none] by rw [HC.out]; rfl] at KA; refine KA.mono ?_; rintro e w2 ⟨rfl, hP⟩; have FN := Hid.mk' (Next.of_add H XWA (fun b hb => by rw [hf] at hb; simp at hb ⊢; omega) lA0 hP); obtain ⟨h', -, -, -, X2, -⟩ := hP; have hB2 := X2.blk hB0a (fun hb => by have := hlt _ hb; omega); clear X2 KA HX HA H1 hpn hB0a hB0 XA; generalize hoe : objOf h.l c = oo at *; have l2 := blk_lt hB2; have R2 := cells_of hB2; have Z2 := free_of hB2; clear lA lA0 HOK; go_wp2
   refine bodyPost_ret (v := .tuple #[oo.val, .int .i64 0]) (by simp [results, Tryz.results57, go_sem, R2, cell_set_at]) rfl ⟨by rw [HM.out], ?_⟩; rw [HM.out]; refine FN.out _ ?_; have X2 := Chg.refl (fun b => b = w.heap.size) w2; exact (((((X2.setCell (.inl rfl) _).setCell (.inl rfl) _).setCell (.inl rfl) _).setCell (.inl rfl) _).setCell (.inl rfl) _).setCell (.inl rfl) _
 · have hmk : makeH h.l c = (h.l, O.nil, 5) := by simp [makeH, hA]
   have HM := Hid.mk' hmk; clear hmk; have KA := add_full h ⟨w3.heap.size, .slice (some ⟨w.heap.size + 1, 0, none⟩) (2 * k + 1) (2 * k + 1), c⟩ _ HA HX hA; rw [show PC.val ⟨w3.heap.size, .slice (some ⟨w.heap.size + 1, 0, none⟩) (2 * k + 1) (2 * k + 1), c⟩ = .agg #[ptr w3.heap.size, .pointer none] by rw [HC.out]; rfl] at KA; refine KA.mono ?_; rintro e w2 ⟨rfl, hb2⟩; have hB2 := hb2.blk hB0a id; have X2 := XWA.trans hb2; clear KA HX HA H1 hpn hB0a hB0 XA hb2; have l2 := blk_lt hB2; have R2 := cells_of hB2; have Z2 := free_of hB2; clear lA lA0 HOK; go_wp2
   refine bodyPost_ret (v := .tuple #[O.nil.val, .int .i64 5]) (by simp [results, Tryz.results57, go_sem, R2, cell_set_at, O.nil]) rfl ⟨by rw [HM.out], ?_⟩; rw [HM.out]; refine Next.same H ?_
   (repeat' (first | with_reducible assumption | with_reducible refine Chg.alloc ?_ _ | with_reducible refine Chg.drew ?_ | with_reducible refine Chg.drewN ?_ _ | with_reducible refine Chg.setCell ?_ (Or.inr ?_) _ | exact Nat.le_refl _ | exact Nat.le_add_right _ _ | (simp; done) | (simp; omega)))
def lockH (L : List C) (o : O) : List C × Int :=
 if findE L o ≠ 0 then (L, findE L o) else match L[o.n.toNat]? with
  | none => (L, 0)
  | some c => (L.set o.n.toNat { c with locked := true }, 0)
theorem Next.lock {w' : World} {hp : Nat} {slv : Value} {L : List PC} (H : HeapRep w ⟨hp, slv, L⟩) (X : Chg NoB w w') {N : Nat} (hN : N < L.length) :
 Next w ⟨hp, slv, L⟩ (w'.setCell ⟨L[N].p, 0, none⟩ (.bool true)) ((L.map PC.c).set N { L[N].c with locked := true }) := by
 have H' := H.pure X
 have hg : L[N].p ∈ L[N].foot := by simp [PC.foot]
 have hc : Chg (· ∈ L[N].foot) w' (w'.setCell ⟨L[N].p, 0, none⟩ (.bool true)) := (Chg.refl _ _).one hg _
 have hin : ∀ b ∈ L[N].foot, b ∈ HS.foot ⟨hp, slv, L⟩ := fun b hb => by simp only [HS.foot, List.mem_cons, List.mem_append, List.mem_flatMap]; exact .inr (.inr ⟨_, List.getElem_mem hN, hb⟩)
 refine ⟨⟨hp, slv, L.set N { L[N] with c := { L[N].c with locked := true } }⟩, rfl, by simp [HS.l], H'.update hN _ hc ?_ rfl rfl rfl (by simp [C.size]),
  (X.mono (fun _ _ e => e.elim)).trans (hc.mono (fun i _ hi => hin i hi)), fun i hb => .inl ?_⟩
 · have hok := H'.cell _ (List.getElem_mem hN)
   have h2 : ∀ b ∈ L[N].sl.ownBlock.toList, b ≠ L[N].p := by
    have := H.apart; simp only [HS.foot, List.nodup_cons, List.nodup_append] at this; have h2 := (List.pairwise_flatMap.1 this.2.2.1).1 _ (List.getElem_mem hN); simp only [PC.foot, List.pairwise_cons] at h2; exact fun b hb e => h2.1 b hb e.symm
   have hcp := (Chg.refl (fun b => b = L[N].p) w').one (p := ⟨L[N].p, 0, none⟩) rfl (.bool true); unfold PC.ok at hok ⊢
   by_cases ht : L[N].c.text = true
   · simp only [ht, if_true] at hok ⊢; refine ⟨by have := blk_set hok.1 0 (.bool true); simpa using this, hok.2.1.chg hcp h2, hok.2.2⟩
   · simp only [ht, if_false, Bool.false_eq_true] at hok ⊢; refine ⟨by have := blk_set hok.1 0 (.bool true); simpa using this, hok.2.1.chg hcp h2, hok.2.2⟩
 · rw [foot_set hp slv L N { L[N] with c := { L[N].c with locked := true } } hN rfl rfl] at hb; exact hb
theorem headlock (p : Nat) (v : Value) (w : World) (hc : w.cell? ⟨p, 0, none⟩ = some v) (hf : w.frozen? ⟨p, 0, none⟩ = false) :
 Calls Tryz.prog 64 #[.pointer (some ⟨p, 0, none⟩)] w fun e w' => e = .returned (.tuple #[]) ∧ w.setCell ⟨p, 0, none⟩ (.bool true) = w' := by
 go_enter Tryz.func64, Tryz.ntmps64
 go_wp2
 go_end0; exact ⟨rfl, rfl⟩
set_option maxHeartbeats 1000000 in
theorem lock_any (h : HS) (o : O) (w : World) (H : HeapRep w h) :
 Calls Tryz.prog 39 #[ptr h.hp, o.val] w fun e w' => e = .returned (.int .i64 (lockH h.l o).2) ∧ Next w h w' (lockH h.l o).1 := by
 obtain ⟨hp, slv, L⟩ := h; obtain ⟨k, ex, N, a, l, s⟩ := o
 by_cases hE : findE (HS.l ⟨hp, slv, L⟩) ⟨k, ex, N, a, l, s⟩ ≠ 0
 · have hs : lockH (HS.l ⟨hp, slv, L⟩) ⟨k, ex, N, a, l, s⟩ = (HS.l ⟨hp, slv, L⟩, findE (HS.l ⟨hp, slv, L⟩) ⟨k, ex, N, a, l, s⟩) := by simp [lockH, hE]
   rw [hs]
   have hb : (findE (HS.l ⟨hp, slv, L⟩) ⟨k, ex, N, a, l, s⟩ != 0) = true := by simpa using hE
   have FB := fun w' (H' : HeapRep w' ⟨hp, slv, L⟩) => find_bad ⟨hp, slv, L⟩ ⟨k, ex, N, a, l, s⟩ w' H' hE; generalize findE (HS.l ⟨hp, slv, L⟩) ⟨k, ex, N, a, l, s⟩ = fe at *; go_enter Tryz.func39, Tryz.ntmps39
   go_wp2_with fail
   refine (FB _ (H.pure ((Chg.refl NoB w).alloc _))).mono ?_; rintro e w1 ⟨rfl, hb1⟩; have hB0 := hb1.blk (blk_new w _) id; have H1 := (H.pure ((Chg.refl NoB w).alloc _)).pure hb1; have XW := ((Chg.refl NoB w).alloc _).pure hb1; clear hb1; clear FB; go_wp2
   go_ret; refine ⟨rfl, Next.same H ?_⟩
   (repeat' (first | with_reducible assumption | with_reducible refine Chg.alloc ?_ _ | with_reducible refine Chg.drew ?_ | with_reducible refine Chg.drewN ?_ _ | with_reducible refine Chg.setCell ?_ (Or.inr ?_) _ | exact Nat.le_refl _ | exact Nat.le_add_right _ _ | (simp; done) | (simp; omega)))
 simp only [ne_eq, Decidable.not_not] at hE; obtain ⟨hn, hok, hx, hc, -⟩ := findE_good H hE; have FG := fun w' (H' : HeapRep w' ⟨hp, slv, L⟩) => find_good ⟨hp, slv, L⟩ ⟨k, ex, N, a, l, s⟩ w' H' hE hn; simp only at FG hn hc hx
 have hs : lockH (HS.l ⟨hp, slv, L⟩) ⟨k, ex, N, a, l, s⟩ = ((L.map PC.c).set N.toNat { L[N.toNat].c with locked := true }, 0) := by
  simp [lockH, hE, hc]
 rw [hs]; have NL := fun w' (X : Chg NoB w w') => Next.lock H X hn; clear hs hE hc hok; generalize lenOf L[N.toNat].c ⟨k, ex, N, a, l, s⟩ = z at *; generalize L[N.toNat] = x at *; generalize atOf ⟨k, ex, N, a, l, s⟩ = p at *; have HNL := Hid.mk' NL; clear NL
 by_cases ht : x.c.text = true
 · have hval : x.val = .agg #[.pointer none, ptr x.p] := by simp [PC.val, PC.ptrs, ht]
   rw [hval] at FG; clear hval; go_enter Tryz.func39, Tryz.ntmps39
   go_wp2_with fail
   refine (FG _ (H.pure ((Chg.refl NoB w).alloc _))).mono ?_; rintro e w1 ⟨rfl, hb1⟩; have hB0 := hb1.blk (blk_new w _) id; have H1 := (H.pure ((Chg.refl NoB w).alloc _)).pure hb1; have XW := ((Chg.refl NoB w).alloc _).pure hb1; clear hb1; have hhd := (H1.cell x hx).head.1 ht; clear FG; have R := cells_of hhd; have l1 := blk_lt hhd; go_wp2_with fail
   refine (headlock x.p (.bool x.c.locked) _ (by simp [go_sem, l1, R]) (by simp [go_sem, l1, free_of hhd])).mono ?_; rintro e w2 ⟨rfl, rfl⟩; go_wp2
   go_ret; refine ⟨rfl, Next.pure (w' := w1.setCell ⟨x.p, 0, none⟩ (.bool true)) ?_ ((Chg.refl _ _).alloc _)⟩; have := HNL.out _ XW
   first | exact this | (simp only [ht] at this; exact this)
 · have htf : x.c.text = false := by simpa using ht
   have hval : x.val = .agg #[ptr x.p, .pointer none] := by simp [PC.val, PC.ptrs, htf]
   rw [hval] at FG; clear hval; go_enter Tryz.func39, Tryz.ntmps39
   go_wp2_with fail
   refine (FG _ (H.pure ((Chg.refl NoB w).alloc _))).mono ?_; rintro e w1 ⟨rfl, hb1⟩; have hB0 := hb1.blk (blk_new w _) id; have H1 := (H.pure ((Chg.refl NoB w).alloc _)).pure hb1; have XW := ((Chg.refl NoB w).alloc _).pure hb1; clear hb1; have hhd := (H1.cell x hx).head.2 htf; clear FG; have R := cells_of hhd; have l1 := blk_lt hhd; go_wp2_with fail
   refine (headlock x.p (.bool x.c.locked) _ (by simp [go_sem, l1, R]) (by simp [go_sem, l1, free_of hhd])).mono ?_; rintro e w2 ⟨rfl, rfl⟩; go_wp2
   go_ret; refine ⟨rfl, Next.pure (w' := w1.setCell ⟨x.p, 0, none⟩ (.bool true)) ?_ ((Chg.refl _ _).alloc _)⟩; have := HNL.out _ XW
   first | exact this | (simp only [htf] at this; exact this)
theorem loadCells_bytes (P : Program) (w : World) (a : Addr) (bs : List UInt8) (h : ∀ i (hi : i < bs.length), w.cell? (a.add i) = some (vu8 bs[i])) :
 (loadCells a bs.length).run P w = .ok (bs.map vu8).toArray w := by
 have key : ∀ (n i : Nat) (acc : Array Value), i + n = bs.length → (loadCellsFrom a i n acc).run P w = .ok (acc ++ ((bs.drop i).map vu8).toArray) w := by
  intro n
  induction n with
  | zero => intro i acc hi; simp [loadCellsFrom, show bs.drop i = [] from List.drop_eq_nil_of_le (by omega)]
  | succ n ih =>
   intro i acc hi
   have hlt : i < bs.length := by omega
   simp only [loadCellsFrom, Sem.run_bind, run_load, h i hlt, Result.andThen_ok]; rw [ih (i + 1) _ (by omega), List.drop_eq_getElem_cons hlt]; refine congrArg (fun x => Result.ok x w) ?_; apply Array.ext'
   simp only [Array.toList_append, Array.toList_push, List.append_assoc, List.singleton_append, List.map_cons]
 have := key bs.length 0 #[] (by omega)
 simpa [loadCells] using this
theorem forIn_push (P : Program) (w : World) (f : Value → ByteArray → Sem (ForInStep ByteArray)) (hf : ∀ n s, f (.int .u8 n) s = pure (.yield (s.push (UInt8.ofNat n.toNat)))) :
 ∀ (l acc : List UInt8), (forIn (m := Sem) (l.map vu8) (⟨acc.toArray⟩ : ByteArray) f).run P w = .ok ⟨(acc ++ l).toArray⟩ w
 | [], acc => by simp
 | b :: l, acc => by
  simp only [List.map_cons, List.forIn_cons, hf, Sem.run_bind, Sem.run_pure, Result.andThen_ok]
  have e : (⟨acc.toArray⟩ : ByteArray).push (UInt8.ofNat ((b.toNat : Int)).toNat) = ⟨(acc ++ [b]).toArray⟩ := by
   simp [ByteArray.push]
  rw [e, forIn_push P w f hf l (acc ++ [b])]; simp
theorem bytesToString_run (P : Program) (w : World) (a : Addr) (bs : List UInt8) (c : Nat) (h : ∀ i (hi : i < bs.length), w.cell? (a.add i) = some (vu8 bs[i])) :
 (Conv.bytesToString (.slice (some a) bs.length c)).run P w = .ok (.string ⟨bs.toArray⟩) w := by
 have hl := loadCells_bytes P w a bs h; simp only [Conv.bytesToString, Sem.run_bind, hl, Result.andThen_ok, List.forIn_toArray]; have e0 : (ByteArray.empty : ByteArray) = ⟨([] : List UInt8).toArray⟩ := rfl; rw [e0]; have hk := fun f hf => forIn_push P w f hf bs []; simp only [List.nil_append] at hk; refine (congrArg (fun r => Result.andThen r fun a w' => (Pure.pure (Value.string a) : Sem Value).run P w') (hk _ (fun n s => rfl))).trans ?_; simp
theorem sizeOf_byte (w : World) : (sizeOf 5).run Tryz.prog w = .ok 1 w := by kernel_rfl
theorem sizeOf_obj (w : World) : (sizeOf 49).run Tryz.prog w = .ok 6 w := by kernel_rfl
theorem Tryz.elemBytes : Tryz.prog.elem 59 = 5 := by kernel_rfl
theorem Tryz.elemObjs : Tryz.prog.elem 44 = 49 := by kernel_rfl
theorem add_add (g i j : Nat) : ((⟨g, 0, none⟩ : Addr).add i).add j = ⟨g, i + j, none⟩ := by
 unfold Addr.add; split <;> split <;> simp_all
theorem add_one (g i : Nat) : (⟨g, 0, none⟩ : Addr).add i = ⟨g, i, none⟩ := by
 unfold Addr.add; split <;> simp_all
theorem run_conv_bytes (w : World) (x : Value) (h : ∃ a n c, x = .slice a n c) : (convert 59 9 x).run Tryz.prog w = (Conv.bytesToString x).run Tryz.prog w := by
 obtain ⟨a, n, c, rfl⟩ := h
 cases a <;> simp only [convert, Sem.run_bind, run_underlying Tryz.underStr, run_underlying Tryz.underBytes, run_underlying Tryz.underByte, Result.andThen_ok]
theorem cut_bytes {w1 : World} {v : Value} {bs : List UInt8} (h : Row w1 5 1 v bs.length (bs.map vu8)) (p z : Int) (hp : 0 ≤ p) (hz : 0 ≤ z) (hpz : p + z ≤ bs.length) :
 ∃ A c', (∀ W, (Instr.slice 59 v (some (.int .i64 p)) (some (.int .i64 (p + z))) none).run Tryz.prog W = .ok (.slice A z.toNat c') W) ∧
  ∀ W, Chg NoB w1 W → (convert 59 9 (.slice A z.toNat c')).run Tryz.prog W = .ok (.string ⟨((bs.drop p.toNat).take z.toNat).toArray⟩) W := by
 have hzl : ((bs.drop p.toNat).take z.toNat).length = z.toNat := by simp; omega
 rcases h.2 with ⟨rfl, hn⟩ | ⟨g, cap, cur, fz, rfl, hcur, hfz, hnc, hcm, hcs, htk⟩
 · have hp0 : p = 0 := by omega
   have hz0 : z = 0 := by omega
   subst hp0; subst hz0; refine ⟨none, 0, fun W => ?_, fun W _ => ?_⟩
   · rw [run_slice_lh (w := W) 59 none 0 0 (by rw [Tryz.elemBytes]; exact Tryz.underBytes) .i64 .i64 0 (0 + 0) (by omega) (by omega) (by omega), Tryz.elemBytes, sizeOf_byte]; simp [sliced]
   · rw [run_conv_bytes W _ ⟨_, _, _, rfl⟩]; simp [Conv.bytesToString]; rfl
 · refine ⟨if cap = p.toNat then some ⟨g, 0, none⟩ else some ((⟨g, 0, none⟩ : Addr).add p.toNat), cap - p.toNat, fun W => ?_, fun W hW => ?_⟩
   · rw [run_slice_lh (w := W) 59 (some ⟨g, 0, none⟩) _ cap (by rw [Tryz.elemBytes]; exact Tryz.underBytes) .i64 .i64 p (p + z) hp (by omega) (by omega), Tryz.elemBytes, sizeOf_byte]; simp only [Result.andThen_ok, sliced, Nat.mul_one, Option.map_some]; rw [show (p + z).toNat - p.toNat = z.toNat by omega]
   · have hc' := hW.blk hcur id
     have hcell : ∀ i, i < bs.length → W.cell? ⟨g, i, none⟩ = some (vu8 (bs.getD i 0)) := fun i hi => by
      rw [cells_of hc' i, ← Array.getElem?_toList]
      have : cur.toList[i]? = (cur.toList.take (bs.length * 1))[i]? := by rw [List.getElem?_take, if_pos (by omega)]
      rw [this, htk]; simp [hi]
     rw [run_conv_bytes W _ ⟨_, _, _, rfl⟩]
     by_cases hz0 : z = 0
     · subst hz0; have := fun a => bytesToString_run Tryz.prog W a [] (cap - p.toNat) (fun i hi => by simp at hi)
       split <;> simpa using this _
     · rw [if_neg (by omega)]
       have := bytesToString_run Tryz.prog W ((⟨g, 0, none⟩ : Addr).add p.toNat) ((bs.drop p.toNat).take z.toNat) (cap - p.toNat) (fun i hi => by
        rw [add_add, hcell _ (by omega)]
        have : p.toNat + i < bs.length := by omega
        simp [this])
       rw [hzl] at this; exact this
def bytesH (L : List C) (o : O) : ByteArray × Int :=
 if findE L o ≠ 0 then (⟨#[]⟩, findE L o) else match L[o.n.toNat]? with
  | none => (⟨#[]⟩, 0)
  | some c => if c.text then (⟨((c.bytes.drop (atOf o).toNat).take (lenOf c o).toNat).toArray⟩, 0) else (⟨#[]⟩, 6)
theorem PC.ok.textRow {x : PC} (h : x.ok w) (ht : x.c.text = true) : Row w 5 1 x.sl x.c.bytes.length (x.c.bytes.map vu8) := by
 unfold PC.ok at h; simp only [ht, if_true] at h; exact h.2.1
theorem PC.ok.itemRow {x : PC} (h : x.ok w) (ht : x.c.text = false) : Row w 49 6 x.sl x.c.items.length (x.c.items.flatMap O.cells) := by
 unfold PC.ok at h; simp only [ht, if_false, Bool.false_eq_true] at h; exact h.2.1
set_option maxHeartbeats 1000000 in
theorem bytes_any (h : HS) (o : O) (w : World) (H : HeapRep w h) :
 Calls Tryz.prog 89 #[ptr h.hp, o.val] w fun e w' => e = .returned (.tuple #[.string (bytesH h.l o).1, .int .i64 (bytesH h.l o).2]) ∧ Chg NoB w w' := by
 obtain ⟨hp, slv, L⟩ := h; obtain ⟨k, ex, N, a, l, s⟩ := o
 by_cases hE : findE (HS.l ⟨hp, slv, L⟩) ⟨k, ex, N, a, l, s⟩ ≠ 0
 · have hs : bytesH (HS.l ⟨hp, slv, L⟩) ⟨k, ex, N, a, l, s⟩ = (⟨#[]⟩, findE (HS.l ⟨hp, slv, L⟩) ⟨k, ex, N, a, l, s⟩) := by simp [bytesH, hE]
   rw [hs]
   have hb : (findE (HS.l ⟨hp, slv, L⟩) ⟨k, ex, N, a, l, s⟩ != 0) = true := by simpa using hE
   have FB := fun w' (H' : HeapRep w' ⟨hp, slv, L⟩) => find_bad ⟨hp, slv, L⟩ ⟨k, ex, N, a, l, s⟩ w' H' hE; generalize findE (HS.l ⟨hp, slv, L⟩) ⟨k, ex, N, a, l, s⟩ = fe at *; go_enter Tryz.func89, Tryz.ntmps89
   go_wp2_with fail
   refine (FB _ (H.pure ((Chg.refl NoB w).alloc _))).mono ?_; rintro e w1 ⟨rfl, hb1⟩; have hB0 := hb1.blk (blk_new w _) id; have H1 := (H.pure ((Chg.refl NoB w).alloc _)).pure hb1; have XW := ((Chg.refl NoB w).alloc _).pure hb1; clear hb1; clear FB; go_wp2
   go_ret2
   refine ⟨rfl, ?_⟩
   (repeat' (first | with_reducible assumption | with_reducible refine Chg.alloc ?_ _ | with_reducible refine Chg.drew ?_ | with_reducible refine Chg.drewN ?_ _ | with_reducible refine Chg.setCell ?_ (Or.inr ?_) _ | exact Nat.le_refl _ | exact Nat.le_add_right _ _ | (simp; done) | (simp; omega)))
 simp only [ne_eq, Decidable.not_not] at hE; obtain ⟨hn, hok, hx, hc, hk, hat, hle, hsz, -⟩ := findE_good H hE; have hsm := cell_small H hx; have FG := fun w' (H' : HeapRep w' ⟨hp, slv, L⟩) => find_good ⟨hp, slv, L⟩ ⟨k, ex, N, a, l, s⟩ w' H' hE hn; simp only at FG hn hc hx hat hle hsz hsm
 have hs : bytesH (HS.l ⟨hp, slv, L⟩) ⟨k, ex, N, a, l, s⟩ = (if L[N.toNat].c.text then (⟨((L[N.toNat].c.bytes.drop (atOf ⟨k, ex, N, a, l, s⟩).toNat).take (lenOf L[N.toNat].c ⟨k, ex, N, a, l, s⟩).toNat).toArray⟩, 0) else (⟨#[]⟩, 6)) := by
  simp [bytesH, hE, hc]
 rw [hs]; clear hs hE hc hok hk; generalize lenOf L[N.toNat].c ⟨k, ex, N, a, l, s⟩ = z at *; generalize L[N.toNat] = x at *; generalize atOf ⟨k, ex, N, a, l, s⟩ = p at *
 by_cases ht : x.c.text = true
 · rw [if_pos ht]
   have hval : x.val = .agg #[.pointer none, ptr x.p] := by simp [PC.val, PC.ptrs, ht]
   rw [hval] at FG; clear hval; have hA : IntKind.i64.wrap (p + z) = p + z := IntWalk.i64_in _ (by omega)
   have hsz2 : p + z ≤ (x.c.bytes.length : Int) := by simpa [C.size, ht] using hsz
   obtain ⟨b, hb⟩ : ∃ b : ByteArray, b = ⟨((x.c.bytes.drop p.toNat).take z.toNat).toArray⟩ := ⟨_, rfl⟩
   rw [← hb]; go_enter Tryz.func89, Tryz.ntmps89
   go_wp2_with fail
   refine (FG _ (H.pure ((Chg.refl NoB w).alloc _))).mono ?_; rintro e w1 ⟨rfl, hb1⟩; have hB0 := hb1.blk (blk_new w _) id; have H1 := (H.pure ((Chg.refl NoB w).alloc _)).pure hb1; have XW := ((Chg.refl NoB w).alloc _).pure hb1; clear hb1; have hok1 := H1.cell x hx; have hhd := hok1.head.1 ht; obtain ⟨A, c', e1, e2⟩ := cut_bytes (hok1.textRow ht) p z hat hle hsz2; rw [← hb] at e2; clear FG hb; have Rx := Chg.cells (S := NoB) hhd id; have lx := blk_lt hhd; have X := Chg.refl NoB w1; go_wp2
   go_ret2
   refine ⟨rfl, ?_⟩
   (repeat' (first | with_reducible assumption | with_reducible refine Chg.alloc ?_ _ | with_reducible refine Chg.drew ?_ | with_reducible refine Chg.drewN ?_ _ | with_reducible refine Chg.setCell ?_ (Or.inr ?_) _ | exact Nat.le_refl _ | exact Nat.le_add_right _ _ | (simp; done) | (simp; omega)))
 · have htf : x.c.text = false := by simpa using ht
   rw [if_neg ht]
   have hval : x.val = .agg #[ptr x.p, .pointer none] := by simp [PC.val, PC.ptrs, htf]
   rw [hval] at FG; clear hval; go_enter Tryz.func89, Tryz.ntmps89
   go_wp2_with fail
   refine (FG _ (H.pure ((Chg.refl NoB w).alloc _))).mono ?_; rintro e w1 ⟨rfl, hb1⟩; have hB0 := hb1.blk (blk_new w _) id; have H1 := (H.pure ((Chg.refl NoB w).alloc _)).pure hb1; have XW := ((Chg.refl NoB w).alloc _).pure hb1; clear hb1; clear FG; go_wp2
   go_ret2
   refine ⟨rfl, ?_⟩
   (repeat' (first | with_reducible assumption | with_reducible refine Chg.alloc ?_ _ | with_reducible refine Chg.drew ?_ | with_reducible refine Chg.drewN ?_ _ | with_reducible refine Chg.setCell ?_ (Or.inr ?_) _ | exact Nat.le_refl _ | exact Nat.le_add_right _ _ | (simp; done) | (simp; omega)))
end Go.Proofs.YtpiomapnmempoaaGreat
