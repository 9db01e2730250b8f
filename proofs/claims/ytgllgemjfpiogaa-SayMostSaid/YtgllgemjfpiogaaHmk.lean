/- Walks: New, Array, String, Dict of a heap. -/
import Derived.Test.YtgllgemjfpiogaaHadd
import Derived.Test.YtgllgemjfpiogaaHnul
import Derived.Test.YtgllgemjfpiogaaStr
namespace Go.Proofs.Ytgllgemjfpiogaa
open Go.RowKit

theorem new_any (w : World) :
   Calls Try.prog 10 #[] w fun e w' => e = .returned (ptr w.heap.size) ∧ w' = w.alloc (.cells #[.slice none 0 0, .int .i64 0] 74) := by
  go_enter Try.func10, Try.ntmps10
  go_wp2
  go_ret
  exact ⟨rfl, rfl⟩
/-- A new heap is an empty one. -/
theorem HeapRep.new (w : World) : HeapRep (w.alloc (.cells #[.slice none 0 0, .int .i64 0] 74)) ⟨w.heap.size, .slice none 0 0, []⟩ where
  head := blk_new w _
  own := World.ownsRow_nil _ _ _ _
  cell := fun x hx => by simp at hx
  apart := by simp [HS.foot, Value.ownBlock]
  most := by simp
  room := by simp [used]

theorem Next.of_add {w w1 w2 : World} {h : HS} {x : PC} (H : HeapRep w h) (X1 : Chg NoB w w1) (hx : ∀ b ∈ x.foot, w.heap.size < b ∧ b < w1.heap.size) (h1 : w.heap.size < w1.heap.size)
    (hP : ∃ h' : HS, h'.hp = h.hp ∧ h'.L = h.L ++ [x] ∧ HeapRep w2 h' ∧ Chg (· ∈ h.foot) w1 w2 ∧ ∀ b ∈ h'.foot, b ∈ h.foot ∨ b ∈ x.foot ∨ w1.heap.size ≤ b) :
    ∀ W, Chg (· = w.heap.size) w2 W → Next w h W (h.l ++ [x.c]) := by
  obtain ⟨h', e1, e2, H2, X2, F⟩ := hP
  intro W hW
  have hlt := H.lt
  refine ⟨h', e1, by simp [HS.l, e2], H2.chg hW (fun b hb e => ?_), ((X1.mono (fun _ _ e => e.elim)).trans X2).trans' hW (fun i hi e => by omega), fun b hb => ?_⟩
  · rcases F b hb with q | q | q
    · have := hlt b q; omega
    · have := (hx b q).1; omega
    · omega
  · rcases F b hb with q | q | q
    · exact .inl q
    · exact .inr (by have := (hx b q).1; omega)
    · exact .inr (by omega)

/-- What Array, String, Dict answer, and leave. -/
def makeH (L : List C) (c : C) : List C × O × Int := if addE L c ≠ 0 then (L, O.nil, 5) else (L ++ [c], objOf L c, 0)
def arrayH (L : List C) (n : Int) : List C × O × Int :=
  if 40000 < n then (L, O.nil, 5) else if n < 0 then (L, O.nil, 2) else makeH L ⟨false, false, false, List.replicate n.toNat nullO, []⟩
def stringH (L : List C) (b : ByteArray) : List C × O × Int :=
  if 40000 < b.size then (L, O.nil, 5) else makeH L ⟨true, false, false, [], b.toList⟩
def dictH (L : List C) (n : Int) : List C × O × Int :=
  if n < 0 ∨ 1000 < n then (L, O.nil, 2) else makeH L ⟨false, true, false, ⟨3, false, 0, 0, 0, ⟨#[]⟩⟩ :: List.replicate (2 * n.toNat) nullO, []⟩

set_option maxHeartbeats 1000000 in
theorem array_any (h : HS) (n : Int) (w : World) (H : HeapRep w h) :
   Calls Try.prog 21 #[ptr h.hp, .int .i64 n] w fun e w' => e = .returned (.tuple #[(arrayH h.l n).2.1.val, .int .i64 (arrayH h.l n).2.2]) ∧ Next w h w' (arrayH h.l n).1 := by
  by_cases h1 : 40000 < n
  · have hs : arrayH h.l n = (h.l, O.nil, 5) := by simp [arrayH, h1]
    rw [hs]
    go_enter Try.func21, Try.ntmps21
    go_wp2
    refine bodyPost_ret (v := .tuple #[O.nil.val, .int .i64 5]) (by simp [results, Try.results21, go_sem, O.nil]) rfl ⟨rfl, Next.same H ?_⟩
    exact (Chg.refl _ _).alloc _
  by_cases h2 : n < 0
  · have hs : arrayH h.l n = (h.l, O.nil, 2) := by simp [arrayH, h1, h2]
    rw [hs]
    go_enter Try.func21, Try.ntmps21
    go_wp2
    refine bodyPost_ret (v := .tuple #[O.nil.val, .int .i64 2]) (by simp [results, Try.results21, go_sem, O.nil]) rfl ⟨rfl, Next.same H ?_⟩
    exact (Chg.refl _ _).alloc _
  obtain ⟨k, rfl⟩ := Int.eq_ofNat_of_zero_le (show 0 ≤ n by omega)
  have hk : k ≤ 40000 := by omega
  obtain ⟨c, hc⟩ : ∃ c : C, c = ⟨false, false, false, List.replicate k nullO, []⟩ := ⟨_, rfl⟩
  have hs : arrayH h.l k = makeH h.l c := by rw [hc]; simp [arrayH, h1, h2]
  rw [hs]
  have HC := Hid.mk' hc
  clear hs hc
  go_enter Try.func21, Try.ntmps21
  go_wp2_with fail
  refine (nulls_any k (by omega) _).mono ?_
  rintro e w1 ⟨rfl, hb1, cur, hcur, hl⟩
  have hB0 := hb1.blk (blk_new w _) id
  have XW := ((Chg.refl NoB w).alloc _).pure hb1
  have lT := blk_lt hB0
  have lc := blk_lt hcur
  simp only [World.size_alloc] at lc
  have hcs : cur.size = k * 6 := by have := congrArg List.length hl; rw [flat_length O.cells 6 cells_length] at this; simpa using this
  have hok : ∀ W, Chg NoB w1 W → ∀ p, W.heap[p]? = some (.cells #[.bool false, .bool false, .slice (some ⟨w.heap.size + 1, 0, none⟩) k k] 100 (0, 0)) → PC.ok W ⟨p, .slice (some ⟨w.heap.size + 1, 0, none⟩) k k, c⟩ := fun W hW p hp => by
    rw [HC.out]
    unfold PC.ok
    simp only [if_false, Bool.false_eq_true]
    refine ⟨hp, ?_, trivial⟩
    have hcur' := hW.blk hcur id
    simp only [World.size_alloc] at hcur'
    refine ⟨by rw [flat_length O.cells 6 cells_length], .inr ⟨_, k, cur, _, by simp, hcur', .inl rfl, by simp, by unfold maxLen; omega, hcs, ?_⟩⟩
    rw [hl]
    rw [List.take_of_length_le]
    rw [flat_length O.cells 6 cells_length]; simp
  have HOK := Hid.mk' hok
  clear hok hcs hl
  have H1 := (H.pure ((Chg.refl NoB w).alloc _)).pure hb1
  go_wp2_with fail
  have XA := (Chg.refl NoB w1).alloc (.cells #[.bool false, .bool false, .slice (some ⟨w.heap.size + 1, 0, none⟩) k k] 100)
  have hpn := blk_new w1 (.cells #[.bool false, .bool false, .slice (some ⟨w.heap.size + 1, 0, none⟩) k k] 100)
  have hB0a := XA.blk hB0 id
  have HA := H1.pure XA
  have HX := HOK.out _ XA _ hpn
  have XWA := XW.trans XA
  have lA : w1.heap.size < (w1.alloc (.cells #[.bool false, .bool false, .slice (some ⟨w.heap.size + 1, 0, none⟩) k k] 100)).heap.size := by simp
  have lA0 : w.heap.size < (w1.alloc (.cells #[.bool false, .bool false, .slice (some ⟨w.heap.size + 1, 0, none⟩) k k] 100)).heap.size := Nat.lt_trans lT lA
  have hlt := H.lt
  by_cases hA : addE h.l c = 0
  · have hmk : makeH h.l c = (h.l ++ [c], objOf h.l c, 0) := by simp [makeH, hA]
    have HM := Hid.mk' hmk
    clear hmk
    have hf : PC.foot ⟨w1.heap.size, .slice (some ⟨w.heap.size + 1, 0, none⟩) k k, c⟩ = [w1.heap.size, w.heap.size + 1] := rfl
    have KA := add_ok h ⟨w1.heap.size, .slice (some ⟨w.heap.size + 1, 0, none⟩) k k, c⟩ _ HA HX hA (by rw [hf]; simp <;> omega) (fun b hb hb' => by rw [hf] at hb; have := hlt b hb'; simp at hb; omega)
    rw [show PC.val ⟨w1.heap.size, .slice (some ⟨w.heap.size + 1, 0, none⟩) k k, c⟩ = .agg #[ptr w1.heap.size, .pointer none] by rw [HC.out]; rfl] at KA
    refine KA.mono ?_
    rintro e w2 ⟨rfl, hP⟩
    have FN := Hid.mk' (Next.of_add H XWA (fun b hb => by rw [hf] at hb; simp at hb ⊢; omega) lA0 hP)
    obtain ⟨h', -, -, -, X2, -⟩ := hP
    have hB2 := X2.blk hB0a (fun hb => by have := hlt _ hb; omega)
    clear X2 KA HX HA H1 hpn hB0a hB0 XA
    generalize hoe : objOf h.l c = oo at *
    have l2 := blk_lt hB2
    have R2 := cells_of hB2
    have Z2 := free_of hB2
    clear lA lA0 HOK
    go_wp2
    refine bodyPost_ret (v := .tuple #[oo.val, .int .i64 0]) (by simp [results, Try.results21, go_sem, R2, cell_set_at]) rfl ⟨by rw [HM.out], ?_⟩
    rw [HM.out]
    refine FN.out _ ?_
    have X2 := Chg.refl (fun b => b = w.heap.size) w2
    exact (((((X2.setCell (.inl rfl) _).setCell (.inl rfl) _).setCell (.inl rfl) _).setCell (.inl rfl) _).setCell (.inl rfl) _).setCell (.inl rfl) _
  · have hmk : makeH h.l c = (h.l, O.nil, 5) := by simp [makeH, hA]
    have HM := Hid.mk' hmk
    clear hmk
    have KA := add_full h ⟨w1.heap.size, .slice (some ⟨w.heap.size + 1, 0, none⟩) k k, c⟩ _ HA HX hA
    rw [show PC.val ⟨w1.heap.size, .slice (some ⟨w.heap.size + 1, 0, none⟩) k k, c⟩ = .agg #[ptr w1.heap.size, .pointer none] by rw [HC.out]; rfl] at KA
    refine KA.mono ?_
    rintro e w2 ⟨rfl, hb2⟩
    have hB2 := hb2.blk hB0a id
    have X2 := XWA.trans hb2
    clear KA HX HA H1 hpn hB0a hB0 XA hb2
    have l2 := blk_lt hB2
    have R2 := cells_of hB2
    have Z2 := free_of hB2
    clear lA lA0 HOK
    go_wp2
    refine bodyPost_ret (v := .tuple #[O.nil.val, .int .i64 5]) (by simp [results, Try.results21, go_sem, R2, cell_set_at, O.nil]) rfl ⟨by rw [HM.out], ?_⟩
    rw [HM.out]
    refine Next.same H ?_
    (repeat' (first | with_reducible assumption | with_reducible refine Chg.alloc ?_ _ | with_reducible refine Chg.drew ?_ | with_reducible refine Chg.drewN ?_ _ | with_reducible refine Chg.setCell ?_ (Or.inr ?_) _ | exact Nat.le_refl _ | exact Nat.le_add_right _ _ | (simp; done) | (simp; omega)))

set_option maxHeartbeats 1000000 in
theorem string_any (h : HS) (s : ByteArray) (w : World) (H : HeapRep w h) :
   Calls Try.prog 18 #[ptr h.hp, .string s] w fun e w' => e = .returned (.tuple #[(stringH h.l s).2.1.val, .int .i64 (stringH h.l s).2.2]) ∧ Next w h w' (stringH h.l s).1 := by
  by_cases h1 : 40000 < s.size
  · have hs : stringH h.l s = (h.l, O.nil, 5) := by simp [stringH, h1]
    rw [hs]
    have h1' : (40000 : Int) < (s.size : Int) := by omega
    go_enter Try.func18, Try.ntmps18
    go_wp2
    refine bodyPost_ret (v := .tuple #[O.nil.val, .int .i64 5]) (by simp [results, Try.results18, go_sem, O.nil]) rfl ⟨rfl, Next.same H ?_⟩
    exact (Chg.refl _ _).alloc _
  have hk : (s.size : Int) ≤ 40000 := by omega
  have hcv := fun W => run_str_bytes s W
  obtain ⟨c, hc⟩ : ∃ c : C, c = ⟨true, false, false, [], s.toList⟩ := ⟨_, rfl⟩
  have hs : stringH h.l s = makeH h.l c := by rw [hc]; simp [stringH, h1]
  rw [hs]
  have HC := Hid.mk' hc
  clear hs hc
  go_enter Try.func18, Try.ntmps18
  go_wp2_with fail
  generalize hw1 : strW _ s = w1
  generalize hcap : strCap _ s = cap
  have XW : Chg NoB w w1 := by rw [← hw1]; exact ((Chg.refl NoB w).alloc _).pure (strW_chg _ s)
  have hsz : w1.heap.size = w.heap.size + 1 + 1 := by rw [← hw1]; simp [strW_size]
  have hB0 : w1.heap[w.heap.size]? = some (.cells #[.int .i64 0, .bool false, .int .i64 0, .int .i64 0, .int .i64 0, .string ⟨#[]⟩] 28 (0, 0)) := by rw [← hw1]; exact (strW_chg _ s).blk (blk_new w _) id
  have hrow : ∀ W, Chg NoB w1 W → Row W 5 1 (.slice (some ⟨w.heap.size + 1, 0, none⟩) s.size cap) s.size (s.toList.map vu8) := by
    rw [← hw1, ← hcap]
    intro W hW
    have := strW_row (by omega) hW
    simpa using this
  clear hw1 hcap hcv
  have hsl : s.toList.length = s.size := by rw [ByteArray.toList_eq]; rfl
  have hok : ∀ W, Chg NoB w1 W → ∀ p, W.heap[p]? = some (.cells #[.bool false, .slice (some ⟨w.heap.size + 1, 0, none⟩) s.size cap] 91 (0, 0)) → PC.ok W ⟨p, .slice (some ⟨w.heap.size + 1, 0, none⟩) s.size cap, c⟩ := fun W hW p hp => by
    rw [HC.out]
    unfold PC.ok
    simp only [if_true]
    refine ⟨hp, ?_, trivial⟩
    rw [hsl]; exact hrow W hW
  have HOK := Hid.mk' hok
  have hsz' : Hid (w1.heap.size = w.heap.size + 1 + 1) := hsz
  have lT : w.heap.size < w1.heap.size := by omega
  have HSZ : Hid (w1.heap.size = w.heap.size + 1 + 1) := hsz
  clear hok hrow hsl hsz'
  have H1 := H.pure XW
  have XA := (Chg.refl NoB w1).alloc (.cells #[.bool false, .slice (some ⟨w.heap.size + 1, 0, none⟩) s.size cap] 91)
  have hpn : (w1.alloc (.cells #[.bool false, .slice (some ⟨w.heap.size + 1, 0, none⟩) s.size cap] 91)).heap[w.heap.size + 1 + 1]? = some (.cells #[.bool false, .slice (some ⟨w.heap.size + 1, 0, none⟩) s.size cap] 91 (0, 0)) := by
    rw [← hsz]; exact blk_new w1 (.cells #[.bool false, .slice (some ⟨w.heap.size + 1, 0, none⟩) s.size cap] 91)
  have hB0a := XA.blk hB0 id
  have HA := H1.pure XA
  have HX := HOK.out _ XA _ hpn
  have XWA := XW.trans XA
  have lA : w.heap.size + 1 + 1 < (w1.alloc (.cells #[.bool false, .slice (some ⟨w.heap.size + 1, 0, none⟩) s.size cap] 91)).heap.size := by simp [hsz]
  have lA0 : w.heap.size < (w1.alloc (.cells #[.bool false, .slice (some ⟨w.heap.size + 1, 0, none⟩) s.size cap] 91)).heap.size := by simp; omega
  have hlt := H.lt
  by_cases hA : addE h.l c = 0
  · have hmk : makeH h.l c = (h.l ++ [c], objOf h.l c, 0) := by simp [makeH, hA]
    have HM := Hid.mk' hmk
    clear hmk
    have hf : PC.foot ⟨w.heap.size + 1 + 1, .slice (some ⟨w.heap.size + 1, 0, none⟩) s.size cap, c⟩ = [w.heap.size + 1 + 1, w.heap.size + 1] := rfl
    have KA := add_ok h ⟨w.heap.size + 1 + 1, .slice (some ⟨w.heap.size + 1, 0, none⟩) s.size cap, c⟩ _ HA HX hA (by rw [hf]; simp <;> omega) (fun b hb hb' => by rw [hf] at hb; have := hlt b hb'; simp at hb; omega)
    rw [show PC.val ⟨w.heap.size + 1 + 1, .slice (some ⟨w.heap.size + 1, 0, none⟩) s.size cap, c⟩ = .agg #[.pointer none, ptr (w.heap.size + 1 + 1)] by rw [HC.out]; rfl] at KA
    refine KA.mono ?_
    rintro e w2 ⟨rfl, hP⟩
    have FN := Hid.mk' (Next.of_add H XWA (fun b hb => by rw [hf] at hb; simp at hb ⊢; omega) lA0 hP)
    obtain ⟨h', -, -, -, X2, -⟩ := hP
    have hB2 := X2.blk hB0a (fun hb => by have := hlt _ hb; omega)
    clear X2 KA HX HA H1 hpn hB0a hB0 XA
    generalize hoe : objOf h.l c = oo at *
    have l2 := blk_lt hB2
    have R2 := cells_of hB2
    have Z2 := free_of hB2
    clear lA lA0 HOK
    go_wp2
    refine bodyPost_ret (v := .tuple #[oo.val, .int .i64 0]) (by simp [results, Try.results18, go_sem, R2, cell_set_at]) rfl ⟨by rw [HM.out], ?_⟩
    rw [HM.out]
    refine FN.out _ ?_
    have X2 := Chg.refl (fun b => b = w.heap.size) w2
    exact (((((X2.setCell (.inl rfl) _).setCell (.inl rfl) _).setCell (.inl rfl) _).setCell (.inl rfl) _).setCell (.inl rfl) _).setCell (.inl rfl) _
  · have hmk : makeH h.l c = (h.l, O.nil, 5) := by simp [makeH, hA]
    have HM := Hid.mk' hmk
    clear hmk
    have KA := add_full h ⟨w.heap.size + 1 + 1, .slice (some ⟨w.heap.size + 1, 0, none⟩) s.size cap, c⟩ _ HA HX hA
    rw [show PC.val ⟨w.heap.size + 1 + 1, .slice (some ⟨w.heap.size + 1, 0, none⟩) s.size cap, c⟩ = .agg #[.pointer none, ptr (w.heap.size + 1 + 1)] by rw [HC.out]; rfl] at KA
    refine KA.mono ?_
    rintro e w2 ⟨rfl, hb2⟩
    have hB2 := hb2.blk hB0a id
    have X2 := XWA.trans hb2
    clear KA HX HA H1 hpn hB0a hB0 XA hb2
    have l2 := blk_lt hB2
    have R2 := cells_of hB2
    have Z2 := free_of hB2
    clear lA lA0 HOK
    go_wp2
    refine bodyPost_ret (v := .tuple #[O.nil.val, .int .i64 5]) (by simp [results, Try.results18, go_sem, R2, cell_set_at, O.nil]) rfl ⟨by rw [HM.out], ?_⟩
    rw [HM.out]
    refine Next.same H ?_
    (repeat' (first | with_reducible assumption | with_reducible refine Chg.alloc ?_ _ | with_reducible refine Chg.drew ?_ | with_reducible refine Chg.drewN ?_ _ | with_reducible refine Chg.setCell ?_ (Or.inr ?_) _ | exact Nat.le_refl _ | exact Nat.le_add_right _ _ | (simp; done) | (simp; omega)))

set_option maxHeartbeats 2000000 in
theorem hdict_any (h : HS) (n : Int) (w : World) (H : HeapRep w h) :
   Calls Try.prog 36 #[ptr h.hp, .int .i64 n] w fun e w' => e = .returned (.tuple #[(dictH h.l n).2.1.val, .int .i64 (dictH h.l n).2.2]) ∧ Next w h w' (dictH h.l n).1 := by
  by_cases h1 : n < 0
  · have hs : dictH h.l n = (h.l, O.nil, 2) := by simp [dictH, h1]
    rw [hs]
    go_enter Try.func36, Try.ntmps36
    go_wp2
    refine bodyPost_ret (v := .tuple #[O.nil.val, .int .i64 2]) (by simp [results, Try.results36, go_sem, O.nil]) rfl ⟨rfl, Next.same H ?_⟩
    exact (Chg.refl _ _).alloc _
  by_cases h2 : 1000 < n
  · have hs : dictH h.l n = (h.l, O.nil, 2) := by simp [dictH, h2]
    rw [hs]
    go_enter Try.func36, Try.ntmps36
    go_wp2
    refine bodyPost_ret (v := .tuple #[O.nil.val, .int .i64 2]) (by simp [results, Try.results36, go_sem, O.nil]) rfl ⟨rfl, Next.same H ?_⟩
    exact (Chg.refl _ _).alloc _
  obtain ⟨k, rfl⟩ := Int.eq_ofNat_of_zero_le (show 0 ≤ n by omega)
  have hk : k ≤ 1000 := by omega
  obtain ⟨c, hc⟩ : ∃ c : C, c = ⟨false, true, false, ⟨3, false, 0, 0, 0, ⟨#[]⟩⟩ :: List.replicate (2 * k) nullO, []⟩ := ⟨_, rfl⟩
  have hs : dictH h.l k = makeH h.l c := by rw [hc]; simp [dictH, h1, h2]
  rw [hs]
  have HC := Hid.mk' hc
  clear hs hc
  have hA1 : IntKind.i64.wrap (2 * (k : Int)) = 2 * (k : Int) := IntWalk.i64_in _ (by omega)
  have hA2 : IntKind.i64.wrap (2 * (k : Int) + 1) = 2 * (k : Int) + 1 := IntWalk.i64_in _ (by omega)
  go_enter Try.func36, Try.ntmps36
  go_wp2_with fail
  have hN := nulls_any (2 * k + 1) (by omega) (w.alloc (.cells #[.int .i64 0, .bool false, .int .i64 0, .int .i64 0, .int .i64 0, .string ⟨#[]⟩] 28))
  simp only [Int.natCast_add, Int.natCast_mul, Int.cast_ofNat_Int, World.size_alloc] at hN
  refine hN.mono ?_
  rintro e w1 ⟨rfl, hb1, cur, hcur, hl⟩
  clear hN
  have hB0 := hb1.blk (blk_new w _) id
  have XW := ((Chg.refl NoB w).alloc _).pure hb1
  have lT := blk_lt hB0
  have lc := blk_lt hcur
  have hcs : cur.size = (2 * k + 1) * 6 := by have := congrArg List.length hl; rw [flat_length O.cells 6 cells_length] at this; simpa using this
  have hl' : cur.toList = O.cells nullO ++ (List.replicate (2 * k) nullO).flatMap O.cells := by rw [hl, List.replicate_succ, List.flatMap_cons]
  have yy : ∀ i, i < 6 → cur[i]? = nullO.cells[i]? := fun i hi => by
    rw [← Array.getElem?_toList, hl', List.getElem?_append_left (by rw [cells_length]; exact hi)]
  have y0 := yy 0 (by omega)
  have y1 := yy 1 (by omega)
  have y2 := yy 2 (by omega)
  have y3 := yy 3 (by omega)
  have y4 := yy 4 (by omega)
  have y5 := yy 5 (by omega)
  simp only [O.cells, nullO, List.getElem?_cons_zero, List.getElem?_cons_succ] at y0 y1 y2 y3 y4 y5
  have hrow1 : Row w1 28 6 (.slice (some ⟨w.heap.size + 1, 0, none⟩) (List.replicate (2 * k + 1) nullO).length (2 * k + 1)) (List.replicate (2 * k + 1) nullO).length ((List.replicate (2 * k + 1) nullO).flatMap O.cells) := by
    simp only [List.length_replicate]
    refine ⟨by rw [flat_length O.cells 6 cells_length]; simp, .inr ⟨_, 2 * k + 1, cur, _, rfl, hcur, .inl rfl, Nat.le_refl _, by unfold maxLen; omega, hcs, ?_⟩⟩
    rw [hl, List.take_of_length_le]
    rw [flat_length O.cells 6 cells_length]; simp
  have hrow2 := hrow1.set6 (j := 0) (by simp) ⟨3, false, 0, 0, 0, ⟨#[]⟩⟩
  simp only [List.replicate_succ, List.set_cons_zero, List.length_cons, List.length_replicate, Nat.zero_mul] at hrow2
  unfold put6 at hrow2
  have HR2 := Hid.mk' hrow2
  have R := cells_of hcur
  have Z := free_of hcur
  have HH := Hid.mk' H
  have XP : Chg NoB w (put6 w1 (w.heap.size + 1) 0 ⟨3, false, 0, 0, 0, ⟨#[]⟩⟩) := (((((XW.setCell (.inr (Nat.le_add_right _ _)) _).setCell (.inr (Nat.le_add_right _ _)) _).setCell (.inr (Nat.le_add_right _ _)) _).setCell (.inr (Nat.le_add_right _ _)) _).setCell (.inr (Nat.le_add_right _ _)) _).setCell (.inr (Nat.le_add_right _ _)) _
  have hB03 : (put6 w1 (w.heap.size + 1) 0 ⟨3, false, 0, 0, 0, ⟨#[]⟩⟩).heap[w.heap.size]? = _ := blk_set_other (blk_set_other (blk_set_other (blk_set_other (blk_set_other (blk_set_other hB0 (by simp) _) (by simp) _) (by simp) _) (by simp) _) (by simp) _) (by simp) _
  have lsz : (put6 w1 (w.heap.size + 1) 0 ⟨3, false, 0, 0, 0, ⟨#[]⟩⟩).heap.size = w1.heap.size := by simp
  unfold put6 at lsz XP hB03
  have HSZ := Hid.mk' lsz
  clear hl hl' yy hcs hrow1 hrow2 lsz
  go_wp2_with fail
  generalize hw3 : (((((w1.setCell ⟨w.heap.size + 1, 0, none⟩ (.int .i64 3)).setCell ⟨w.heap.size + 1, 0 + 1, none⟩ (.bool false)).setCell ⟨w.heap.size + 1, 0 + 2, none⟩ (.int .i64 0)).setCell ⟨w.heap.size + 1, 0 + 3, none⟩ (.int .i64 0)).setCell ⟨w.heap.size + 1, 0 + 4, none⟩ (.int .i64 0)).setCell ⟨w.heap.size + 1, 0 + 5, none⟩ (.string ⟨#[]⟩) = w3 at *
  have hsz3 := HSZ.out
  have lT3 : w.heap.size < w3.heap.size := by omega
  have lc3 : w.heap.size + 1 < w3.heap.size := by omega
  rw [← hsz3]
  have HR3 : Row w3 28 6 (.slice (some ⟨w.heap.size + 1, 0, none⟩) (2 * k + 1) (2 * k + 1)) (2 * k + 1) ((⟨3, false, 0, 0, 0, ⟨#[]⟩⟩ :: List.replicate (2 * k) nullO).flatMap O.cells) := HR2.out
  clear R Z y0 y1 y2 y3 y4 y5 hcur hw3 XW hB0 lT lc HSZ HR2 hsz3 hb1 HH hA1 hA2
  have hok : ∀ W, Chg NoB w3 W → ∀ p, W.heap[p]? = some (.cells #[.bool false, .bool true, .slice (some ⟨w.heap.size + 1, 0, none⟩) (2 * k + 1) (2 * k + 1)] 100 (0, 0)) → PC.ok W ⟨p, .slice (some ⟨w.heap.size + 1, 0, none⟩) (2 * k + 1) (2 * k + 1), c⟩ := fun W hW p hp => by
    rw [HC.out]
    unfold PC.ok
    simp only [if_false, Bool.false_eq_true, List.length_cons, List.length_replicate]
    exact ⟨hp, HR3.chg hW (fun _ _ e => e), trivial⟩
  have HOK := Hid.mk' hok
  clear hok HR3
  have XW := XP
  have hB0 := hB03
  have lT := lT3
  have lc := lc3
  clear XP hB03 lT3 lc3
  have H1 := H.pure XW
  have XA := (Chg.refl NoB w3).alloc (.cells #[.bool false, .bool true, .slice (some ⟨w.heap.size + 1, 0, none⟩) (2 * k + 1) (2 * k + 1)] 100)
  have hpn := blk_new w3 (.cells #[.bool false, .bool true, .slice (some ⟨w.heap.size + 1, 0, none⟩) (2 * k + 1) (2 * k + 1)] 100)
  have hB0a := XA.blk hB0 id
  have HA := H1.pure XA
  have HX := HOK.out _ XA _ hpn
  have XWA := XW.trans XA
  have lA : w3.heap.size < (w3.alloc (.cells #[.bool false, .bool true, .slice (some ⟨w.heap.size + 1, 0, none⟩) (2 * k + 1) (2 * k + 1)] 100)).heap.size := by simp
  have lA0 : w.heap.size < (w3.alloc (.cells #[.bool false, .bool true, .slice (some ⟨w.heap.size + 1, 0, none⟩) (2 * k + 1) (2 * k + 1)] 100)).heap.size := Nat.lt_trans lT lA
  have hlt := H.lt
  by_cases hA : addE h.l c = 0
  · have hmk : makeH h.l c = (h.l ++ [c], objOf h.l c, 0) := by simp [makeH, hA]
    have HM := Hid.mk' hmk
    clear hmk
    have hf : PC.foot ⟨w3.heap.size, .slice (some ⟨w.heap.size + 1, 0, none⟩) (2 * k + 1) (2 * k + 1), c⟩ = [w3.heap.size, w.heap.size + 1] := rfl
    have KA := add_ok h ⟨w3.heap.size, .slice (some ⟨w.heap.size + 1, 0, none⟩) (2 * k + 1) (2 * k + 1), c⟩ _ HA HX hA (by rw [hf]; simp <;> omega) (fun b hb hb' => by rw [hf] at hb; have := hlt b hb'; simp at hb; omega)
    rw [show PC.val ⟨w3.heap.size, .slice (some ⟨w.heap.size + 1, 0, none⟩) (2 * k + 1) (2 * k + 1), c⟩ = .agg #[ptr w3.heap.size, .pointer none] by rw [HC.out]; rfl] at KA
    refine KA.mono ?_
    rintro e w2 ⟨rfl, hP⟩
    have FN := Hid.mk' (Next.of_add H XWA (fun b hb => by rw [hf] at hb; simp at hb ⊢; omega) lA0 hP)
    obtain ⟨h', -, -, -, X2, -⟩ := hP
    have hB2 := X2.blk hB0a (fun hb => by have := hlt _ hb; omega)
    clear X2 KA HX HA H1 hpn hB0a hB0 XA
    generalize hoe : objOf h.l c = oo at *
    have l2 := blk_lt hB2
    have R2 := cells_of hB2
    have Z2 := free_of hB2
    clear lA lA0 HOK
    go_wp2
    refine bodyPost_ret (v := .tuple #[oo.val, .int .i64 0]) (by simp [results, Try.results36, go_sem, R2, cell_set_at]) rfl ⟨by rw [HM.out], ?_⟩
    rw [HM.out]
    refine FN.out _ ?_
    have X2 := Chg.refl (fun b => b = w.heap.size) w2
    exact (((((X2.setCell (.inl rfl) _).setCell (.inl rfl) _).setCell (.inl rfl) _).setCell (.inl rfl) _).setCell (.inl rfl) _).setCell (.inl rfl) _
  · have hmk : makeH h.l c = (h.l, O.nil, 5) := by simp [makeH, hA]
    have HM := Hid.mk' hmk
    clear hmk
    have KA := add_full h ⟨w3.heap.size, .slice (some ⟨w.heap.size + 1, 0, none⟩) (2 * k + 1) (2 * k + 1), c⟩ _ HA HX hA
    rw [show PC.val ⟨w3.heap.size, .slice (some ⟨w.heap.size + 1, 0, none⟩) (2 * k + 1) (2 * k + 1), c⟩ = .agg #[ptr w3.heap.size, .pointer none] by rw [HC.out]; rfl] at KA
    refine KA.mono ?_
    rintro e w2 ⟨rfl, hb2⟩
    have hB2 := hb2.blk hB0a id
    have X2 := XWA.trans hb2
    clear KA HX HA H1 hpn hB0a hB0 XA hb2
    have l2 := blk_lt hB2
    have R2 := cells_of hB2
    have Z2 := free_of hB2
    clear lA lA0 HOK
    go_wp2
    refine bodyPost_ret (v := .tuple #[O.nil.val, .int .i64 5]) (by simp [results, Try.results36, go_sem, R2, cell_set_at, O.nil]) rfl ⟨by rw [HM.out], ?_⟩
    rw [HM.out]
    refine Next.same H ?_
    (repeat' (first | with_reducible assumption | with_reducible refine Chg.alloc ?_ _ | with_reducible refine Chg.drew ?_ | with_reducible refine Chg.drewN ?_ _ | with_reducible refine Chg.setCell ?_ (Or.inr ?_) _ | exact Nat.le_refl _ | exact Nat.le_add_right _ _ | (simp; done) | (simp; omega)))
end Go.Proofs.Ytgllgemjfpiogaa
