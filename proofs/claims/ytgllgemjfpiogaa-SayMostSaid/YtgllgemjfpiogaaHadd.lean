/- Walk: (*Heap).add. -/
import Derived.Test.YtgllgemjfpiogaaHset
import Derived.Maps.AppendAt
import Derived.Deep.AppendLies
import Derived.Deep.RegionLaw
import Derived.Deep.DeepCutAuto
namespace Go.Proofs.Ytgllgemjfpiogaa
open Go.RowKit

theorem Try.infoCell : (Try.prog.info? 94).map (fun i => (i.zero, i.size, i.bytes)) = some (some (.agg #[.pointer none, .pointer none]), 2, 16) := by kernel_rfl
theorem Try.underCells : Try.prog.underlying 72 = some (.slice 94) := by kernel_rfl
theorem cells_new (w : World) (cs : List Value) (t : TypeId) : ∀ j u, cs[j]? = some u → (w.alloc (.cells cs.toArray t)).cell? ((⟨w.heap.size, 0, none⟩ : Addr).add j) = some u := by
  intro j u hj
  have : (⟨w.heap.size, 0, none⟩ : Addr).add j = ⟨w.heap.size, j, none⟩ := by
    unfold Addr.add; split <;> simp_all
  rw [this, World.cell?_alloc_new]
  simpa using hj

theorem one2 (u v : Option Addr) : ∀ x ∈ [Value.pointer u, Value.pointer v], x.oneCell' = true := by simp [Value.oneCell']
theorem Hid.mk' {p : Prop} (h : p) : Hid p := h

def addE (L : List C) (c : C) : Int := if 2000 ≤ L.length ∨ 40000 - used L < c.size then 5 else 0
def objOf (L : List C) (c : C) : O := ⟨c.kind, false, L.length, 0, if c.kind = 10 then 0 else c.size, ⟨#[]⟩⟩

/-- A heap with one cell more. -/
theorem HeapRep.grow {w w' : World} {hp : Nat} {slv slv' : Value} {L : List PC} {x : PC} {g : Nat} (H : HeapRep w ⟨hp, slv, L⟩) (hx : x.ok w)
    (hc : Chg (fun b => b = hp ∨ b ∈ slv.ownBlock.toList) w w') (h1 : w'.heap[hp]? = some (.cells #[slv', .int .i64 ((used (L.map PC.c) + x.c.size : Nat) : Int)] 74 (0, 0)))
    (h2 : w'.ownsRow 0 94 2 slv' (L.length + 1) (L.flatMap PC.ptrs ++ x.ptrs)) (h3 : slv'.ownBlock = some g) (h4 : slv.ownBlock = some g ∨ w.heap.size ≤ g)
    (hn : x.foot.Nodup) (hd : ∀ b ∈ x.foot, b ∉ HS.foot ⟨hp, slv, L⟩) (hl : L.length < 2000) (hu : used (L.map PC.c) + x.c.size ≤ 40000) :
    HeapRep w' ⟨hp, slv', L ++ [x]⟩ ∧ ∀ b ∈ HS.foot ⟨hp, slv', L ++ [x]⟩, b ∈ HS.foot ⟨hp, slv, L⟩ ∨ b ∈ x.foot ∨ w.heap.size ≤ b := by
  have hlt := H.lt
  have hxl := hx.lt
  have hap := H.apart
  simp only [HS.foot, List.nodup_cons, List.nodup_append, List.mem_append, not_or, List.mem_flatMap, not_exists, not_and] at hap
  obtain ⟨⟨a1, a2⟩, a3, a4, a5⟩ := hap
  simp only [HS.foot, List.mem_cons, List.mem_append, not_or, List.mem_flatMap, not_exists, not_and] at hd hlt
  have hu' : used ((L ++ [x]).map PC.c) = used (L.map PC.c) + x.c.size := by simp [used]
  have hgL : ∀ y ∈ L, g ∉ y.foot := fun y hy hgy => by
    rcases h4 with h4 | h4
    · exact a5 g (by simp [h4]) g ⟨y, hy, hgy⟩ rfl
    · have := hlt g (.inr (.inr ⟨y, hy, hgy⟩)); omega
  have hgx : g ∉ x.foot := fun hgx => by
    rcases h4 with h4 | h4
    · exact (hd g hgx).2.1 (by simp [h4])
    · have := hxl g hgx; omega
  have hgh : hp ≠ g := fun e => by
    subst e
    rcases h4 with h4 | h4
    · exact a1 (by simp [h4])
    · have := hlt hp (.inl rfl); omega
  refine ⟨⟨by show w'.heap[hp]? = some (.cells #[slv', .int .i64 ((used ((L ++ [x]).map PC.c) : Nat) : Int)] 74 (0, 0)); rw [hu']; exact h1, by simpa using h2, ?_, ?_, by simp only [List.length_append, List.length_singleton]; omega, by simp only [HS.l]; rw [hu']; exact hu⟩, ?_⟩
  · intro y hy
    rcases List.mem_append.1 hy with (hy1 : y ∈ L) | hy
    · refine (H.cell y hy1).chg hc fun b hb e => ?_
      rcases e with rfl | e
      · exact a2 y hy1 hb
      · exact a5 b e b ⟨y, hy1, hb⟩ rfl
    · simp only [List.mem_singleton] at hy
      subst hy
      exact hx.chg hc fun b hb e => e.elim (fun e => (hd b hb).1 e) (fun e => (hd b hb).2.1 e)
  · simp only [HS.foot, h3, Option.toList, List.flatMap_append, List.flatMap_cons, List.flatMap_nil, List.append_nil, List.nodup_cons, List.cons_append, List.nil_append, List.nodup_append, List.mem_cons, List.mem_append, List.mem_flatMap, not_or, not_exists, not_and]
    refine ⟨⟨hgh, fun y hy => a2 y hy, fun h => (hd hp h).1 rfl⟩, ⟨fun y hy => hgL y hy, hgx⟩, a4, hn, ?_⟩
    rintro b ⟨y, hy, hb⟩ b' hb' rfl
    exact (hd b hb').2.2 y hy hb
  · intro b hb
    simp only [HS.foot, h3, Option.toList, List.flatMap_append, List.flatMap_cons, List.flatMap_nil, List.append_nil, List.cons_append, List.nil_append, List.mem_cons, List.mem_append, List.mem_flatMap] at hb ⊢
    rcases hb with rfl | rfl | hb | hb
    · exact .inl (.inl rfl)
    · rcases h4 with h4 | h4
      · exact .inl (.inr (.inl (by simp [h4])))
      · exact .inr (.inr h4)
    · exact .inl (.inr (.inr hb))
    · exact .inr (.inl hb)

theorem add_full (h : HS) (x : PC) (w : World) (H : HeapRep w h) (hx : x.ok w) (hE : addE h.l x.c ≠ 0) :
   Calls Try.prog 43 #[ptr h.hp, x.val] w fun e w' => e = .returned (.tuple #[O.nil.val, .int .i64 5]) ∧ Chg NoB w w' := by
  obtain ⟨hp, slv, L⟩ := h
  obtain ⟨u, v, huv⟩ := x.ptrs_eq
  have hval : x.val = .agg #[.pointer u, .pointer v] := by unfold PC.val; rw [huv]
  have K2 : ∀ w, x.ok w → Calls Try.prog 65 #[.agg #[.pointer u, .pointer v]] w fun e w' => e = .returned (.int .i64 x.c.size) ∧ Chg NoB w w' := fun w h => by rw [← hval]; exact size_any _ w h
  rw [hval]
  clear hval huv
  obtain ⟨sa, cap, rfl, -⟩ := H.shape
  have hr := H.room
  simp only [HS.l] at hr hE
  by_cases hl : (2000 : Int) ≤ (L.length : Int)
  · have hR := H.head
    have hd1 : decide ((2000 : Int) ≤ (L.length : Int)) = true := by simp; omega
    go_enter Try.func43, Try.ntmps43
    go_wp2_with fail
    have hB0 := blk_alloc (blk_new w (.cells #[.pointer u, .pointer v] 94)) (.cells #[.int .i64 0, .bool false, .int .i64 0, .int .i64 0, .int .i64 0, .string ⟨#[]⟩] 28)
    have hB1 := blk_new1 w (.cells #[.pointer u, .pointer v] 94) (.cells #[.int .i64 0, .bool false, .int .i64 0, .int .i64 0, .int .i64 0, .string ⟨#[]⟩] 28)
    have H1 := H.pure (((Chg.refl NoB w).alloc (.cells #[.pointer u, .pointer v] 94)).alloc (.cells #[.int .i64 0, .bool false, .int .i64 0, .int .i64 0, .int .i64 0, .string ⟨#[]⟩] 28))
    have XW := ((Chg.refl NoB w).alloc (.cells #[.pointer u, .pointer v] 94)).alloc (.cells #[.int .i64 0, .bool false, .int .i64 0, .int .i64 0, .int .i64 0, .string ⟨#[]⟩] 28)
    generalize hW : (w.alloc _).alloc _ = w1 at *
    clear hW hR
    have hH1 := H1.head
    have Rb := Chg.cells (S := NoB) hB0 id
    have lb := blk_lt hB0
    have Rh := Chg.cells (S := NoB) hH1 id
    have lh := blk_lt hH1
    have Rr := Chg.cells (S := NoB) hB1 id
    have lr := blk_lt hB1
    have X := Chg.refl NoB w1
    have Z1 := Chg.free (S := NoB) hB1 id
    go_quiet (fail)
    go_wp2
    refine bodyPost_ret (v := .tuple #[O.nil.val, .int .i64 5]) (by simp [results, Try.results43, go_sem, Rr, X, cell_set_at, O.nil]) rfl ⟨rfl, ?_⟩
    (repeat' (first | with_reducible assumption | with_reducible refine Chg.alloc ?_ _ | with_reducible refine Chg.drew ?_ | with_reducible refine Chg.drewN ?_ _ | with_reducible refine Chg.setCell ?_ (Or.inr ?_) _ | exact Nat.le_refl _ | exact Nat.le_add_right _ _ | (simp; done) | (simp; omega)))
  · have hd1 : decide ((2000 : Int) ≤ (L.length : Int)) = false := by simp; omega
    have hu : 40000 - (used (L.map PC.c) : Int) < x.c.size := by
      simp only [addE, List.length_map] at hE
      by_cases c : 40000 - used (L.map PC.c) < x.c.size
      · omega
      · exact absurd (by rw [if_neg]; omega) hE
    have hA : IntKind.i64.wrap (40000 - (used (L.map PC.c) : Int)) = 40000 - (used (L.map PC.c) : Int) := IntWalk.i64_in _ (by omega)
    have hd2 : decide (40000 - (used (L.map PC.c) : Int) < (x.c.size : Int)) = true := by simp; omega
    have hR := H.head
    go_enter Try.func43, Try.ntmps43
    go_wp2_with fail
    have hB0 := blk_alloc (blk_new w (.cells #[.pointer u, .pointer v] 94)) (.cells #[.int .i64 0, .bool false, .int .i64 0, .int .i64 0, .int .i64 0, .string ⟨#[]⟩] 28)
    have hB1 := blk_new1 w (.cells #[.pointer u, .pointer v] 94) (.cells #[.int .i64 0, .bool false, .int .i64 0, .int .i64 0, .int .i64 0, .string ⟨#[]⟩] 28)
    have H1 := H.pure (((Chg.refl NoB w).alloc (.cells #[.pointer u, .pointer v] 94)).alloc (.cells #[.int .i64 0, .bool false, .int .i64 0, .int .i64 0, .int .i64 0, .string ⟨#[]⟩] 28))
    have XW := ((Chg.refl NoB w).alloc (.cells #[.pointer u, .pointer v] 94)).alloc (.cells #[.int .i64 0, .bool false, .int .i64 0, .int .i64 0, .int .i64 0, .string ⟨#[]⟩] 28)
    generalize hW : (w.alloc _).alloc _ = w1 at *
    have hx1 := hx.chg XW (fun _ _ e => e)
    clear hW hR
    have hH1 := H1.head
    simp only [HS.l] at hH1
    have Rb := Chg.cells (S := NoB) hB0 id
    have lb := blk_lt hB0
    have Rh := Chg.cells (S := NoB) hH1 id
    have lh := blk_lt hH1
    have Rr := Chg.cells (S := NoB) hB1 id
    have lr := blk_lt hB1
    have X := Chg.refl NoB w1
    have Z1 := Chg.free (S := NoB) hB1 id
    go_region_held3 (fun w' => Chg NoB w1 w') (repeat' (first | with_reducible assumption | with_reducible refine Chg.drew ?_ | with_reducible refine Chg.alloc ?_ _ | with_reducible refine Chg.setCell ?_ (Or.inr ?_) _ | (with_reducible refine Chg.pure ?_ (by with_reducible assumption)) | exact Nat.le_refl _ | exact Chg.size (by assumption)))
      ((go_at_call 65; refine (K2 _ (hx1.chg (S := NoB) (by assumption) (fun _ _ e => e))).mono ?_; rintro e w4 ⟨rfl, hb4⟩))
    have hb5 : Chg NoB w1 w4 := by assumption
    have hB4 := hb5.blk hB1 id
    have R4 := cells_of hB4
    have l4 := blk_lt hB4
    go_wp2
    refine bodyPost_ret (v := .tuple #[O.nil.val, .int .i64 5]) (by simp [results, Try.results43, go_sem, R4, cell_set_at, O.nil]) rfl ⟨rfl, ?_⟩
    have := XW.trans hb5
    (repeat' (first | with_reducible assumption | with_reducible refine Chg.alloc ?_ _ | with_reducible refine Chg.drew ?_ | with_reducible refine Chg.drewN ?_ _ | with_reducible refine Chg.setCell ?_ (Or.inr ?_) _ | exact Nat.le_refl _ | exact Nat.le_add_right _ _ | (simp; done) | (simp; omega)))

end Go.Proofs.Ytgllgemjfpiogaa
