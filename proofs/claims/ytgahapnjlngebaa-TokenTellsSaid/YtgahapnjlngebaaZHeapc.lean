/- Hlk, Hby, Hit, Hbec, Hbw, Lat, Obx, Row, Lkn, Lpl -/
import Derived.Test.YtgahapnjlngebaaZHeapb
import Derived.Laws.AppendOwnNone
import Derived.Test.YtgahapnjlngebaaZHeapa
/- Walks: Lock, Bytes. -/
namespace Go.Proofs.Ytgahapnjlngebaa
open Go.RowKit

def lockH (L : List C) (o : O) : List C × Int :=
  if findE L o ≠ 0 then (L, findE L o) else match L[o.n.toNat]? with
    | none => (L, 0)
    | some c => (L.set o.n.toNat { c with locked := true }, 0)

/-! ### A piece of a list of bytes, as a string -/
theorem loadCells_bytes (P : Program) (w : World) (a : Addr) (bs : List UInt8) (h : ∀ i (hi : i < bs.length), w.cell? (a.add i) = some (vu8 bs[i])) :
    (loadCells a bs.length).run P w = .ok (bs.map vu8).toArray w := by
  have key : ∀ (n i : Nat) (acc : Array Value), i + n = bs.length → (loadCellsFrom a i n acc).run P w = .ok (acc ++ ((bs.drop i).map vu8).toArray) w := by
    intro n
    induction n with
    | zero => intro i acc hi; simp [loadCellsFrom, show bs.drop i = [] from List.drop_eq_nil_of_le (by omega)]
    | succ n ih =>
      intro i acc hi
      have hlt : i < bs.length := by omega
      simp only [loadCellsFrom, Sem.run_bind, run_load, h i hlt, Result.andThen_ok]
      rw [ih (i + 1) _ (by omega), List.drop_eq_getElem_cons hlt]
      refine congrArg (fun x => Result.ok x w) ?_
      apply Array.ext'
      simp only [Array.toList_append, Array.toList_push, List.append_assoc, List.singleton_append, List.map_cons]
  have := key bs.length 0 #[] (by omega)
  simpa [loadCells] using this
theorem forIn_push (P : Program) (w : World) (f : Value → ByteArray → Sem (ForInStep ByteArray)) (hf : ∀ n s, f (.int .u8 n) s = pure (.yield (s.push (UInt8.ofNat n.toNat)))) :
    ∀ (l acc : List UInt8), (forIn (m := Sem) (l.map vu8) (⟨acc.toArray⟩ : ByteArray) f).run P w = .ok ⟨(acc ++ l).toArray⟩ w
  | [], acc => by simp
  | b :: l, acc => by
    simp only [List.map_cons, List.forIn_cons, hf, Sem.run_bind, Sem.run_pure, Result.andThen_ok]
    have e : (⟨acc.toArray⟩ : ByteArray).push (UInt8.ofNat ((b.toNat : Int)).toNat) = ⟨(acc ++ [b]).toArray⟩ := by
      simp [ByteArray.push]
    rw [e, forIn_push P w f hf l (acc ++ [b])]
    simp
theorem bytesToString_run (P : Program) (w : World) (a : Addr) (bs : List UInt8) (c : Nat) (h : ∀ i (hi : i < bs.length), w.cell? (a.add i) = some (vu8 bs[i])) :
    (Conv.bytesToString (.slice (some a) bs.length c)).run P w = .ok (.string ⟨bs.toArray⟩) w := by
  have hl := loadCells_bytes P w a bs h
  simp only [Conv.bytesToString, Sem.run_bind, hl, Result.andThen_ok, List.forIn_toArray]
  have e0 : (ByteArray.empty : ByteArray) = ⟨([] : List UInt8).toArray⟩ := rfl
  rw [e0]
  have hk := fun f hf => forIn_push P w f hf bs []
  simp only [List.nil_append] at hk
  refine (congrArg (fun r => Result.andThen r fun a w' => (Pure.pure (Value.string a) : Sem Value).run P w') (hk _ (fun n s => rfl))).trans ?_
  simp
end Go.Proofs.Ytgahapnjlngebaa
/- Walk: Bytes. -/
namespace Go.Proofs.Ytgahapnjlngebaa
open Go.RowKit

theorem sizeOf_byte (w : World) : (sizeOf 5).run Try.prog w = .ok 1 w := by kernel_rfl
theorem Try.elemBytes : Try.prog.elem 35 = 5 := by kernel_rfl
theorem add_add (g i j : Nat) : ((⟨g, 0, none⟩ : Addr).add i).add j = ⟨g, i + j, none⟩ := by
  unfold Addr.add; split <;> split <;> simp_all
theorem add_one (g i : Nat) : (⟨g, 0, none⟩ : Addr).add i = ⟨g, i, none⟩ := by
  unfold Addr.add; split <;> simp_all

theorem run_conv_bytes (w : World) (x : Value) (h : ∃ a n c, x = .slice a n c) : (convert 35 9 x).run Try.prog w = (Conv.bytesToString x).run Try.prog w := by
  obtain ⟨a, n, c, rfl⟩ := h
  cases a <;> simp only [convert, Sem.run_bind, run_underlying Try.underStr, run_underlying Try.underBytes, run_underlying Try.underByte, Result.andThen_ok]

/-- A piece of a row of bytes, and the string of it. -/
theorem cut_bytes {w1 : World} {v : Value} {bs : List UInt8} (h : Row w1 5 1 v bs.length (bs.map vu8)) (p z : Int) (hp : 0 ≤ p) (hz : 0 ≤ z) (hpz : p + z ≤ bs.length) :
    ∃ A c', (∀ W, (Instr.slice 35 v (some (.int .i64 p)) (some (.int .i64 (p + z))) none).run Try.prog W = .ok (.slice A z.toNat c') W) ∧
      ∀ W, Chg NoB w1 W → (convert 35 9 (.slice A z.toNat c')).run Try.prog W = .ok (.string ⟨((bs.drop p.toNat).take z.toNat).toArray⟩) W := by
  have hzl : ((bs.drop p.toNat).take z.toNat).length = z.toNat := by simp; omega
  rcases h.2 with ⟨rfl, hn⟩ | ⟨g, cap, cur, fz, rfl, hcur, hfz, hnc, hcm, hcs, htk⟩
  · have hp0 : p = 0 := by omega
    have hz0 : z = 0 := by omega
    subst hp0; subst hz0
    refine ⟨none, 0, fun W => ?_, fun W _ => ?_⟩
    · rw [run_slice_lh (w := W) 35 none 0 0 (by rw [Try.elemBytes]; exact Try.underBytes) .i64 .i64 0 (0 + 0) (by omega) (by omega) (by omega), Try.elemBytes, sizeOf_byte]
      simp [sliced]
    · rw [run_conv_bytes W _ ⟨_, _, _, rfl⟩]
      simp [Conv.bytesToString]; rfl
  · refine ⟨if cap = p.toNat then some ⟨g, 0, none⟩ else some ((⟨g, 0, none⟩ : Addr).add p.toNat), cap - p.toNat, fun W => ?_, fun W hW => ?_⟩
    · rw [run_slice_lh (w := W) 35 (some ⟨g, 0, none⟩) _ cap (by rw [Try.elemBytes]; exact Try.underBytes) .i64 .i64 p (p + z) hp (by omega) (by omega), Try.elemBytes, sizeOf_byte]
      simp only [Result.andThen_ok, sliced, Nat.mul_one, Option.map_some]
      rw [show (p + z).toNat - p.toNat = z.toNat by omega]
    · have hc' := hW.blk hcur id
      have hcell : ∀ i, i < bs.length → W.cell? ⟨g, i, none⟩ = some (vu8 (bs.getD i 0)) := fun i hi => by
        rw [cells_of hc' i, ← Array.getElem?_toList]
        have : cur.toList[i]? = (cur.toList.take (bs.length * 1))[i]? := by rw [List.getElem?_take, if_pos (by omega)]
        rw [this, htk]; simp [hi]
      rw [run_conv_bytes W _ ⟨_, _, _, rfl⟩]
      by_cases hz0 : z = 0
      · subst hz0
        have := fun a => bytesToString_run Try.prog W a [] (cap - p.toNat) (fun i hi => by simp at hi)
        split <;> simpa using this _
      · rw [if_neg (by omega)]
        have := bytesToString_run Try.prog W ((⟨g, 0, none⟩ : Addr).add p.toNat) ((bs.drop p.toNat).take z.toNat) (cap - p.toNat) (fun i hi => by
          rw [add_add, hcell _ (by omega)]
          have : p.toNat + i < bs.length := by omega
          simp [this])
        rw [hzl] at this
        exact this

def bytesH (L : List C) (o : O) : ByteArray × Int :=
  if findE L o ≠ 0 then (⟨#[]⟩, findE L o) else match L[o.n.toNat]? with
    | none => (⟨#[]⟩, 0)
    | some c => if c.text then (⟨((c.bytes.drop (atOf o).toNat).take (lenOf c o).toNat).toArray⟩, 0) else (⟨#[]⟩, 6)

end Go.Proofs.Ytgahapnjlngebaa
/- Walk: Items. -/
namespace Go.Proofs.Ytgahapnjlngebaa
open Go.RowKit

theorem flat_drop_take (L : List O) (p z : Nat) : ((L.drop p).take z).flatMap O.cells = ((L.flatMap O.cells).drop (p * 6)).take (z * 6) := by
  have hd : ∀ (L : List O) (p : Nat), (L.drop p).flatMap O.cells = (L.flatMap O.cells).drop (p * 6) := by
    intro L
    induction L with
    | nil => intro p; simp
    | cons x L ih =>
      intro p
      cases p with
      | zero => simp
      | succ p =>
        rw [List.drop_succ_cons, ih, List.flatMap_cons, List.drop_append, show O.cells x = O.cells x from rfl]
        rw [@List.drop_eq_nil_of_le _ (O.cells x) _ (by rw [cells_length]; omega), List.nil_append, cells_length]
        congr 1; omega
  have ht : ∀ (L : List O) (z : Nat), (L.take z).flatMap O.cells = (L.flatMap O.cells).take (z * 6) := by
    intro L
    induction L with
    | nil => intro z; simp
    | cons x L ih =>
      intro z
      cases z with
      | zero => simp
      | succ z =>
        rw [List.take_succ_cons, List.flatMap_cons, ih, List.flatMap_cons, List.take_append]
        rw [List.take_of_length_le (l := O.cells x) (by rw [cells_length]; omega), cells_length]
        congr 2; omega
  rw [ht, hd]

theorem cells_one (o : O) : ∀ u ∈ o.cells, u.oneCell' = true := by
  intro u hu; simp only [O.cells, List.mem_cons, List.not_mem_nil, or_false] at hu
  rcases hu with rfl | rfl | rfl | rfl | rfl | rfl <;> rfl
theorem flat_one (L : List O) : ∀ u ∈ L.flatMap O.cells, u.oneCell' = true := by
  intro u hu
  obtain ⟨o, _, ho⟩ := List.mem_flatMap.1 hu
  exact cells_one o u ho

def itemsH (L : List C) (o : O) : List O × Int :=
  if findE L o ≠ 0 then ([], findE L o) else match L[o.n.toNat]? with
    | none => ([], 0)
    | some c => if c.text then ([], 6) else ((c.items.drop (atOf o).toNat).take (lenOf c o).toNat, 0)

end Go.Proofs.Ytgahapnjlngebaa
/- Become: plain facts. -/
namespace Go.Proofs.Ytgahapnjlngebaa
open Go.RowKit

theorem owns_base {w : World} {B B' : Nat} {T : TypeId} {size : Nat} {v : Value} {n : Nat} {xs : List Value} (h : w.ownsRow B T size v n xs) (hB : B' ≤ B) : w.ownsRow B' T size v n xs := by
  refine ⟨h.1, ?_⟩
  rcases h.2 with hn | ⟨g, cap, cur, h1, h2, rest⟩
  · exact .inl hn
  · exact .inr ⟨g, cap, cur, h1, Nat.le_trans hB h2, rest⟩
theorem owns_chgB {w w' : World} {S : Nat → Prop} {B : Nat} {T : TypeId} {size : Nat} {v : Value} {n : Nat} {xs : List Value} (h : w.ownsRow B T size v n xs) (hc : Chg S w w') (hS : ∀ b ∈ v.ownBlock.toList, ¬ S b) : w'.ownsRow B T size v n xs := by
  refine ⟨h.1, ?_⟩
  rcases h.2 with hn | ⟨g, cap, cur, rfl, h1, h2, rest⟩
  · exact .inl hn
  · exact .inr ⟨g, cap, cur, rfl, h1, hc.blk h2 (hS g (by simp [Value.ownBlock])), rest⟩
theorem owns_ge {w : World} {B : Nat} {T : TypeId} {size : Nat} {v : Value} {n : Nat} {xs : List Value} (h : w.ownsRow B T size v n xs) : ∀ b ∈ v.ownBlock.toList, B ≤ b ∧ b < w.heap.size := by
  intro b hb
  have := h.lt b (by simpa using hb)
  exact this

end Go.Proofs.Ytgahapnjlngebaa
/- Walk: Become, Copy. -/
namespace Go.Proofs.Ytgahapnjlngebaa
open Go.RowKit

theorem Try.infoByte : (Try.prog.info? 5).map (fun i => (i.zero, i.size, i.bytes)) = some (some (.int .u8 0), 1, 1) := by kernel_rfl
theorem vu8_one (l : List UInt8) : ∀ u ∈ l.map vu8, u.oneCell' = true := by
  intro u hu
  obtain ⟨b, _, rfl⟩ := List.mem_map.1 hu
  rfl
theorem cells_newS (w : World) (a : Addr) (v : Value) (cs : List Value) (t : TypeId) : ∀ j u, cs[j]? = some u → ((w.setCell a v).alloc (.cells cs.toArray t)).cell? ((⟨w.heap.size, 0, none⟩ : Addr).add j) = some u := by
  have := cells_new (w.setCell a v) cs t
  rw [World.size_setCell] at this
  exact this
theorem cells_new2 (w : World) (o o' : Obj) (cs : List Value) (t : TypeId) : ∀ j u, cs[j]? = some u → (((w.alloc o).alloc o').alloc (.cells cs.toArray t)).cell? ((⟨w.heap.size + 1 + 1, 0, none⟩ : Addr).add j) = some u := by
  have := cells_new ((w.alloc o).alloc o') cs t
  simpa using this
theorem Row.of_nil {w w' : World} {T : TypeId} {size n : Nat} {xs : List Value} (h : Row w T size (.slice none 0 0) n xs) : Row w' T size (.slice none 0 0) n xs := by
  refine ⟨h.1, ?_⟩
  rcases h.2 with h | ⟨g, cap, cur, fz, e, _⟩
  · exact .inl h
  · simp at e
/-- What a slice's source holds, at every world to come. -/
theorem Row.src {w1 : World} {T : TypeId} {size : Nat} {v : Value} {n : Nat} {xs : List Value} (h : Row w1 T size v n xs) :
    (v = .slice none 0 0 ∧ n = 0) ∨ ∃ ad cap, v = .slice (some ad) n cap ∧ ∀ W, Chg NoB w1 W → ∀ j u, xs[j]? = some u → W.cell? (ad.add j) = some u := by
  rcases h.2 with ⟨rfl, hn⟩ | ⟨g, cap, cur, fz, rfl, hcur, hfz, hnc, hcm, hcs, htk⟩
  · exact .inl ⟨rfl, hn⟩
  · refine .inr ⟨_, _, rfl, fun W hW j u hj => ?_⟩
    have hlt : j < n * size := by rw [← h.1]; exact (List.getElem?_eq_some_iff.1 hj).1
    rw [add_one, cells_of (hW.blk hcur id), ← Array.getElem?_toList]
    have : cur.toList[j]? = (cur.toList.take (n * size))[j]? := by rw [List.getElem?_take, if_pos hlt]
    rw [this, htk]; exact hj

end Go.Proofs.Ytgahapnjlngebaa
/- A heap that a law made, and its boxes: what the law's walk carries along. -/
namespace Go.Proofs.Ytgahapnjlngebaa
open Go.RowKit
theorem kn_1 : arrayH [] 2 = ([⟨false, false, false, [nullO, nullO], []⟩], ⟨9, false, 0, 0, 2, ⟨#[]⟩⟩, 0) := by
  simp [arrayH, makeH, addE, objOf, used, C.size, C.kind, List.replicate]
theorem kn_2 : partH [⟨false, false, false, [nullO, nullO], []⟩] ⟨9, false, 0, 0, 2, ⟨#[]⟩⟩ 1 1 = (⟨9, false, 0, 1, 1, ⟨#[]⟩⟩, 0) := by
  simp [partH, findE, held, mayH, mayO, eqO, bareO, O.nil, C.size, C.kind]
theorem kn_3 : setH [⟨false, false, false, [nullO, nullO], []⟩] ⟨9, false, 0, 1, 1, ⟨#[]⟩⟩ 0 ⟨3, false, 7, 0, 0, ⟨#[]⟩⟩ = ([⟨false, false, false, [nullO, ⟨3, false, 7, 0, 0, ⟨#[]⟩⟩], []⟩], 0) := by
  simp [setH, findE, held, mayH, mayO, eqO, bareO, O.nil, C.size, C.kind, lenOf, atOf]
theorem kn_4 : getH [⟨false, false, false, [nullO, ⟨3, false, 7, 0, 0, ⟨#[]⟩⟩], []⟩] ⟨9, false, 0, 0, 2, ⟨#[]⟩⟩ 1 = (⟨3, false, 7, 0, 0, ⟨#[]⟩⟩, 0) := by
  simp [getH, findE, held, mayH, mayO, eqO, bareO, O.nil, C.size, C.kind, lenOf, atOf]
end Go.Proofs.Ytgahapnjlngebaa
/- The box of an object. -/
namespace Go.Proofs.Ytgahapnjlngebaa
open Go.RowKit
/-- A name, a number, a fix, a bool. -/
abbrev nameO (s : ByteArray) : O := ⟨5, false, 0, 0, 0, s⟩
abbrev iO (v : Int) : O := ⟨3, false, v, 0, 0, ⟨#[]⟩⟩
abbrev fO (v : Int) : O := ⟨4, false, v, 0, 0, ⟨#[]⟩⟩
abbrev bO (b : Bool) : O := ⟨2, false, if b = true then 1 else 0, 0, 0, ⟨#[]⟩⟩
theorem m0 {α : Type} {a : α} {l : List α} : a ∈ a :: l := List.mem_cons_self ..
theorem m1 {α : Type} {a b : α} {l : List α} : a ∈ b :: a :: l := List.mem_cons_of_mem _ m0
theorem m2 {α : Type} {a b c : α} {l : List α} : a ∈ b :: c :: a :: l := List.mem_cons_of_mem _ m1
theorem m3 {α : Type} {a b c d : α} {l : List α} : a ∈ b :: c :: d :: a :: l := List.mem_cons_of_mem _ m2
theorem m4 {α : Type} {a b c d e : α} {l : List α} : a ∈ b :: c :: d :: e :: a :: l := List.mem_cons_of_mem _ m3
theorem m5 {α : Type} {a b c d e f : α} {l : List α} : a ∈ b :: c :: d :: e :: f :: a :: l := List.mem_cons_of_mem _ m4
theorem m6 {α : Type} {a b c d e f g : α} {l : List α} : a ∈ b :: c :: d :: e :: f :: g :: a :: l := List.mem_cons_of_mem _ m5
theorem m7 {α : Type} {a b c d e f g h : α} {l : List α} : a ∈ b :: c :: d :: e :: f :: g :: h :: a :: l := List.mem_cons_of_mem _ m6
theorem m8 {α : Type} {a b c d e f g h i : α} {l : List α} : a ∈ b :: c :: d :: e :: f :: g :: h :: i :: a :: l := List.mem_cons_of_mem _ m7
theorem m9 {α : Type} {a b c d e f g h i j : α} {l : List α} : a ∈ b :: c :: d :: e :: f :: g :: h :: i :: j :: a :: l := List.mem_cons_of_mem _ m8
end Go.Proofs.Ytgahapnjlngebaa
/- A slice that a law made by appending, among the boxes. -/
namespace Go.Proofs.Ytgahapnjlngebaa
open Go.RowKit
/-- A slice made by appending, and its block: R. -/
def RowG (T : TypeId) (sz : Nat) (R : List (Nat × Obj)) (v : Value) (n : Nat) (xs : List Value) : Prop :=
  (v = .slice none 0 0 ∧ n = 0 ∧ xs = [] ∧ R = []) ∨
  ∃ g cap cur, v = .slice (some ⟨g, 0, none⟩) n cap ∧ R = [(g, .cells cur T)] ∧ n ≤ cap ∧ cap ≤ maxLen ∧ cur.size = cap * sz ∧ cur.toList.take (n * sz) = xs ∧ xs.length = n * sz
theorem RowG.shape {T : TypeId} {sz : Nat} {R : List (Nat × Obj)} {v : Value} {n : Nat} {xs : List Value} (h : RowG T sz R v n xs) (hn : 0 < n) :
    ∃ g cap cur, v = .slice (some ⟨g, 0, none⟩) n cap ∧ R = [(g, .cells cur T)] ∧ ∀ i, i < n * sz → cur[i]? = xs[i]? := by
  rcases h with ⟨-, h0, -⟩ | ⟨g, cap, cur, h1, h2, -, -, -, h3, -⟩
  · omega
  · exact ⟨g, cap, cur, h1, h2, fun i hi => by rw [← h3, List.getElem?_take_of_lt hi, Array.getElem?_toList]⟩
end Go.Proofs.Ytgahapnjlngebaa
/- tympanlaw11.known. -/
namespace Go.Proofs.Ytgahapnjlngebaa
open Go.RowKit
end Go.Proofs.Ytgahapnjlngebaa
/- Plain facts on what a heap answers, for the laws. -/
namespace Go.Proofs.Ytgahapnjlngebaa
open Go.RowKit

theorem used_rep (c : C) (k : Nat) : used (List.replicate k c) = k * c.size := by
  induction k with
  | zero => simp [used]
  | succ k ih =>
    have : used (List.replicate (k + 1) c) = c.size + used (List.replicate k c) := by simp [used, List.replicate_succ]
    rw [this, ih, Nat.succ_mul, Nat.add_comm]
theorem empty_bytes : (⟨#[]⟩ : ByteArray).toList = [] := by
  unfold ByteArray.toList ByteArray.toList.loop
  rfl
theorem add_fits (L : List C) (c : C) (h1 : L.length < 2000) (h2 : used L + c.size ≤ 40000) : makeH L c = (L ++ [c], objOf L c, 0) := by
  have : addE L c = 0 := by unfold addE; rw [if_neg (by omega)]
  simp only [makeH, this, ne_eq, not_true_eq_false, if_false]
theorem add_not (L : List C) (c : C) (h : 2000 ≤ L.length ∨ 40000 - used L < c.size) : makeH L c = (L, O.nil, 5) := by
  have : addE L c = 5 := by unfold addE; rw [if_pos h]
  simp only [makeH, this, ne_eq]
  rw [if_pos (by decide)]
abbrev arr (k : Nat) : C := ⟨false, false, false, List.replicate k nullO, []⟩
theorem arr_size (k : Nat) : (arr k).size = k := by simp [C.size]
theorem room_1 (k : Int) (h0 : 0 ≤ k) (h1 : k ≤ 40000) : arrayH [] k = ([arr k.toNat], ⟨9, false, 0, 0, k, ⟨#[]⟩⟩, 0) := by
  unfold arrayH
  rw [if_neg (by omega), if_neg (by omega), add_fits _ _ (by simp) (by rw [arr_size]; simp [used]; omega)]
  simp [objOf, C.kind, C.size]
  omega
theorem row_item {cur : Array Value} {l : List O} (hc : ∀ i, i < l.length * 6 → cur[i]? = (l.flatMap O.cells)[i]?) {j : Nat} {o : O} (h : l[j]? = some o) :
    cur[j * 6]? = some (.int .i64 o.kind) ∧ cur[j * 6 + 1]? = some (.bool o.exec) ∧ cur[j * 6 + 2]? = some (.int .i64 o.n) ∧ cur[j * 6 + 3]? = some (.int .i64 o.pos) ∧ cur[j * 6 + 4]? = some (.int .i64 o.len) ∧ cur[j * 6 + 5]? = some (.string o.s) := by
  have hj : j < l.length := (List.getElem?_eq_some_iff.1 h).1
  have g : ∀ t, t < 6 → cur[j * 6 + t]? = o.cells[t]? := fun t ht => by
    rw [hc _ (by omega), flat_get O.cells 6 cells_length t ht, h]; rfl
  exact ⟨g 0 (by decide), g 1 (by decide), g 2 (by decide), g 3 (by decide), g 4 (by decide), g 5 (by decide)⟩
theorem rep_size (c : C) (hd : c.text = false) : c.size = c.items.length := by simp [C.size, hd]
/-- An array of one cell: any part within it is an object that may be. -/
theorem find_arr (c : C) (k p z : Int) (ht : c.text = false) (hd : c.dict = false) (hl : (c.items.length : Int) = k) (hk : k ≤ 40000) (hp : 0 ≤ p) (hz : 0 ≤ z) (h : p + z ≤ k) : findE [c] ⟨9, false, 0, p, z, ⟨#[]⟩⟩ = 0 := by
  have hs : c.size = c.items.length := by simp [C.size, ht]
  have hm : mayH [c] ⟨9, false, 0, p, z, ⟨#[]⟩⟩ = true := by
    simp [mayH, held, mayO, eqO, bareO, O.nil, hs, C.kind, ht, hd]
    omega
  simp [findE, hm, held]
theorem part_arr (c : C) (k i n : Int) (ht : c.text = false) (hd : c.dict = false) (hl : (c.items.length : Int) = k) (hk : k ≤ 40000) (h0 : 0 ≤ i) (h1 : 0 ≤ n) (h : n ≤ k - i) :
    partH [c] ⟨9, false, 0, 0, k, ⟨#[]⟩⟩ i n = (⟨9, false, 0, i, n, ⟨#[]⟩⟩, 0) := by
  unfold partH
  rw [find_arr c k 0 k ht hd hl hk (by omega) (by omega) (by omega)]
  simp only [ne_eq, not_true_eq_false, if_false]
  rw [if_neg (by decide), if_neg (by omega)]
  simp
theorem set_arr (c : C) (k p z i : Int) (x : O) (ht : c.text = false) (hd : c.dict = false) (hc : c.locked = false) (hl : (c.items.length : Int) = k) (hk : k ≤ 40000) (hp : 0 ≤ p) (hz : 0 ≤ z) (h : p + z ≤ k) (hi : 0 ≤ i) (hi' : i < z) (hx : mayH [c] x = true) :
    setH [c] ⟨9, false, 0, p, z, ⟨#[]⟩⟩ i x = ([{ c with items := c.items.set (p + i).toNat x }], 0) := by
  unfold setH
  rw [find_arr c k p z ht hd hl hk hp hz h]
  simp [lenOf, atOf, hc, ht, hx]
  omega
theorem items_arr (c : C) (k p z : Int) (ht : c.text = false) (hd : c.dict = false) (hl : (c.items.length : Int) = k) (hk : k ≤ 40000) (hp : 0 ≤ p) (hz : 0 ≤ z) (h : p + z ≤ k) :
    itemsH [c] ⟨9, false, 0, p, z, ⟨#[]⟩⟩ = ((c.items.drop p.toNat).take z.toNat, 0) := by
  unfold itemsH
  rw [find_arr c k p z ht hd hl hk hp hz h]
  simp [lenOf, atOf, ht]
end Go.Proofs.Ytgahapnjlngebaa
