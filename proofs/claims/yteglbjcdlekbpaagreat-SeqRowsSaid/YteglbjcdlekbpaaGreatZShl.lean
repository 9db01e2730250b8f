/- strings.Index off the shelf, laid at this dump (the rows 'laysM143' are what the kit's lay-shelf.mjs and lay-plain.mjs write there: renew them for another dump). -/
import Derived.Shelf.Strings.Search3
import Derived.Shelf.LaysM
import Derived.Shelf.Strings.Shaped
import Derived.Test.YteglbjcdlekbpaaGreatZHeapa
namespace Go.Proofs
open Go.Shelf
def Tryz.laysM143_ren : Go.Shelf.Ren := ⟨fun | 143 => 154 | 219 => 167 | 217 => 172 | 225 => 173 | 224 => 174 | 267 => 175 | 266 => 176 | 314 => 177 | n => n, fun | 9 => 9 | 3 => 3 | 4 => 4 | 5 => 5 | 46 => 198 | 146 => 200 | 51 => 199 | n => n, fun | 1 => 0 | n => n⟩
theorem Tryz.laysM143 : Go.Proofs.LaysM.n143 Tryz.prog Tryz.laysM143_ren := {
  mixed := by kernel_rfl
  f143 := Tryz.func154.trans (congrArg some (by kernel_rfl))
  f217 := Tryz.func172.trans (congrArg some (by kernel_rfl))
  f219 := Tryz.func167.trans (congrArg some (by kernel_rfl))
  f224 := Tryz.func174.trans (congrArg some (by kernel_rfl))
  f225 := Tryz.func173.trans (congrArg some (by kernel_rfl))
  f266 := Tryz.func176.trans (congrArg some (by kernel_rfl))
  f267 := Tryz.func175.trans (congrArg some (by kernel_rfl))
  f314 := Tryz.func177.trans (congrArg some (by kernel_rfl))
  t3 := Tryz.underlying3
  a3 := Tryz.isAgg3
  z3 := Tryz.sizeOf3
  v3 := Tryz.zeroValue3
  t4 := Tryz.underlying4
  a4 := Tryz.isAgg4
  z4 := Tryz.sizeOf4
  v4 := Tryz.zeroValue4
  t5 := Tryz.underlying5
  a5 := Tryz.isAgg5
  z5 := Tryz.sizeOf5
  v5 := Tryz.zeroValue5
  t9 := Tryz.underlying9
  a9 := Tryz.isAgg9
  z9 := Tryz.sizeOf9
  v9 := Tryz.zeroValue9
  t46 := Tryz.underlying198
  a46 := Tryz.isAgg198
  z46 := Tryz.sizeOf198
  v46 := Tryz.zeroValue198
  t51 := Tryz.underlying199
  a51 := Tryz.isAgg199
  z51 := Tryz.sizeOf199
  v51 := Tryz.zeroValue199
  t146 := Tryz.underlying200
  a146 := Tryz.isAgg200
  z146 := Tryz.sizeOf200
  v146 := Tryz.zeroValue200
  g1 := by kernel_rfl
  i3 := by kernel_rfl
  i4 := by kernel_rfl
  i5 := by kernel_rfl
  i9 := by kernel_rfl
  i46 := by kernel_rfl
  i51 := by kernel_rfl
  i146 := by kernel_rfl
  m1 := by kernel_rfl
  s1_3 := fun w h => Go.Proofs.cell_of_shapedOpen_int (zero := #[.int .i64 0]) (t := 3) h (of_decide_eq_true (by kernel_rfl)) (by kernel_rfl) rfl (by kernel_rfl) (by kernel_rfl) Tryz.underlying3 }
end Go.Proofs
namespace Go.Proofs.YteglbjcdlekbpaaGreat
open Go.RowKit
/-- What internal/bytealg.MaxLen holds: some number. -/
def MaxIs (w : World) : Prop := ∃ m, w.cell? ⟨Tryz.laysM143_ren.g 1, 0, none⟩ = some (.int .i64 m)
theorem MaxIs.of {w : World} (h : w.ShapedOpen Tryz.prog) : MaxIs w := Tryz.laysM143.s1_3 w h
theorem MaxIs.chg {w w' : World} (h : MaxIs w) (X : Chg NoB w w') : MaxIs w' := by
  obtain ⟨m, hm⟩ := h
  refine ⟨m, ?_⟩
  generalize Tryz.laysM143_ren.g 1 = g at hm ⊢
  have hg : g < w.heap.size := by
    by_cases c : g < w.heap.size
    · exact c
    · simp [World.cell?, Array.getElem?_eq_none (Nat.le_of_not_lt c)] at hm
  have := X.block g hg id
  unfold World.cell? at hm ⊢
  simp only at hm ⊢
  rw [this]
  exact hm
theorem sidx_any (s sub : ByteArray) (w : World) (hs : s.size < 4294967281) (h : MaxIs w) :
    Calls Tryz.prog 154 #[.string s, .string sub] w fun e w' => e = .returned (.int .i64 (Lib.index s.data.toList sub.data.toList)) ∧ w' = w := by
  obtain ⟨m, hm⟩ := h
  have L := Tryz.laysM143
  exact Any.strings_Index { L with } s sub m w hs hm
end Go.Proofs.YteglbjcdlekbpaaGreat
