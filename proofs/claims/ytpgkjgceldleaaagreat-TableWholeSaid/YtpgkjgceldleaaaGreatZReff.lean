/- Rfh, Rfm, Rfk, Rmk -/
import Derived.Test.YtpgkjgceldleaaaGreatZTxgs
import Derived.Test.YtpgkjgceldleaaaGreatZHeapc
import Derived.Test.YtpgkjgceldleaaaGreatZChar
import Derived.Deep.DeepCutAuto
import Derived.Test.YtpgkjgceldleaaaGreatZStack
import Derived.Deep.AppendLies
/- The reference's heap (tympanref11) in memory: RefB; Cell.size, Used. -/
namespace Go.Proofs.YtpgkjgceldleaaaGreat
open Go.RowKit

/-- A row that lies among boxes, and is not written. -/
def RowIn (J : List (Nat × Obj)) (T : TypeId) (sz : Nat) (v : Value) (n : Nat) (xs : List Value) : Prop :=
  (v = .slice none 0 0 ∧ n = 0 ∧ xs = []) ∨
  ∃ g cap cur fz, v = .slice (some ⟨g, 0, none⟩) n cap ∧ (g, Obj.cells cur T fz) ∈ J ∧ n ≤ cap ∧ cap ≤ maxLen ∧ cur.size = cap * sz ∧ cur.toList.take (n * sz) = xs ∧ xs.length = n * sz
theorem RowIn.mono {J J' : List (Nat × Obj)} {T : TypeId} {sz : Nat} {v : Value} {n : Nat} {xs : List Value} (h : RowIn J T sz v n xs) (hJ : ∀ q ∈ J, q ∈ J') : RowIn J' T sz v n xs := by
  rcases h with h | ⟨g, cap, cur, fz, h1, h2, h3⟩
  · exact .inl h
  · exact .inr ⟨g, cap, cur, fz, h1, hJ _ h2, h3⟩
theorem RowIn.slice {J : List (Nat × Obj)} {T : TypeId} {sz : Nat} {v : Value} {n : Nat} {xs : List Value} (h : RowIn J T sz v n xs) : ∃ a c, v = .slice a n c ∧ n ≤ c := by
  rcases h with ⟨rfl, rfl, -⟩ | ⟨g, cap, cur, fz, rfl, -, h1, -⟩
  · exact ⟨none, 0, rfl, Nat.le_refl _⟩
  · exact ⟨_, _, rfl, h1⟩
/-- A cell of the reference's: its four values. -/
def CellIn (J : List (Nat × Obj)) (c : C) (vs : List Value) : Prop :=
  ∃ vi vb, vs = [.int .i64 c.kind, vi, vb, .bool c.locked] ∧ RowIn J 38 6 vi c.items.length (c.items.flatMap O.cells) ∧ RowIn J 5 1 vb c.bytes.length (c.bytes.map vu8) ∧ (c.text = true → c.items = []) ∧ (c.text = false → c.bytes = [])
theorem CellIn.mono {J J' : List (Nat × Obj)} {c : C} {vs : List Value} (h : CellIn J c vs) (hJ : ∀ q ∈ J, q ∈ J') : CellIn J' c vs := by
  obtain ⟨vi, vb, h1, h2, h3, h4⟩ := h
  exact ⟨vi, vb, h1, h2.mono hJ, h3.mono hJ, h4⟩
theorem CellIn.size {J : List (Nat × Obj)} {c : C} {vs : List Value} (h : CellIn J c vs) : c.items.length + c.bytes.length = c.size := by
  obtain ⟨vi, vb, h1, h2, h3, h4, h5⟩ := h
  unfold C.size
  cases hc : c.text
  · rw [h5 hc]; simp
  · rw [h4 hc]; simp
theorem CellIn.len {J : List (Nat × Obj)} {c : C} {vs : List Value} (h : CellIn J c vs) : vs.length = 4 := by
  obtain ⟨vi, vb, rfl, -⟩ := h; rfl
abbrev refBox (lv : Value) : Obj := .cells #[lv] 62
def joinV (rows : List (List Value)) : List Value := rows.flatMap id
/-- The boxes of a reference's heap: items and bytes (J), its row (R), itself. -/
def RefK (J0 : List (Nat × Obj)) (gp : Nat) (L : List C) (E : List (Nat × Obj)) : Prop :=
  ∃ J R lv rows, (∀ q ∈ J0, q ∈ J) ∧ E = J ++ (R ++ [(gp, refBox lv)]) ∧ RowG 143 4 R lv L.length (joinV rows) ∧ rows.length = L.length ∧ (∀ (i : Nat) (c : C) (vs : List Value), L[i]? = some c → rows[i]? = some vs → CellIn J c vs) ∧ L.length ≤ 2000 ∧ used L ≤ 40000 ∧ (L = [] → lv = .slice none 0 0)
abbrev RefB (gp : Nat) (L : List C) (E : List (Nat × Obj)) : Prop := RefK [] gp L E
theorem RefK.new (gp : Nat) : RefB gp [] [(gp, refBox (.slice none 0 0))] :=
  ⟨[], [], .slice none 0 0, [], fun _ h => h, rfl, .inl ⟨rfl, rfl, rfl, rfl⟩, rfl, fun i c vs h => by simp at h, by simp, by simp [used], fun _ => rfl⟩
theorem joinV_get : ∀ (rows : List (List Value)) (i j : Nat) (vs : List Value), (∀ r ∈ rows, r.length = 4) → rows[i]? = some vs → j < 4 → (joinV rows)[i * 4 + j]? = vs[j]?
  | [], i, j, vs, _, h, _ => by simp at h
  | r :: rows, 0, j, vs, hl, h, hj => by
    simp only [List.getElem?_cons_zero, Option.some.injEq] at h
    subst h
    have := hl r (List.mem_cons_self ..)
    rw [Nat.zero_mul, Nat.zero_add]
    unfold joinV
    rw [List.flatMap_cons, List.getElem?_append_left (by simp only [id]; omega)]
    rfl
  | r :: rows, i + 1, j, vs, hl, h, hj => by
    have h4 := hl r (List.mem_cons_self ..)
    have := joinV_get rows i j vs (fun x hx => hl x (List.mem_cons_of_mem _ hx)) (by simpa using h) hj
    unfold joinV at this ⊢
    rw [List.flatMap_cons, List.getElem?_append_right (by simp only [id]; omega), ← this]
    congr 1
    simp only [id]; omega
theorem used_take (L : List C) (i : Nat) (c : C) (h : L[i]? = some c) : used (L.take (i + 1)) = used (L.take i) + c.size := by
  unfold used
  rw [List.take_add_one, h]
  simp
theorem used_le (L : List C) (i : Nat) : used (L.take i) ≤ used L := by
  unfold used
  conv => rhs; rw [← List.take_append_drop i L]
  rw [List.map_append, List.sum_append]
  omega
set_option maxRecDepth 100000 in
theorem rsize_any (k : Int) (a b : Option Addr) (n c m d : Nat) (lk : Bool) (hn : n ≤ 100000) (hm : m ≤ 100000) (w : World) :
    Calls Tryz.prog 82 #[.agg #[.int .i64 k, .slice a n c, .slice b m d, .bool lk]] w fun e w' => e = .returned (.int .i64 ((n + m : Nat) : Int)) ∧ Chg NoB w w' := by
  have h1 : (n : Int) ≤ 100000 := by omega
  have h2 : (m : Int) ≤ 100000 := by omega
  go_enter Tryz.func82, Tryz.ntmps82
  go_wp2_with fail
  go_ret
  exact ⟨by simp, (Chg.refl NoB w).alloc _⟩
/-- What the boxes of a reference tell, in whatever order they lie. -/
theorem RefK.parts {J0 : List (Nat × Obj)} {gp : Nat} {L : List C} {E : List (Nat × Obj)} (h : RefK J0 gp L E) : ∃ lv, (gp, refBox lv) ∈ E ∧ ((L = [] ∧ lv = .slice none 0 0) ∨ ∃ g cap cur, lv = .slice (some ⟨g, 0, none⟩) L.length cap ∧ L.length ≤ cap ∧ (g, Obj.cells cur 143) ∈ E ∧ 0 < L.length ∧
    ∀ (i : Nat) (c : C), L[i]? = some c → ∃ vs, CellIn E c vs ∧ ∀ j, j < 4 → cur[i * 4 + j]? = vs[j]?) := by
  obtain ⟨J, R, lv, rows, hJ0, rfl, hr, hl, hc, h1, h2, h3⟩ := h
  refine ⟨lv, by simp, ?_⟩
  by_cases hL : L = []
  · exact .inl ⟨hL, h3 hL⟩
  · have hpos : 0 < L.length := List.length_pos_iff.2 hL
    obtain ⟨g, cap, cur, rfl, rfl, hcur⟩ := hr.shape hpos
    have hcap : L.length ≤ cap := by
      rcases hr with ⟨h, -⟩ | ⟨_, _, _, h, -, h2, -⟩
      · simp at h
      · simp only [Value.slice.injEq] at h; omega
    refine .inr ⟨g, cap, cur, rfl, hcap, by simp, hpos, fun i c hi => ?_⟩
    have hi' := (List.getElem?_eq_some_iff.1 hi).1
    obtain ⟨vs, hvs⟩ : ∃ vs, rows[i]? = some vs := ⟨rows[i]'(by omega), List.getElem?_eq_getElem _⟩
    have hcell := hc i c vs hi hvs
    refine ⟨vs, hcell.mono (fun q hq => by simp [hq]), fun j hj => ?_⟩
    rw [hcur _ (by omega)]
    refine joinV_get rows i j vs (fun r hr => ?_) hvs hj
    obtain ⟨k, hk, rfl⟩ := List.getElem_of_mem hr
    exact (hc k (L[k]'(by omega)) rows[k] (List.getElem?_eq_getElem _) (List.getElem?_eq_getElem _)).len
theorem RefK.bounds {J0 : List (Nat × Obj)} {gp : Nat} {L : List C} {E : List (Nat × Obj)} (h : RefK J0 gp L E) : L.length ≤ 2000 ∧ used L ≤ 40000 := by
  obtain ⟨J, R, lv, rows, hJ0, rfl, hr, hl, hc, h1, h2, h3⟩ := h
  exact ⟨h1, h2⟩
set_option maxRecDepth 100000 in
set_option maxHeartbeats 1000000 in
theorem rused_any {J0 : List (Nat × Obj)} {w0 w : World} {M : List (Nat × List C)} {E K : List (Nat × Obj)} {gp : Nat} {L : List C} (H : RefK J0 gp L E) (A : Ats w0 w M K) (hE : ∀ q ∈ E, q ∈ K) :
    Calls Tryz.prog 40 #[ptr gp] w fun e w' => e = .returned (.int .i64 (used L)) ∧ Ats w0 w' M K := by
  obtain ⟨h1, h2⟩ := H.bounds
  obtain ⟨lv, hb, hrow⟩ := H.parts
  have hbK := hE _ hb
  have HA := hid' A
  have HB := hid' hbK
  rcases hrow with ⟨rfl, rfl⟩ | ⟨g, cap, cur, rfl, hcap, hg, hpos, hcell⟩
  · clear A hb
    go_enter Tryz.func40, Tryz.ntmps40
    go_wp2_with fail
    go_loopw [3, 4] (fun nv iv wr => nv = .int .i64 0 ∧ iv = .int .i64 0 ∧ Ats w0 wr M K) (fun _ _ _ => 0)
    case atStart => exact ⟨rfl, rfl, HA.out⟩
    case round =>
      obtain ⟨rfl, rfl, A1⟩ := hrel
      (try clear Rs); (try clear ys); (try clear Zs)
      have Rs := cells_of (A1.box _ HB.out)
      have ys := blk_lt (A1.box _ HB.out)
      (try simp only at Rs ys)
      go_wp2_with fail
      go_ret
      exact ⟨rfl, A1⟩
  · have hgK := hE _ hg
    have HC := hid' hcell
    have HG := hid' hgK
    obtain ⟨n, hn⟩ : ∃ n, L.length = n := ⟨_, rfl⟩
    rw [hn] at hbK HB hcap hpos h1 hb
    have hni : (n : Int) ≤ 2000 := by omega
    have hnc : (n : Int) ≤ cap := by omega
    have HN := hid' hn
    clear A hcell hgK hbK hn hb hg
    go_enter Tryz.func40, Tryz.ntmps40
    go_wp2_with fail
    go_loopw [3, 4] (fun nv iv wr => ∃ i : Nat, i ≤ n ∧ nv = .int .i64 (used (L.take i)) ∧ iv = .int .i64 i ∧ Ats w0 wr M K) (fun _ iv _ => n - (intOf iv).toNat)
    case atStart => exact ⟨0, Nat.zero_le _, by simp [used], rfl, HA.out⟩
    case round =>
      obtain ⟨i, hi, rfl, rfl, A1⟩ := hrel
      (try clear Rs); (try clear ys); (try clear Zs)
      have Rs := cells_of (A1.box _ HB.out)
      have ys := blk_lt (A1.box _ HB.out)
      (try clear Rg); (try clear yg); (try clear Zg)
      have Rg := cells_of (A1.box _ HG.out)
      have yg := blk_lt (A1.box _ HG.out)
      (try simp only at Rs ys Rg yg)
      by_cases hlt : i < n
      · obtain ⟨c, hc⟩ : ∃ c, L[i]? = some c := ⟨L[i]'(by rw [HN.out]; exact hlt), List.getElem?_eq_getElem _⟩
        obtain ⟨vs, ⟨vi, vb, rfl, hi6, hb1, ht1, ht2⟩, hv⟩ := HC.out i c hc
        have hsz : c.items.length + c.bytes.length = c.size := CellIn.size ⟨vi, vb, rfl, hi6, hb1, ht1, ht2⟩
        have HT := hid' (used_take L i c hc)
        have hle := used_le L (i + 1)
        rw [HT.out] at hle
        obtain ⟨a, ca, rfl, -⟩ := hi6.slice
        obtain ⟨b, cb, rfl, -⟩ := hb1.slice
        have HS := hid' (fun w' => rsize_any c.kind a b c.items.length ca c.bytes.length cb c.locked (by omega) (by omega) w')
        rw [hsz] at HS
        have v0 := hv 0 (by omega)
        have v1 := hv 1 (by omega)
        have v2 := hv 2 (by omega)
        have v3 := hv 3 (by omega)
        simp only [List.getElem?_cons_zero, List.getElem?_cons_succ, Nat.add_zero] at v0 v1 v2 v3
        have u1 : (used (L.take i) : Int) ≤ 40000 := by omega
        have u2 : (c.size : Int) ≤ 40000 := by omega
        have u3 : (0 : Int) ≤ used (L.take i) := by omega
        have u4 : (0 : Int) ≤ c.size := by omega
        have hlt' : (i : Int) < n := by omega
        clear hv hle hsz hc hi6 hb1 ht1 ht2
        obtain ⟨U, hU⟩ : ∃ U : Int, (used (L.take i) : Int) = U := ⟨_, rfl⟩
        obtain ⟨Z, hZ⟩ : ∃ Z : Int, (c.size : Int) = Z := ⟨_, rfl⟩
        have HU := hid' hU
        have HZ := hid' hZ
        rw [hU] at u1 u3 ⊢
        rw [hZ] at u2 u4 HS
        clear hU hZ
        generalize c.items.length = ni at *
        generalize c.bytes.length = nb at *
        generalize c.kind = ck at *
        generalize c.locked = clk at *
        go_wp2_with fail
        refine (HS.out _).mono ?_
        rintro r w2 ⟨rfl, X2⟩
        have A2 := A1.pure X2
        clear A1 X2
        go_wp2_with fail
        go_roundw
        case rel => exact ⟨i + 1, by omega, by rw [HT.out]; push_cast; rw [HU.out, HZ.out], by go_num, A2⟩
        case measure => simp [intOf]; omega
      · obtain rfl : i = n := by omega
        rw [List.take_of_length_le (by rw [HN.out]; exact Nat.le_refl _)]
        go_wp2_with fail
        go_ret
        exact ⟨rfl, A1⟩
end Go.Proofs.YtpgkjgceldleaaaGreat
/- Walk: tympanref10.May. -/
namespace Go.Proofs.YtpgkjgceldleaaaGreat
open Go.RowKit

theorem in_any (v a b : Int) (w : World) : Calls Tryz.prog 182 #[.int .i64 v, .int .i64 a, .int .i64 b] w fun e w' => e = .returned (.bool (decide (a ≤ v) && decide (v ≤ b))) ∧ w = w' := by
  by_cases h1 : a ≤ v <;> by_cases h2 : v ≤ b
  all_goals
    go_enter Tryz.func182, Tryz.ntmps182
    go_wp2_with fail
    go_ret
    exact ⟨by simp [h1, h2], rfl⟩
theorem eq_clamp (k n a l lo hi : Int) (x : Bool) (s : ByteArray) (hlh : lo ≤ hi) : eqO ⟨k, x, n, a, l, s⟩ ⟨k, x, min (max n lo) hi, 0, 0, ⟨#[]⟩⟩ = (decide (a = 0) && decide (l = 0) && decide (s = ⟨#[]⟩) && (decide (lo ≤ n) && decide (n ≤ hi))) := by
  rw [Bool.eq_iff_iff, eqO_iff]
  simp only [O.mk.injEq, true_and, Bool.and_eq_true, decide_eq_true_eq]
  constructor
  · rintro ⟨h1, h2, h3, h4⟩
    exact ⟨⟨⟨h2, h3⟩, h4⟩, by omega, by omega⟩
  · rintro ⟨⟨⟨h2, h3⟩, h4⟩, h5, h6⟩
    exact ⟨by omega, h2, h3, h4⟩
theorem may_clamp (k n a l : Int) (x : Bool) (s : ByteArray) (h : k = 2 ∨ k = 3 ∨ k = 4 ∨ k = 7 ∨ k = 10 ∨ k = 11) : eqO (bareO ⟨k, x, n, a, l, s⟩) { O.nil with kind := k } = (decide (a = 0) && decide (l = 0) && decide (s = ⟨#[]⟩)) := by
  rw [Bool.eq_iff_iff, eqO_iff]
  rcases h with rfl | rfl | rfl | rfl | rfl | rfl <;> simp [bareO, O.nil, and_assoc]
set_option maxRecDepth 100000 in
set_option maxHeartbeats 4000000 in
theorem rmay_num (k n a l : Int) (x : Bool) (s : ByteArray) (h : k = 2 ∨ k = 3 ∨ k = 4 ∨ k = 7 ∨ k = 10 ∨ k = 11) (w : World) :
    Calls Tryz.prog 134 #[(⟨k, x, n, a, l, s⟩ : O).val] w fun e w' => e = .returned (.bool (mayO ⟨k, x, n, a, l, s⟩)) ∧ Chg NoB w w' := by
  have hm : mayO ⟨k, x, n, a, l, s⟩ = (eqO (bareO ⟨k, x, n, a, l, s⟩) { O.nil with kind := k } && _) := rfl
  rw [may_clamp k n a l x s h] at hm
  have HM := hid' hm
  rcases h with rfl | rfl | rfl | rfl | rfl | rfl
  all_goals
    clear hm
    go_enter Tryz.func134, Tryz.ntmps134
    go_wp2_with fail
    all_goals
      go_ret
      refine ⟨congrArg (fun b => Ending.returned (.bool b)) (?_ : eqO _ _ = _), ((Chg.refl NoB w).alloc _).alloc _⟩
      rw [HM.out, Bool.eq_iff_iff, eqO_iff]
      simp only [O.mk.injEq, true_and, Bool.and_eq_true, decide_eq_true_eq]
      simp only [Int.reduceEq, or_self, if_false, if_true, Bool.and_eq_true, decide_eq_true_eq]
      constructor <;> intro hh <;> (try simp_all) <;> (try omega)
set_option maxRecDepth 100000 in
set_option maxHeartbeats 4000000 in
theorem rmay_plain (k n a l : Int) (x : Bool) (s : ByteArray) (h : k = 1 ∨ k = 6) (w : World) :
    Calls Tryz.prog 134 #[(⟨k, x, n, a, l, s⟩ : O).val] w fun e w' => e = .returned (.bool (mayO ⟨k, x, n, a, l, s⟩)) ∧ Chg NoB w w' := by
  have hm : eqO ⟨k, x, n, a, l, s⟩ ⟨k, x, 0, 0, 0, ⟨#[]⟩⟩ = mayO ⟨k, x, n, a, l, s⟩ := by
    rw [Bool.eq_iff_iff, eqO_iff]
    rcases h with rfl | rfl <;> simp [mayO, eqO, bareO, O.nil]
  have HM := hid' hm
  clear hm
  rcases h with rfl | rfl
  all_goals
    go_enter Tryz.func134, Tryz.ntmps134
    go_wp2_with fail
    go_ret
    exact ⟨congrArg (fun b => Ending.returned (.bool b)) HM.out, ((Chg.refl NoB w).alloc _).alloc _⟩
set_option maxRecDepth 100000 in
set_option maxHeartbeats 4000000 in
theorem rmay_name (n a l : Int) (x : Bool) (s : ByteArray) (w : World) :
    Calls Tryz.prog 134 #[(⟨5, x, n, a, l, s⟩ : O).val] w fun e w' => e = .returned (.bool (mayO ⟨5, x, n, a, l, s⟩)) ∧ Chg NoB w w' := by
  by_cases hs : s.size ≤ 100
  · have hm : eqO ⟨5, x, n, a, l, s⟩ ⟨5, x, 0, 0, 0, s⟩ = mayO ⟨5, x, n, a, l, s⟩ := by
      rw [Bool.eq_iff_iff, eqO_iff]
      simp [mayO, eqO, bareO, O.nil]
      omega
    have HM := hid' hm
    have hx : s.extract 0 s.size = s := by apply ByteArray.ext; rw [ByteArray.data_extract]; exact Array.extract_size ..
    have h1 : min (s.size : Int) 100 = s.size := by omega
    have hsi : (s.size : Int) ≤ 100 := by omega
    clear hm hs
    go_enter Tryz.func134, Tryz.ntmps134
    go_wp2_with fail
    go_ret
    exact ⟨congrArg (fun b => Ending.returned (.bool b)) HM.out, ((Chg.refl NoB w).alloc _).alloc _⟩
  · have hne : s ≠ s.extract 0 100 := by
      intro e
      have := congrArg ByteArray.size e
      rw [ByteArray.size_extract] at this
      omega
    have hm : eqO ⟨5, x, n, a, l, s⟩ ⟨5, x, 0, 0, 0, s.extract 0 100⟩ = mayO ⟨5, x, n, a, l, s⟩ := by
      rw [Bool.eq_iff_iff, eqO_iff]
      simp [mayO, eqO, bareO, O.nil, hne]
      omega
    have HM := hid' hm
    have h1 : min (s.size : Int) 100 = 100 := by omega
    have hsi : (100 : Int) < s.size := by omega
    clear hm hs hne
    go_enter Tryz.func134, Tryz.ntmps134
    go_wp2_with fail
    all_goals
      go_ret
      exact ⟨congrArg (fun b => Ending.returned (.bool b)) HM.out, ((Chg.refl NoB w).alloc _).alloc _⟩
set_option maxRecDepth 100000 in
set_option maxHeartbeats 4000000 in
theorem rmay_row (k n a l : Int) (x : Bool) (s : ByteArray) (h : k = 8 ∨ k = 9) (w : World) :
    Calls Tryz.prog 134 #[(⟨k, x, n, a, l, s⟩ : O).val] w fun e w' => e = .returned (.bool (mayO ⟨k, x, n, a, l, s⟩)) ∧ Chg NoB w w' := by
  obtain ⟨e, he⟩ : ∃ e, eqO ⟨k, x, n, a, l, s⟩ ⟨k, x, n, a, l, ⟨#[]⟩⟩ = e := ⟨_, rfl⟩
  have HI1 := hid' (fun w => in_any n 0 40000 w)
  have HI2 := hid' (fun w => in_any a 0 40000 w)
  have HI3 := hid' (fun w => in_any l 0 40000 w)
  have hm : (e && ((decide (0 ≤ n) && decide (n ≤ 40000)) && (decide (0 ≤ a) && decide (a ≤ 40000)) && (decide (0 ≤ l) && decide (l ≤ 40000)))) = mayO ⟨k, x, n, a, l, s⟩ := by
    rw [← he, Bool.eq_iff_iff, Bool.and_eq_true, eqO_iff]
    rcases h with rfl | rfl <;> simp [mayO, eqO, bareO, O.nil]
  have HM := hid' hm
  clear hm
  generalize (decide (0 ≤ n) && decide (n ≤ 40000)) = b1 at *
  generalize (decide (0 ≤ a) && decide (a ≤ 40000)) = b2 at *
  generalize (decide (0 ≤ l) && decide (l ≤ 40000)) = b3 at *
  generalize mayO ⟨k, x, n, a, l, s⟩ = mm at *
  cases e <;> cases b1 <;> cases b2 <;> rcases h with rfl | rfl
  all_goals
    go_enter Tryz.func134, Tryz.ntmps134
    go_wp2_with fail
    go_region
    go_wp2_with (go_at_call 182; first | ((with_reducible refine (HI1.out _).mono ?_); rintro r w2 ⟨rfl, rfl⟩) | ((with_reducible refine (HI2.out _).mono ?_); rintro r w2 ⟨rfl, rfl⟩) | ((with_reducible refine (HI3.out _).mono ?_); rintro r w2 ⟨rfl, rfl⟩))
    go_ret
    exact ⟨congrArg (fun b => Ending.returned (.bool b)) (by simpa using HM.out), (((Chg.refl NoB w).alloc _).alloc _).drew⟩
/-- tympanref10.May is obj.May. -/
theorem rmay_any (o : O) (w : World) : Calls Tryz.prog 134 #[o.val] w fun e w' => e = .returned (.bool (mayO o)) ∧ Chg NoB w w' := by
  obtain ⟨k, x, n, a, l, s⟩ := o
  by_cases h1 : k = 1 ∨ k = 6
  · exact rmay_plain k n a l x s h1 w
  by_cases h2 : k = 2 ∨ k = 3 ∨ k = 4 ∨ k = 7 ∨ k = 10 ∨ k = 11
  · exact rmay_num k n a l x s h2 w
  by_cases h3 : k = 5
  · subst h3; exact rmay_name n a l x s w
  by_cases h4 : k = 8 ∨ k = 9
  · exact rmay_row k n a l x s h4 w
  have HM := hid' (show mayO ⟨k, x, n, a, l, s⟩ = false by
    unfold mayO
    simp only [not_or] at h1 h2 h4
    simp only [h1, h2, h3, h4, or_self, if_false, Bool.and_false])
  have e1 : (k == 1) = false := by simp; omega
  have e2 : (k == 2) = false := by simp; omega
  have e3 : (k == 3) = false := by simp; omega
  have e4 : (k == 4) = false := by simp; omega
  have e5 : (k == 5) = false := by simp; omega
  have e6 : (k == 6) = false := by simp; omega
  have e7 : (k == 7) = false := by simp; omega
  have e8 : (k == 8) = false := by simp; omega
  have e9 : (k == 9) = false := by simp; omega
  have e10 : (k == 10) = false := by simp; omega
  have e11 : (k == 11) = false := by simp; omega
  clear h1 h2 h3 h4
  go_enter Tryz.func134, Tryz.ntmps134
  go_wp2_with fail
  go_ret
  exact ⟨congrArg (fun b => Ending.returned (.bool b)) HM.out.symm, ((Chg.refl NoB w).alloc _).alloc _⟩
end Go.Proofs.YtpgkjgceldleaaaGreat
/- The reference's heap: make. -/
namespace Go.Proofs.YtpgkjgceldleaaaGreat
open Go.RowKit

theorem Tryz.infoRcell : (Tryz.prog.info? 143).map (fun i => (i.zero, i.size, i.bytes)) = some (some (.agg #[.int .i64 0, .slice none 0 0, .slice none 0 0, .bool false]), 4, 64) := by kernel_rfl
theorem Tryz.underRcells : Tryz.prog.underlying 60 = some (.slice 143) := by kernel_rfl
/-- Ats, for a drawn region to hold. -/
def AnyA (w0 : World) (M : List (Nat × List C)) (KL : List (Nat × Obj)) (W : World) : Prop := Ats w0 W M KL
theorem AnyA.drew {w0 W : World} {M : List (Nat × List C)} {KL : List (Nat × Obj)} (h : AnyA w0 M KL W) : AnyA w0 M KL W.drew := Ats.drew h
theorem AnyA.pure {w0 W W' : World} {M : List (Nat × List C)} {KL : List (Nat × Obj)} (h : AnyA w0 M KL W) (X : Chg NoB W W') : AnyA w0 M KL W' := Ats.pure h X
theorem AnyA.cells {w0 : World} {M : List (Nat × List C)} {KL : List (Nat × Obj)} {g : Nat} {cs : Array Value} {T : TypeId} {fz : Nat × Nat} (hm : (g, Obj.cells cs T fz) ∈ KL) : ∀ W, AnyA w0 M KL W → ∀ i, W.cell? ⟨g, i, none⟩ = cs[i]? :=
  fun _W h => cells_of (Ats.box h _ hm)
/-- An append onto a row among the boxes, at a step of a region that draws. -/
theorem step_app {ops : Array Oper} {o : Oper} {a : Act} {w : World} {Q : Act → World → Prop} {Q' : Exit → Act → World → Prop} {E : Prop} (hgd : o.guard = none) (s x : Operand) (t : TypeId)
    (ho : o.op = .call { callee := .builtin .append, args := #[s, x], argTypes := #[t, t] })
    (T : TypeId) (i : TypeInfo) (z : Value) (size bytes : Nat) (ht : Tryz.prog.underlying t = some (.slice T)) (hi : Tryz.prog.info? T = some i) (hz : i.zero = some z)
    (hsize : i.size = size) (hby : i.bytes = bytes) (hzs : z.cells.size = size) (hsz : 0 < size)
    {w0 : World} {M : List (Nat × List C)} (R K : List (Nat × Obj)) (v : Value) (n : Nat) (xs : List Value) (A : Ats w0 w M (R ++ K)) (hR : RowG T size R v n xs) (hs : a.eval s = v)
    (ad : Addr) (m c : Nat) (news : List Value) (hx : a.eval x = .slice (some ad) m c) (hl : news.length = m * size) (hnews : ∀ j u, news[j]? = some u → w.cell? (ad.add j) = some u) (h1 : ∀ u ∈ news, u.oneCell' = true)
    (hm : 0 < m) (h63 : n + m ≤ maxLen) (hbytes : (n + m) * bytes ≤ 140737488355328)
    (h : ∀ g cap w' R', RowG T size R' (.slice (some ⟨g, 0, none⟩) (n + m) cap) (n + m) (xs ++ news) → Ats w0 w' M (R' ++ K) → Q (a.put o.dst (.slice (some ⟨g, 0, none⟩) (n + m) cap)) w') :
    if Region.wanted o (yielded ops a.tmps) = true then Oper.wp Tryz.prog o a w Q Q' else E := by
  refine step_append_lies w hgd s x t ho w0.heap.size T i z size bytes ht hi hz hsize hby hzs hsz v n xs hs (Ats.ownsG A hR) ad m c news hx hl hnews h1 hm h63 hbytes A.chg.size _ rfl ?_
  intro g cap w' hown hgr hg hgl
  obtain ⟨R', hR', A'⟩ := Ats.grownG A hR hown hgr (by
    rcases hg with e | e
    · exact .inl (by rw [e]; simp [Value.ownBlock])
    · exact .inr (by simp [Value.ownBlock, e])) hm
  exact h g cap w' R' hR' A'
/-- The same onto nothing. -/
theorem step_app0 {ops : Array Oper} {o : Oper} {a : Act} {w : World} {Q : Act → World → Prop} {Q' : Exit → Act → World → Prop} {E : Prop} (hgd : o.guard = none) (s x : Operand) (t : TypeId)
    (ho : o.op = .call { callee := .builtin .append, args := #[s, x], argTypes := #[t, t] })
    (T : TypeId) (i : TypeInfo) (z : Value) (size bytes : Nat) (ht : Tryz.prog.underlying t = some (.slice T)) (hi : Tryz.prog.info? T = some i) (hz : i.zero = some z)
    (hsize : i.size = size) (hby : i.bytes = bytes) (hzs : z.cells.size = size) (hsz : 0 < size)
    {w0 : World} {M : List (Nat × List C)} (K : List (Nat × Obj)) (A : Ats w0 w M K) (hs : a.eval s = .slice none 0 0)
    (ad : Addr) (m c : Nat) (news : List Value) (hx : a.eval x = .slice (some ad) m c) (hl : news.length = m * size) (hnews : ∀ j u, news[j]? = some u → w.cell? (ad.add j) = some u) (h1 : ∀ u ∈ news, u.oneCell' = true)
    (hm : 0 < m) (h63 : m ≤ maxLen) (hbytes : m * bytes ≤ 140737488355328)
    (h : ∀ g cap w' R', RowG T size R' (.slice (some ⟨g, 0, none⟩) m cap) m news → Ats w0 w' M (R' ++ K) → Q (a.put o.dst (.slice (some ⟨g, 0, none⟩) m cap)) w') :
    if Region.wanted o (yielded ops a.tmps) = true then Oper.wp Tryz.prog o a w Q Q' else E := by
  refine step_app hgd s x t ho T i z size bytes ht hi hz hsize hby hzs hsz [] K (.slice none 0 0) 0 [] A (.inl ⟨rfl, rfl, rfl, rfl⟩) hs ad m c news hx hl hnews h1 hm (by omega) (by rw [Nat.zero_add]; exact hbytes) ?_
  intro g cap w' R'
  rw [Nat.zero_add, List.nil_append]
  exact h g cap w' R'
theorem news_take {w : World} {g : Nat} {cur : Array Value} {T : TypeId} {fz : Nat × Nat} (hb : w.heap[g]? = some (.cells cur T fz)) (n : Nat) (xs : List Value) (hx : cur.toList.take n = xs) : ∀ j u, xs[j]? = some u → w.cell? ((⟨g, 0, none⟩ : Addr).add j) = some u := by
  intro j u hj
  refine World.news_of_block hb j u ?_
  rw [← hx, List.getElem?_take] at hj
  split at hj
  · exact hj
  · simp at hj
theorem news_box {w0 w : World} {M : List (Nat × List C)} {K : List (Nat × Obj)} {g : Nat} {cs : List Value} {T : TypeId} {fz : Nat × Nat} (A : Ats w0 w M K) (hm : (g, Obj.cells cs.toArray T fz) ∈ K) : ∀ j u, cs[j]? = some u → w.cell? ((⟨g, 0, none⟩ : Addr).add j) = some u :=
  news_take (A.box _ hm) cs.length cs (by simp)
theorem CellIn.one {J : List (Nat × Obj)} {c : C} {vs : List Value} (h : CellIn J c vs) : ∀ u ∈ vs, u.oneCell' = true := by
  obtain ⟨vi, vb, rfl, h1, h2, -⟩ := h
  obtain ⟨a, ca, rfl, -⟩ := h1.slice
  obtain ⟨b, cb, rfl, -⟩ := h2.slice
  intro u hu
  simp only [List.mem_cons, List.not_mem_nil, or_false] at hu
  rcases hu with rfl | rfl | rfl | rfl <;> rfl
theorem RowIn.less {J : List (Nat × Obj)} {T : TypeId} {sz : Nat} {v : Value} {n : Nat} {xs : List Value} {gp : Nat} {lv : Value} (h : RowIn (J ++ [(gp, refBox lv)]) T sz v n xs) (hT : T ≠ 62) : RowIn J T sz v n xs := by
  rcases h with h | ⟨g, cap, cur, fz, h1, h2, h3⟩
  · exact .inl h
  · refine .inr ⟨g, cap, cur, fz, h1, ?_, h3⟩
    rcases List.mem_append.1 h2 with h | h
    · exact h
    · have := List.mem_singleton.1 h
      simp only [Prod.mk.injEq, Obj.cells.injEq] at this
      exact absurd this.2.2.1 hT
theorem CellIn.less {J R : List (Nat × Obj)} {c : C} {vs : List Value} {gp : Nat} {lv : Value} (h : CellIn (J ++ (R ++ [(gp, refBox lv)])) c vs) : CellIn (J ++ R) c vs := by
  rw [← List.append_assoc] at h
  obtain ⟨vi, vb, h1, h2, h3, h4⟩ := h
  exact ⟨vi, vb, h1, h2.less (by decide), h3.less (by decide), h4⟩
theorem joinV_len : ∀ (rows : List (List Value)), (∀ r ∈ rows, r.length = 4) → (joinV rows).length = rows.length * 4
  | [], _ => rfl
  | r :: rows, h => by
    have := joinV_len rows (fun x hx => h x (List.mem_cons_of_mem _ hx))
    have h4 := h r (List.mem_cons_self ..)
    unfold joinV at this ⊢
    rw [List.flatMap_cons, List.length_append, this, List.length_cons]
    simp only [id]; omega
/-- The reference's heap with one cell more. -/
theorem RefK.grow {J0 : List (Nat × Obj)} {w0 w : World} {M : List (Nat × List C)} {K J R R2 : List (Nat × Obj)} {gp : Nat} {L : List C} {lv v : Value} {rows : List (List Value)} {c : C} {vs : List Value}
    (A : Ats w0 w M (R2 ++ ((J ++ (R ++ [(gp, refBox lv)])) ++ K))) (hR : RowG 143 4 R2 v (L.length + 1) (joinV rows ++ vs)) (hl : rows.length = L.length) (hc : ∀ (i : Nat) (c : C) (vs : List Value), L[i]? = some c → rows[i]? = some vs → CellIn J c vs)
    (hx : CellIn (J ++ R) c vs) (h1 : L.length < 2000) (h2 : used L + c.size ≤ 40000) (hJ0 : ∀ q ∈ J0, q ∈ J) :
    ∃ E', RefK J0 gp (L ++ [c]) E' ∧ Ats w0 (w.setCell ⟨gp, 0, none⟩ v) M (E' ++ K) := by
  have A1 := (A.perm (K' := (gp, refBox lv) :: ((J ++ R) ++ R2 ++ K)) ?_).put 0 v
  · refine ⟨(J ++ R) ++ (R2 ++ [(gp, refBox v)]), ⟨J ++ R, R2, v, rows ++ [vs], fun q hq => List.mem_append_left _ (hJ0 q hq), rfl, ?_, by simp [hl], ?_, by simp; omega, ?_, fun h => by simp at h⟩, A1.perm ?_⟩
    · rw [List.length_append, List.length_singleton]
      unfold joinV at hR ⊢
      rw [List.flatMap_append, List.flatMap_singleton]
      exact hR
    · intro i d us hi hu
      rcases Nat.lt_or_ge i L.length with h | h
      · rw [List.getElem?_append_left h] at hi
        rw [List.getElem?_append_left (by omega)] at hu
        exact (hc i d us hi hu).mono fun q hq => List.mem_append_left _ hq
      · rw [List.getElem?_append_right h] at hi
        rw [List.getElem?_append_right (by omega), hl] at hu
        have hi0 : i - L.length = 0 := by
          rcases Nat.eq_zero_or_pos (i - L.length) with e | e
          · exact e
          · rw [List.getElem?_eq_none (by simp; omega)] at hi; simp at hi
        rw [hi0] at hi hu
        simp only [List.getElem?_cons_zero, Option.some.injEq] at hi hu
        subst hi; subst hu
        exact hx
    · unfold used at h2 ⊢
      rw [List.map_append, List.sum_append]
      simpa using h2
    · change List.Perm ((gp, refBox v) :: ((J ++ R) ++ R2 ++ K)) _
      classical refine List.perm_iff_count.2 fun q => ?_
      simp only [List.count_append, List.count_cons, List.count_nil]
      omega
  · classical refine List.perm_iff_count.2 fun q => ?_
    simp only [List.count_append, List.count_cons, List.count_nil]
    omega
/-- A box more among those that are not written. -/
theorem RefK.more {J0 : List (Nat × Obj)} {gp : Nat} {L : List C} {E : List (Nat × Obj)} (h : RefK J0 gp L E) (q : Nat × Obj) : RefK J0 gp L (q :: E) := by
  obtain ⟨J, R, lv, rows, hJ0, rfl, h1, h2, h3, h4⟩ := h
  exact ⟨q :: J, R, lv, rows, fun x hx => List.mem_cons_of_mem _ (hJ0 x hx), rfl, h1, h2, fun i c vs hi hv => (h3 i c vs hi hv).mono fun q hq => List.mem_cons_of_mem _ hq, h4⟩
theorem rused_anyA {J0 : List (Nat × Obj)} {w0 w : World} {M : List (Nat × List C)} {E K : List (Nat × Obj)} {gp : Nat} {L : List C} (H : RefK J0 gp L E) (hE : ∀ q ∈ E, q ∈ K) (U : Int) (hU : (used L : Int) = U) (A : AnyA w0 M K w) :
    Calls Tryz.prog 40 #[ptr gp] w fun e w' => e = .returned (.int .i64 U) ∧ AnyA w0 M K w' := by
  rw [← hU]; exact rused_any H A hE
/-- Two boxes more, under one name. -/
theorem Ats.two {w0 w : World} {M : List (Nat × List C)} {K : List (Nat × Obj)} (A : Ats w0 w M K) (o1 o2 : Obj) : ∃ KL, AnyA w0 M KL ((w.alloc o1).alloc o2) ∧ (w.heap.size, o1) ∈ KL ∧ (w.heap.size + 1, o2) ∈ KL ∧ (∀ q ∈ K, q ∈ KL) ∧ K.Sublist KL ∧ KL = (w.heap.size + 1, o2) :: (w.heap.size, o1) :: K := by
  have h := (A.alloc o1).alloc o2
  rw [World.size_alloc] at h
  exact ⟨_, h, by simp, by simp, fun q hq => by simp [hq], (List.sublist_cons_self _ _).trans (List.sublist_cons_self _ _), rfl⟩
theorem Ats.outR {w0 w : World} {M : List (Nat × List C)} {E K K2 : List (Nat × Obj)} {x r c : Nat × Obj} (A : Ats w0 w M (x :: (E ++ K2))) (hK : K2 = r :: c :: K) : Ats w0 w M (r :: (E ++ K)) := by
  subst hK
  have h1 : (E ++ r :: c :: K).Perm (r :: c :: (E ++ K)) := List.perm_middle.trans (List.perm_middle.cons _)
  exact (A.perm (h1.cons x)).keep ((List.Sublist.cons_cons r (List.sublist_cons_self c _)).trans (List.sublist_cons_self x _))
/-- Two boxes more behind the reference's. -/
theorem Ats.twoE {w0 w : World} {M : List (Nat × List C)} {E K : List (Nat × Obj)} (A : Ats w0 w M (E ++ K)) (o1 o2 : Obj) : ∃ KL, AnyA w0 M (E ++ KL) ((w.alloc o1).alloc o2) ∧ (w.heap.size, o1) ∈ KL ∧ (w.heap.size + 1, o2) ∈ KL ∧ KL = (w.heap.size + 1, o2) :: (w.heap.size, o1) :: K := by
  obtain ⟨KL, h, h1, h2, h3, h4, rfl⟩ := A.two o1 o2
  refine ⟨_, Ats.perm h ?_, ?_, ?_, rfl⟩
  · exact ((List.perm_middle.symm.cons _).trans List.perm_middle.symm)
  · simp
  · simp
theorem news_new {W : World} {g : Nat} {cs : List Value} {T : TypeId} {fz : Nat × Nat} (hb : W.heap[g]? = some (.cells cs.toArray T fz)) : ∀ j u, cs[j]? = some u → W.cell? ((⟨g, 0, none⟩ : Addr).add j) = some u := news_take hb cs.length cs (by simp)
end Go.Proofs.YtpgkjgceldleaaaGreat
/- The reference's heap: make. -/
namespace Go.Proofs.YtpgkjgceldleaaaGreat
open Go.RowKit

set_option maxRecDepth 100000 in
set_option maxHeartbeats 2000000 in
theorem rmake_err {J0 : List (Nat × Obj)} {w0 w : World} {M : List (Nat × List C)} {E K : List (Nat × Obj)} {gp : Nat} {L : List C} {c : C} {ck : Int} {vi vb : Value} {clk : Bool} (H : RefK J0 gp L E) (A : Ats w0 w M (E ++ K)) (hc : CellIn E c [.int .i64 ck, vi, vb, .bool clk]) (hb : c.size ≤ 100000) (he : addE L c ≠ 0) :
    Calls Tryz.prog 112 #[ptr gp, .agg #[.int .i64 ck, vi, vb, .bool clk]] w fun e w' => e = .returned (.tuple #[O.nil.val, .int .i64 5]) ∧ Ats w0 w' M (E ++ K) := by
  obtain ⟨h1, h2⟩ := H.bounds
  obtain ⟨lv, hmem, hrow⟩ := H.parts
  have hsz := hc.size
  obtain ⟨vi', vb', hvs, hi6, hb1, -⟩ := hc
  simp only [List.cons.injEq, Value.int.injEq, Value.bool.injEq, true_and, and_true] at hvs
  obtain ⟨-, rfl, rfl, -⟩ := hvs
  obtain ⟨a, ca, rfl, -⟩ := hi6.slice
  obtain ⟨b, cb, rfl, -⟩ := hb1.slice
  obtain ⟨cap, al, rfl, hcap⟩ : ∃ cap al, lv = .slice al L.length cap ∧ L.length ≤ cap := by
    rcases hrow with ⟨rfl, rfl⟩ | ⟨g, cap, cur, rfl, h, -⟩
    · exact ⟨0, none, rfl, Nat.le_refl _⟩
    · exact ⟨_, _, rfl, h⟩
  have HS := fun w' => rsize_any ck a b c.items.length ca c.bytes.length cb clk (by omega) (by omega) w'
  rw [hsz] at HS
  obtain ⟨KL, A1, mC, mR, hKL, hsub, hKe⟩ := A.two (.cells #[.int .i64 ck, .slice a c.items.length ca, .slice b c.bytes.length cb, .bool clk] 143) (Obj.cells #[.int .i64 0, .bool false, .int .i64 0, .int .i64 0, .int .i64 0, .string ⟨#[]⟩] 38)
  have hbnd : (40000 < (used L : Int) + (c.size : Int) ∧ (L.length : Int) < 2000) ∨ (2000 : Int) ≤ L.length := by
    unfold addE at he
    by_cases c1 : 2000 ≤ L.length
    · right; omega
    · left
      by_cases c2 : 40000 - used L < c.size
      · omega
      · exact absurd (if_neg (by omega)) he
  have u1 : (used L : Int) ≤ 40000 := by omega
  have u2 : (c.size : Int) ≤ 100000 := by omega
  have u3 : (0 : Int) ≤ used L := by omega
  have u4 : (0 : Int) ≤ c.size := by omega
  obtain ⟨U, hU⟩ : ∃ U : Int, (used L : Int) = U := ⟨_, rfl⟩
  obtain ⟨Z, hZ⟩ : ∃ Z : Int, (c.size : Int) = Z := ⟨_, rfl⟩
  have HU := fun W (h : AnyA w0 M KL W) => rused_anyA H (fun q hq => hKL q (List.mem_append_left K hq)) U hU h
  rw [hU] at u1 u3 hbnd
  rw [hZ] at u2 u4 hbnd HS
  clear hU hZ hsz hi6 hb1 he A h2 hb hrow H
  generalize c.items.length = ni at *
  generalize c.bytes.length = nb at *
  generalize L.length = n at *
  have HUH := hid' HU
  have HKe := hid' hKe
  clear hKe
  have HSH := hid' HS
  have Rg := AnyA.cells (w0 := w0) (M := M) (hKL _ (List.mem_append_left K hmem))
  have Rc := AnyA.cells (w0 := w0) (M := M) mC
  have hS1 := A1
  have wr := IntWalk.i64_in (U + Z) (by omega)
  clear HU HS hmem hKL mC
  go_enter Tryz.func112, Tryz.ntmps112
  go_wp2_with fail
  generalize hW : (w.alloc _).alloc _ = w1 at *
  clear hW
  rcases hbnd with ⟨hb1, hb2⟩ | hb1
  · have hd1 : decide ((2000 : Int) ≤ (n : Int)) = false := by simp; omega
    have hd2 : decide ((40000 : Int) < U + Z) = true := by simp; omega
    go_region_held3 (fun W' => AnyA w0 M KL W') (first | (with_reducible assumption) | (with_reducible exact AnyA.pure (by with_reducible assumption) (by with_reducible assumption)) | (with_reducible exact AnyA.drew (by with_reducible assumption)))
      (first | (go_at_call 40; refine (HUH.out _ (by first | (with_reducible exact A1) | (with_reducible exact A1.drew) | (with_reducible assumption) | (with_reducible exact AnyA.drew (by with_reducible assumption)))).mono ?_; rintro r w4 ⟨rfl, S4⟩) | (go_at_call 82; refine (HSH.out _).mono ?_; rintro r w5 ⟨rfl, X5⟩))
    have A6 : Ats w0 w5 M KL := Ats.pure S4 X5
    clear Rg Rc A1 hS1 S4 X5
    generalize w5 = w6 at *
    have R6 := cells_of (A6.box _ mR)
    have y6 := blk_lt (A6.box _ mR)
    have Z6 := free_of (A6.box _ mR)
    have A7 := (HKe.out ▸ A6 : Ats w0 w6 M ((w.heap.size + 1, Obj.cells #[.int .i64 0, .bool false, .int .i64 0, .int .i64 0, .int .i64 0, .string ⟨#[]⟩] 38) :: _)).putO 0 false 0 0 0 ⟨#[]⟩
    go_wp2_with fail
    have R7 := cells_of (A7.box _ m0)
    refine bodyPost_ret (v := .tuple #[O.nil.val, .int .i64 5]) ?_ rfl ⟨rfl, A7.keep ((List.sublist_cons_self _ _).trans (List.sublist_cons_self _ _))⟩
    simp [results, Tryz.results112, go_sem, R7, O.nil]
  · have hd1 : decide ((2000 : Int) ≤ (n : Int)) = true := by simp; omega
    have Rg1 := Rg w1 A1
    have Rc1 := Rc w1 A1
    clear Rg Rc
    go_quiet (fail)
    have A6 : Ats w0 (w1.drewN nq) M KL := Ats.pure A1 ((Chg.refl NoB w1).drewN nq)
    clear Rg1 Rc1 A1 hS1
    generalize w1.drewN nq = w6 at *
    have R6 := cells_of (A6.box _ mR)
    have y6 := blk_lt (A6.box _ mR)
    have Z6 := free_of (A6.box _ mR)
    have A7 := (HKe.out ▸ A6 : Ats w0 w6 M ((w.heap.size + 1, Obj.cells #[.int .i64 0, .bool false, .int .i64 0, .int .i64 0, .int .i64 0, .string ⟨#[]⟩] 38) :: _)).putO 0 false 0 0 0 ⟨#[]⟩
    go_wp2_with fail
    have R7 := cells_of (A7.box _ m0)
    refine bodyPost_ret (v := .tuple #[O.nil.val, .int .i64 5]) ?_ rfl ⟨rfl, A7.keep ((List.sublist_cons_self _ _).trans (List.sublist_cons_self _ _))⟩
    simp [results, Tryz.results112, go_sem, R7, O.nil]
end Go.Proofs.YtpgkjgceldleaaaGreat
