/- Ast, Pln, Tel, Who -/
import Derived.Test.YtpgkjgceldleaaaZHeapc
import Derived.Test.YtpgkjgceldleaaaZHeapa
import Derived.Lib.AppendStr
import Derived.Deep.AppendLies
import Derived.Test.YtpgkjgceldleaaaZChar
import Derived.Deep.DrawnRows
import Derived.Deep.RegionLaw
import Derived.BigRegion
import Derived.Deep.DeepCutAuto
import Derived.StillTailTactics
/- append of a string's bytes onto a row of the call's own, and where the new slice lies; a row among the boxes, what is appended may be nothing. -/
namespace Go.Proofs.Ytpgkjgceldleaaa
open Go.RowKit

section
variable {P : Program} (w : World)
theorem run_append_str_at (base : Nat) (t u ty e : TypeId) (i : TypeInfo) (ht : P.underlying t = some (.slice e)) (hu : P.underlying u = some .string) (hi : P.info? e = some i) (hz : i.zero = some (.int .u8 0))
    (hsize : i.size = 1) (hby : i.bytes = 1)
    (v : Value) (n : Nat) (xs : List Value) (hown : w.ownsRow base e 1 v n xs) (s : ByteArray)
    (h63 : n + s.size ≤ maxLen) (hbytes : n + s.size ≤ 140737488355328) (hbase : base ≤ w.heap.size) :
    ∃ v' w', (Builtin.append_ #[t, u] ty #[v, .string s]).run P w = .ok v' w' ∧ w'.ownsRow base e 1 v' (n + s.size) (xs ++ Lib.strCells s) ∧ w.grownBy w' v.ownBlock ∧
      (v' = .slice none 0 0 ↔ v = .slice none 0 0 ∧ s.size = 0) ∧ (v'.ownBlock = v.ownBlock ∨ v'.ownBlock = some w.heap.size) := by
  obtain ⟨v', w', hr, h1, h2, h3⟩ := Lib.run_append_own_string (P := P) w base t u ty e i ht hu hi hz hsize hby v n xs hown s h63 hbytes hbase
  refine ⟨v', w', hr, h1, h2, h3, ?_⟩
  have hsmall : n + s.size ≤ 9223372036854775807 := by simp only [maxLen] at h63; omega
  have hxl : xs.length = n := by simpa using hown.1
  rcases hown.2 with ⟨rfl, rfl⟩ | ⟨g, cap, cur, rfl, hbg, hg, hnc, hcm, hcs, htake⟩
  · by_cases hm : s.size = 0
    · exact .inl (by rw [h3.2 ⟨rfl, hm⟩])
    · have := run_append_nil_string (P := P) w t u ty e i (.int .u8 0) ht hu hi hz s (by omega) (by omega) (by rw [hby]; omega)
      rw [hr] at this
      injection this with this _
      subst this
      exact .inr rfl
  · by_cases hroom : n + s.size ≤ cap
    · have hcs' : cur.size = cap := by simpa using hcs
      have := Lib.run_append_room_string (P := P) w t u ty e i ht hu hi hsize g n cap cur hg s hroom (by omega)
      rw [hr] at this
      injection this with this _
      subst this
      exact .inl rfl
    · have := Lib.run_append_grow_string (P := P) w t u ty e i (.int .u8 0) ht hu hi hz ⟨g, 0, none⟩ n cap xs (by rw [hsize]; simpa using hxl) (hown.cells (g := g) rfl) s (by omega) (by omega) (by rw [hby]; exact growslice_fits (by omega) (by omega))
      rw [hr] at this
      injection this with this _
      subst this
      exact .inr rfl
theorem step_append_str {ops : Array Oper} {o : Oper} {a : Act} {K : Act → World → Prop} {Q : Exit → Act → World → Prop} {E : Prop} (hgd : o.guard = none) (sl x : Operand) (t u : TypeId)
    (ho : o.op = .call { callee := .builtin .append, args := #[sl, x], argTypes := #[t, u] })
    (base : Nat) (e : TypeId) (i : TypeInfo) (ht : P.underlying t = some (.slice e)) (hu : P.underlying u = some .string) (hi : P.info? e = some i) (hz : i.zero = some (.int .u8 0))
    (hsize : i.size = 1) (hby : i.bytes = 1)
    (v : Value) (n : Nat) (xs : List Value) (hs : a.eval sl = v) (hown : w.ownsRow base e 1 v n xs) (s : ByteArray) (hx : a.eval x = .string s)
    (h63 : n + s.size ≤ maxLen) (hbytes : n + s.size ≤ 140737488355328) (hbase : base ≤ w.heap.size)
    (h : ∀ v' w', w'.ownsRow base e 1 v' (n + s.size) (xs ++ Lib.strCells s) → w.grownBy w' v.ownBlock → (v' = .slice none 0 0 ↔ v = .slice none 0 0 ∧ s.size = 0) → (v'.ownBlock = v.ownBlock ∨ v'.ownBlock = some w.heap.size) → K (a.put o.dst v') w') :
    if Region.wanted o (yielded ops a.tmps) = true then Oper.wp P o a w K Q else E := by
  have hw : Region.wanted o (yielded ops a.tmps) = true := by simp [Region.wanted, hgd]
  rw [if_pos hw]
  obtain ⟨v', w', hr, h2, h3, h4, h5⟩ := run_append_str_at (P := P) w base t u o.type e i ht hu hi hz hsize hby v n xs hown s h63 hbytes hbase
  unfold Oper.wp execOp
  simp only [ho, resolve, invoke, builtin, Sem.run_bind, Sem.run_pure, Result.andThen_ok, List.map_toArray, List.map_cons, List.map_nil, hs, hx, hr]
  exact h v' w' h2 h3 h4 h5
end

/-- As Ats.grownG, what is appended may be nothing. -/
theorem Ats.grownS {w0 w w' : World} {M : List (Nat × List C)} {K R : List (Nat × Obj)} {T : TypeId} {sz : Nat} {v v' : Value} {n m : Nat} {xs xs' : List Value} (A : Ats w0 w M (R ++ K)) (h : RowG T sz R v n xs)
    (hown : w'.ownsRow w0.heap.size T sz v' (n + m) xs') (hgr : w.grownBy w' v.ownBlock) (hnil : v' = .slice none 0 0 ↔ v = .slice none 0 0 ∧ m = 0) (hob : v'.ownBlock = v.ownBlock ∨ v'.ownBlock = some w.heap.size) :
    ∃ R', RowG T sz R' v' (n + m) xs' ∧ Ats w0 w' M (R' ++ K) := by
  by_cases hm : 0 < m
  · exact A.grownG h hown hgr hob hm
  obtain rfl : m = 0 := by omega
  obtain ⟨hl, ⟨rfl, h0⟩ | ⟨g', cap', cur', rfl, hg0, hg', c1, c2, c3, c4⟩⟩ := hown
  · obtain ⟨rfl, -⟩ := hnil.1 rfl
    rcases h with ⟨-, rfl, rfl, rfl⟩ | ⟨g, cap, cur, hv, -⟩
    · refine ⟨[], .inl ⟨rfl, rfl, ?_, rfl⟩, ?_⟩
      · exact List.eq_nil_of_length_eq_zero (by simpa using hl)
      · exact A.pure (Chg.grown (Chg.refl NoB w) hgr (fun k hk => by simp [Value.ownBlock] at hk))
    · simp at hv
  refine ⟨[(g', .cells cur' T)], .inr ⟨g', cap', cur', rfl, rfl, c1, c2, c3, c4, hl⟩, ?_⟩
  rcases h with ⟨rfl, rfl, rfl, rfl⟩ | ⟨g, cap, cur, rfl, rfl, -⟩
  · have C1 : Chg NoB w w' := Chg.grown (Chg.refl NoB w) hgr (fun k hk => by simp [Value.ownBlock] at hk)
    refine A.got C1 hg' ?_
    rcases hob with e | e
    · simp [Value.ownBlock] at e
    · simp [Value.ownBlock] at e; omega
  · have C1 : Chg (· = g) w w' := Chg.grown (Chg.refl (· = g) w) hgr (fun k hk => by simp [Value.ownBlock] at hk; exact .inl hk.symm)
    refine Ats.renewG A C1 hg' ?_
    rcases hob with e | e
    · simp [Value.ownBlock] at e; exact .inl e
    · simp [Value.ownBlock] at e; exact .inr (by omega)
end Go.Proofs.Ytpgkjgceldleaaa
/- Walk: say.Plain of null, a number, a name, a mark, an array. -/
namespace Go.Proofs.Ytpgkjgceldleaaa
open Go.RowKit

def plainB (o : O) : ByteArray :=
  if o.kind = 1 then ⟨#[110, 117, 108, 108]⟩ else if o.kind = 3 then ⟨(intL o.n).toArray⟩ else if o.kind = 5 then o.s else if o.kind = 6 then ⟨#[45, 109, 97, 114, 107, 45]⟩ else ⟨#[45, 97, 114, 114, 97, 121, 45]⟩
def plainK (o : O) : Prop := o.kind = 1 ∨ o.kind = 3 ∨ o.kind = 5 ∨ o.kind = 6 ∨ o.kind = 9
theorem mayP_int {ex : Bool} {n a l : Int} {s : ByteArray} (h : mayO ⟨3, ex, n, a, l, s⟩ = true) : -2147483647 ≤ n ∧ n ≤ 2147483647 := by
  unfold mayO at h
  rw [Bool.and_eq_true] at h
  have := h.2
  rw [if_neg (by simp), if_neg (by simp), if_pos rfl] at this
  simpa using this

set_option maxRecDepth 100000 in
set_option maxHeartbeats 1000000 in
theorem plain_any (o : O) (hp : Nat) (hm : mayO o = true) (hk : plainK o) (w : World) :
    Calls Try.prog 67 #[ptr hp, o.val] w fun r w' => r = .returned (.string (plainB o)) ∧ Chg NoB w w' := by
  have HM := may_any o
  rw [hm] at HM
  have HM2 := hid' HM
  obtain ⟨k, ex, n, a, l, s⟩ := o
  rcases hk with hk | hk | hk | hk | hk
  all_goals
    simp only at hk
    subst hk
  · clear HM
    go_enter Try.func67, Try.ntmps67
    go_wp2_with fail
    go_ret
    exact ⟨rfl, (Chg.refl NoB w).alloc _⟩
  · have HN := hid' (nint_any n (by have := mayP_int hm; omega) (by have := mayP_int hm; omega))
    clear HM
    go_enter Try.func67, Try.ntmps67
    go_wp2_with fail
    have hb := blk_new w (.cells #[.int .i64 3, .bool ex, .int .i64 n, .int .i64 a, .int .i64 l, .string s] 36)
    have X := (Chg.refl NoB w).alloc (.cells #[.int .i64 3, .bool ex, .int .i64 n, .int .i64 a, .int .i64 l, .string s] 36)
    generalize w.alloc (.cells #[.int .i64 3, .bool ex, .int .i64 n, .int .i64 a, .int .i64 l, .string s] 36) = w1 at *
    refine (HM2.out _).mono ?_
    rintro r w2 ⟨rfl, X2⟩
    have R2 := cells_of (X2.blk hb id)
    have l2 := blk_lt (X2.blk hb id)
    clear hb
    go_wp2_with fail
    refine (HN.out _).mono ?_
    rintro r w3 ⟨rfl, X3⟩
    go_wp2_with fail
    go_ret
    exact ⟨rfl, (X.trans X2).trans X3⟩
  all_goals
    clear HM
    go_enter Try.func67, Try.ntmps67
    go_wp2_with fail
    go_ret
    exact ⟨rfl, (Chg.refl NoB w).alloc _⟩
end Go.Proofs.Ytpgkjgceldleaaa
/- Walk: say's (*teller).put. -/
namespace Go.Proofs.Ytpgkjgceldleaaa
open Go.RowKit
attribute [local go_sem ↓] Go.wp_at_zero Go.wp_at_succ

theorem infoU8 : (Try.prog.info? 5).map (fun i => (i.zero, i.size, i.bytes)) = some (some (.int .u8 0), 1, 1) := by kernel_rfl
abbrev tlBox (hp : Nat) (v : Value) : Obj := .cells #[ptr hp, v] 83 (0, 0)
/-- What was told so far: the teller's box, its row among the boxes. -/
def Told (w0 w : World) (M : List (Nat × List C)) (K : List (Nat × Obj)) (hp bt : Nat) (b : List UInt8) : Prop :=
  ∃ v R, RowG 5 1 R v b.length (b.map vu8) ∧ Ats w0 w M ((bt, tlBox hp v) :: (R ++ K))
theorem hidE {p : Prop} (h : p) : Hid p := h
theorem rowG_val {T : TypeId} {sz : Nat} {R : List (Nat × Obj)} {v : Value} {n : Nat} {xs : List Value} (h : RowG T sz R v n xs) : ∃ a c, v = .slice a n c := by
  rcases h with ⟨rfl, h0, -⟩ | ⟨g, cap, cur, rfl, -⟩
  · exact ⟨none, 0, by rw [h0]⟩
  · exact ⟨_, _, rfl⟩
theorem strCells_eq (s : ByteArray) : Lib.strCells s = s.toList.map vu8 := by rw [ByteArray.toList_eq]; rfl
theorem take_1000 (b s : List UInt8) (hb : b.length ≤ 1000) : b ++ s.take (1000 - b.length) = (b ++ s).take 1000 := by
  rw [List.take_append, List.take_of_length_le hb]

set_option maxRecDepth 100000 in
set_option maxHeartbeats 400000 in
theorem at_tput {w0 w : World} {M : List (Nat × List C)} {K : List (Nat × Obj)} {hp bt : Nat} {b : List UInt8} (A : Told w0 w M K hp bt b) (hb : b.length ≤ 1000) (s : ByteArray) (hs : s.size ≤ 1000000) :
    Calls Try.prog 65 #[ptr bt, .string s] w fun r w' => r = .returned (.bool (decide ((b ++ s.toList).length < 1000))) ∧ Told w0 w' M K hp bt ((b ++ s.toList).take 1000) := by
  obtain ⟨v, R, hR, A⟩ := A
  have hbx := A.box _ (List.mem_cons_self ..)
  have R0 := cells_of hbx
  have l0 := blk_lt hbx
  obtain ⟨i0, hi, hz0, hz1, hz2⟩ := info_parts infoU8
  obtain ⟨va, vc, rfl⟩ : ∃ va vc, v = .slice va b.length vc := by
    rcases hR with ⟨rfl, h0, -⟩ | ⟨g, cap, cur, rfl, -⟩
    · exact ⟨none, 0, by rw [h0]⟩
    · exact ⟨_, _, rfl⟩
  have hbl : (b.length : Int) ≤ 1000 := by omega
  have c0 : w.cell? ⟨bt, 0, none⟩ = some (ptr hp) := by rw [R0 0]; rfl
  have c1 : w.cell? ⟨bt, 1, none⟩ = some (.slice va b.length vc) := by rw [R0 1]; rfl
  clear R0
  go_enter Try.func65, Try.ntmps65
  go_wp2_with fail
  obtain ⟨m, hm, hms⟩ : ∃ m : Nat, (if 1000 - (b.length : Int) < (s.size : Int) then 1000 - (b.length : Int) else (s.size : Int)) = (m : Int) ∧ m = min s.size (1000 - b.length) := by
    refine ⟨min s.size (1000 - b.length), ?_, rfl⟩
    split <;> omega
  have hm0 : (0 : Int) ≤ m := by omega
  have hm1 : (m : Int) ≤ s.size := by omega
  have hm2 : m ≤ s.size ∧ m ≤ 1000 - b.length := by omega
  have hsl : (s.extract 0 m).toList = s.toList.take (1000 - b.length) := by
    have e := ByteArray.toList_eq (bs := s)
    have hsz : s.toList.length = s.size := by rw [e]; rfl
    rw [ByteArray.toList_eq, e, ByteArray.data_extract]
    simp only [Array.toList_extract, List.extract_eq_take_drop, List.drop_zero, Nat.sub_zero]
    rw [hms]
    by_cases c : s.size ≤ 1000 - b.length
    · rw [Nat.min_eq_left c, List.take_of_length_le (by rw [← e, hsz]; exact Nat.le_refl _), List.take_of_length_le (by rw [← e, hsz]; exact c)]
    · rw [Nat.min_eq_right (by omega)]
  have hel : (s.extract 0 m).size = m := by rw [ByteArray.size_extract]; omega
  have hA := A.perm (List.perm_middle (l₁ := R) (l₂ := K) (a := (bt, tlBox hp (.slice va b.length vc)))).symm
  have w1 : IntKind.i64.wrap (1000 - (b.length : Int)) = 1000 - (b.length : Int) := IntWalk.i64_in _ (by omega)
  have HE := hidE hel
  have HS := hidE hsl
  have hlen : ((b ++ s.toList).take 1000).length = b.length + m := by
    have hsz : s.toList.length = s.size := by rw [ByteArray.toList_eq]; rfl
    rw [List.length_take, List.length_append, hsz]; omega
  have hbool : decide ((b ++ s.toList).length < 1000) = decide (b.length + m < 1000) := by
    have hsz : s.toList.length = s.size := by rw [ByteArray.toList_eq]; rfl
    rw [List.length_append, hsz]
    refine decide_eq_decide.2 ⟨fun h => ?_, fun h => ?_⟩ <;> omega
  have hmap : b.map vu8 ++ Lib.strCells (s.extract 0 m) = ((b ++ s.toList).take 1000).map vu8 := by
    rw [strCells_eq, hsl, ← take_1000 b _ hb, List.map_append]
  have HLN := hidE hlen
  have HBL := hidE hbool
  have HMP := hidE hmap
  clear hel hsl hbx A hms hlen hbool hmap
  go_region_law (first | (refine step_append_str _ (by rfl) (.tmp 9) (.tmp 20) 46 9 (by rfl) w0.heap.size 5 i0 Try.underBytes Try.underStr hi hz0 hz1 hz2 (.slice va b.length vc) b.length (b.map vu8) (by rfl) (Ats.ownsG (hA.pure (Chg.drew (Chg.refl NoB w))) hR) (s.extract 0 m) (by rfl) (by unfold maxLen; rw [HE.out]; omega) (by rw [HE.out]; omega) (by have := hA.chg.size; exact this) ?_; intro v' w2 hown hgr hnil hat; obtain ⟨R', hR', A2⟩ := Ats.grownS (hA.pure (Chg.drew (Chg.refl NoB w))) hR hown hgr hnil hat; obtain ⟨v2a, v2c, rfl⟩ := rowG_val hR'; have R2 := cells_of (A2.box (bt, tlBox hp (.slice va b.length vc)) (List.mem_append_right _ (List.mem_cons_self ..))); have Z2 := free_of (A2.box (bt, tlBox hp (.slice va b.length vc)) (List.mem_append_right _ (List.mem_cons_self ..))); have l2 := blk_lt (A2.box (bt, tlBox hp (.slice va b.length vc)) (List.mem_append_right _ (List.mem_cons_self ..)))) | fail)
  all_goals
    rw [HE.out, HMP.out] at hR'
    have A3 := (A2.perm List.perm_middle).put 1 (.slice v2a (b.length + m) v2c)
    simp only [List.setIfInBounds_toArray, List.set_cons_zero, List.set_cons_succ] at A3
    have HA3 := hidE A3
    have HR3 := hidE hR'
    clear R2 Z2 l2 A2 hown hgr hnil hat hR' hR hA c0 c1 w1
    generalize w2.setCell ⟨bt, 1, none⟩ (.slice v2a (b.length + m) v2c) = w3 at *
    have R3 := cells_of (A3.box _ (List.mem_cons_self ..))
    have l3 := blk_lt (A3.box _ (List.mem_cons_self ..))
    simp only at R3 l3
    clear A3
    go_wp2_with fail
    go_ret
    refine ⟨?_, .slice v2a (b.length + m) v2c, R', ?_, HA3.out⟩
    · rw [HBL.out]; exact congrArg (fun z => Ending.returned (.bool z)) (decide_eq_decide.2 (by omega))
    · rw [HLN.out]; exact HR3.out
end Go.Proofs.Ytpgkjgceldleaaa
/- Walk: say's (*teller).whole. -/
namespace Go.Proofs.Ytpgkjgceldleaaa
open Go.RowKit

theorem decL_short (v : Int) (h0 : -2147483647 ≤ v) (h1 : v ≤ 2147483647) : (intL v).length ≤ 20 := by
  unfold intL
  have := decL_len v.natAbs 14 (by omega)
  split
  · rw [List.length_cons]; omega
  · omega
theorem mayP_name {ex : Bool} {n a l : Int} {s : ByteArray} (h : mayO ⟨5, ex, n, a, l, s⟩ = true) : s.size ≤ 100 := by
  unfold mayO at h
  rw [Bool.and_eq_true] at h
  have := h.2
  rw [if_neg (by simp), if_neg (by simp), if_neg (by simp), if_neg (by simp), if_pos rfl] at this
  have := of_decide_eq_true this
  simp only at this
  omega
theorem plainB_size (o : O) (hm : mayO o = true) (hk : plainK o) : (plainB o).size ≤ 1000000 := by
  obtain ⟨k, ex, n, a, l, s⟩ := o
  rcases hk with hk | hk | hk | hk | hk
  all_goals
    simp only at hk
    subst hk
  · exact (by decide : (4 : Nat) ≤ 1000000)
  · have := mayP_int hm
    have := decL_short n this.1 this.2
    change (intL n).toArray.size ≤ _
    simp only [List.size_toArray]
    omega
  · have := mayP_name hm
    change s.size ≤ _
    omega
  · exact (by decide : (6 : Nat) ≤ 1000000)
  · exact (by decide : (7 : Nat) ≤ 1000000)
/-- The uncut text of an object that holds no others here. -/
def leafT (o : O) : List UInt8 := if o.kind = 5 ∧ o.exec = false then 47 :: o.s.toList else (plainB o).toList
theorem Told.pure {w0 w w' : World} {M : List (Nat × List C)} {K : List (Nat × Obj)} {hp bt : Nat} {b : List UInt8} (A : Told w0 w M K hp bt b) (X : Chg NoB w w') : Told w0 w' M K hp bt b := by
  obtain ⟨v, R, h, A⟩ := A
  exact ⟨v, R, h, A.pure X⟩
theorem Told.alloc {w0 w : World} {M : List (Nat × List C)} {K : List (Nat × Obj)} {hp bt : Nat} {b : List UInt8} (A : Told w0 w M K hp bt b) (o : Obj) : Told w0 (w.alloc o) M ((w.heap.size, o) :: K) hp bt b := by
  obtain ⟨v, R, h, A⟩ := A
  exact ⟨v, R, h, (A.alloc o).perm (by rw [← List.cons_append, ← List.cons_append]; exact List.perm_middle.symm)⟩
theorem Told.box {w0 w : World} {M : List (Nat × List C)} {K : List (Nat × Obj)} {hp bt : Nat} {b : List UInt8} (A : Told w0 w M K hp bt b) (q : Nat × Obj) (hq : q ∈ K) : w.heap[q.1]? = some q.2 := by
  obtain ⟨v, R, h, A⟩ := A
  exact A.box q (List.mem_cons_of_mem _ (List.mem_append_right _ hq))
theorem Told.tell {w0 w : World} {M : List (Nat × List C)} {K : List (Nat × Obj)} {hp bt : Nat} {b : List UInt8} (A : Told w0 w M K hp bt b) : w.cell? ⟨bt, 0, none⟩ = some (ptr hp) := by
  obtain ⟨v, R, h, A⟩ := A
  have := cells_of (A.box _ (List.mem_cons_self ..)) 0
  exact this
theorem Told.lose {w0 w : World} {M : List (Nat × List C)} {K : List (Nat × Obj)} {hp bt : Nat} {b : List UInt8} {q : Nat × Obj} (A : Told w0 w M (q :: K) hp bt b) : Told w0 w M K hp bt b := by
  obtain ⟨v, R, h, A⟩ := A
  exact ⟨v, R, h, A.keep ((List.Sublist.append_left (List.sublist_cons_self q K) R).cons_cons _)⟩
theorem take_take_app (b s t : List UInt8) : ((b ++ s).take 1000 ++ t).take 1000 = (b ++ (s ++ t)).take 1000 := by
  rw [← List.append_assoc, List.take_append (l₁ := (b ++ s).take 1000), List.take_append (l₁ := b ++ s), List.take_take, Nat.min_self, List.length_take]
  congr 2
  omega
set_option maxRecDepth 100000 in
set_option maxHeartbeats 1000000 in
theorem whole_name {w0 w : World} {M : List (Nat × List C)} {K : List (Nat × Obj)} {hp bt : Nat} {b : List UInt8} (A : Told w0 w M K hp bt b) (hb : b.length ≤ 1000) (deep : Int) (n a l : Int) (s : ByteArray) (hm : mayO ⟨5, false, n, a, l, s⟩ = true) :
    Calls Try.prog 39 #[ptr bt, O.val ⟨5, false, n, a, l, s⟩, .int .i64 deep] w fun r w' => r = .returned (.bool (decide ((b ++ 47 :: s.toList).length < 1000))) ∧ Told w0 w' M K hp bt ((b ++ 47 :: s.toList).take 1000) := by
  have hs := mayP_name hm
  have c0 : ((⟨#[47]⟩ : ByteArray)).toList = [47] := by rw [ByteArray.toList_eq]
  go_enter Try.func39, Try.ntmps39
  go_wp2_with fail
  have A1 := A.alloc (.cells #[.int .i64 5, .bool false, .int .i64 n, .int .i64 a, .int .i64 l, .string s] 36)
  refine (at_tput A1 hb ⟨#[47]⟩ (by decide)).mono ?_
  rintro r w1 ⟨rfl, A2⟩
  rw [c0] at A2 ⊢
  have hb2 : ((b ++ [47]).take 1000).length ≤ 1000 := by rw [List.length_take]; omega
  have HA2 := hid' A2
  have R2 := cells_of (A2.box _ (List.mem_cons_self ..))
  have l2 := blk_lt (A2.box _ (List.mem_cons_self ..))
  have AP := hid' (at_tput A2 hb2 s (by omega))
  rw [take_take_app, List.singleton_append] at AP
  have ef : (b ++ 47 :: s.toList).length = (b ++ [47]).length + s.toList.length := by simp; omega
  simp only at R2 l2
  clear A A1 A2 hm
  by_cases c : (b ++ [47]).length < 1000
  · have e1 : decide ((b ++ [47]).length < 1000) = true := decide_eq_true c
    have e2 : (decide (((b ++ [47]).take 1000 ++ s.toList).length < 1000)) = decide ((b ++ 47 :: s.toList).length < 1000) := by
      rw [List.take_of_length_le (by omega), List.append_assoc]; rfl
    rw [e1]
    rw [e2] at AP
    obtain ⟨R, hR⟩ : ∃ R, decide ((b ++ 47 :: s.toList).length < 1000) = R := ⟨_, rfl⟩
    rw [hR] at AP
    have HR := hid' hR
    clear hR e2 ef
    go_wp2_with fail
    refine AP.out.mono ?_
    rintro r w2 ⟨rfl, A3⟩
    go_wp2_with fail
    go_ret
    rw [HR.out]
    exact ⟨rfl, A3.lose⟩
  · have e1 : decide ((b ++ [47]).length < 1000) = false := decide_eq_false c
    have e2 : decide ((b ++ 47 :: s.toList).length < 1000) = false := decide_eq_false (by omega)
    have e3 : (b ++ 47 :: s.toList).take 1000 = (b ++ [47]).take 1000 := by
      rw [show b ++ 47 :: s.toList = (b ++ [47]) ++ s.toList by simp, List.take_append_of_le_length (by omega)]
    rw [e1]
    have E2 := hid' e2
    have E3 := hid' e3
    clear e2 e3 ef
    go_wp2_with fail
    go_ret
    rw [E2.out, E3.out]
    exact ⟨rfl, HA2.out.lose⟩
/-- Something was told. -/
def TellS (w0 : World) (M : List (Nat × List C)) (K : List (Nat × Obj)) (hp bt : Nat) (W : World) : Prop := ∃ b, Told w0 W M K hp bt b
theorem TellS.drew {w0 : World} {M : List (Nat × List C)} {K : List (Nat × Obj)} {hp bt : Nat} {W : World} (h : TellS w0 M K hp bt W) : TellS w0 M K hp bt W.drew := by
  obtain ⟨b, h⟩ := h
  exact ⟨b, h.pure (Chg.refl NoB W).drew⟩
theorem TellS.tell {w0 : World} {M : List (Nat × List C)} {K : List (Nat × Obj)} {hp bt : Nat} (W : World) (h : TellS w0 M K hp bt W) : W.cell? ⟨bt, 0, none⟩ = some (ptr hp) := by
  obtain ⟨b, h⟩ := h
  exact h.tell
theorem TellS.cells {w0 : World} {M : List (Nat × List C)} {K : List (Nat × Obj)} {hp bt g : Nat} {cs : Array Value} {T : TypeId} {fz : Nat × Nat} (W : World) (h : TellS w0 M ((g, .cells cs T fz) :: K) hp bt W) (i : Nat) : W.cell? ⟨g, i, none⟩ = cs[i]? := by
  obtain ⟨b, h⟩ := h
  exact cells_of (h.box _ (List.mem_cons_self ..)) i
set_option maxRecDepth 100000 in
set_option maxHeartbeats 1000000 in
theorem whole_leaf {w0 w : World} {M : List (Nat × List C)} {K : List (Nat × Obj)} {hp bt : Nat} {b : List UInt8} (A : Told w0 w M K hp bt b) (hb : b.length ≤ 1000) (deep : Int) (o : O) (hm : mayO o = true) (hk : o.kind = 1 ∨ o.kind = 3 ∨ o.kind = 6 ∨ (o.kind = 5 ∧ o.exec = true)) :
    Calls Try.prog 39 #[ptr bt, o.val, .int .i64 deep] w fun r w' => r = .returned (.bool (decide ((b ++ (plainB o).toList).length < 1000))) ∧ Told w0 w' M K hp bt ((b ++ (plainB o).toList).take 1000) := by
  have hpk : plainK o := by unfold plainK; rcases hk with h | h | h | h <;> simp_all
  have hsz := plainB_size o hm hpk
  have HP := fun w => plain_any o hp hm hpk w
  generalize plainB o = T at *
  obtain ⟨R, hR⟩ : ∃ R, decide ((b ++ T.toList).length < 1000) = R := ⟨_, rfl⟩
  obtain ⟨k, ex, n, a, l, s⟩ := o
  have HPL := hid' HP
  have HR := hid' hR
  clear HP hpk hm hR
  have A1 := A.alloc (.cells #[.int .i64 k, .bool ex, .int .i64 n, .int .i64 a, .int .i64 l, .string s] 36)
  have l1 := blk_lt (A1.box _ (List.mem_cons_self ..))
  have RC := fun W => TellS.cells (w0 := w0) (M := M) (K := K) (hp := hp) (bt := bt) (g := w.heap.size) (cs := #[.int .i64 k, .bool ex, .int .i64 n, .int .i64 a, .int .i64 l, .string s]) (T := 36) (fz := (0, 0)) W
  have LS := hid' (fun W b => Told.lose (w0 := w0) (w := W) (M := M) (K := K) (hp := hp) (bt := bt) (b := b) (q := (w.heap.size, .cells #[.int .i64 k, .bool ex, .int .i64 n, .int .i64 a, .int .i64 l, .string s] 36)))
  generalize ((w.heap.size, Obj.cells #[.int .i64 k, .bool ex, .int .i64 n, .int .i64 a, .int .i64 l, .string s] 36) :: K : List (Nat × Obj)) = K' at *
  have FIN : Hid (∀ (w2 : World) (A2 : Told w0 w2 M K' hp bt b),
      Calls Try.prog 65 #[ptr bt, .string T] w2 fun r w' => r = .returned (.bool R) ∧ Told w0 w' M K' hp bt ((b ++ T.toList).take 1000)) := hid' (fun w2 A2 => by
    have := at_tput A2 hb T hsz
    rwa [HR.out] at this)
  have HA := hid' A1
  have S0 : TellS w0 M K' hp bt (w.alloc (.cells #[.int .i64 k, .bool ex, .int .i64 n, .int .i64 a, .int .i64 l, .string s] 36)) := ⟨_, A1⟩
  have RT := fun W => TellS.tell (w0 := w0) (M := M) (K := K') (hp := hp) (bt := bt) W
  simp only at l1
  clear A A1
  rcases hk with hk | hk | hk | ⟨hk, hx⟩
  all_goals
    simp only at hk
    subst hk
    try (simp only at hx; subst hx)
    go_enter Try.func39, Try.ntmps39
    go_wp2_with fail
    generalize hW : w.alloc _ = w1 at *
    clear hW
    generalize w.heap.size = g at *
    go_region_held3 (fun W' => TellS w0 M K' hp bt W') (first | assumption | (exact TellS.drew (by assumption)) | (exact ⟨_, by assumption⟩))
      (first | (go_at_call 67; refine (HPL.out _).mono ?_; rintro r w4 ⟨rfl, X4⟩; have A4 := HA.out.pure ((Chg.refl NoB w1).drew.trans X4)) | (go_at_call 65; refine (FIN.out _ A4).mono ?_; rintro r w5 ⟨rfl, A5⟩))
    go_wp2_with fail
    go_ret
    rw [HR.out]
    exact ⟨rfl, LS.out _ _ A5⟩
end Go.Proofs.Ytpgkjgceldleaaa
