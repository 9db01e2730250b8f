/- Tch, Tq, Tbt, Tnt -/
import Derived.Test.YtpgkjgceldleaaaProg
import Derived.Test.YtpgkjgceldleaaaZHeapa
import Derived.Lib.Hide
import Derived.Deep.AppendLies
import Derived.Maps.AppendAt
/- Walk: char.Kind, Value, Regular. -/
namespace Go.Proofs.Ytpgkjgceldleaaa
open Go.RowKit

theorem hid' {p : Prop} (h : p) : Hid p := h
/-- The kind of a byte. -/
def kindI (c : Int) : Int :=
  if c = 0 ∨ c = 9 ∨ c = 10 ∨ c = 12 ∨ c = 13 ∨ c = 32 then 1
  else if c = 40 ∨ c = 41 ∨ c = 60 ∨ c = 62 ∨ c = 91 ∨ c = 93 ∨ c = 123 ∨ c = 125 ∨ c = 47 ∨ c = 37 then 2 else 3
def valueI (c : Int) : Int :=
  if 48 ≤ c ∧ c ≤ 57 then c - 48 else if 97 ≤ c ∧ c ≤ 122 then c - 87 else if 65 ≤ c ∧ c ≤ 90 then c - 55 else -1
def isReg (c : UInt8) : Bool := kindI c.toNat == 3
def isBlank (c : UInt8) : Bool := kindI c.toNat == 1
/-- How many regular bytes stand first. -/
def regL (l : List UInt8) : Nat := (l.takeWhile isReg).length

theorem size_lst (s : ByteArray) : s.toList.length = s.size := by rw [ByteArray.toList_eq]; rfl
theorem drop_at (s : ByteArray) (j : Nat) (h : j < s.size) : s.toList.drop j = s[j] :: s.toList.drop (j + 1) := by
  rw [List.drop_eq_getElem_cons (by rw [size_lst]; exact h)]
  congr 1
  simp only [ByteArray.toList_eq]
  rfl
theorem drop_end (s : ByteArray) (j : Nat) (h : s.size ≤ j) : s.toList.drop j = [] := List.drop_eq_nil_of_le (by rw [size_lst]; exact h)

set_option maxRecDepth 100000 in
set_option maxHeartbeats 2000000 in
theorem ckind_any (c : Int) (w : World) : Calls Try.prog 62 #[.int .u8 c] w fun e w' => e = .returned (.int .i64 (kindI c)) ∧ w = w' := by
  have hr : kindI c = if c = 0 ∨ c = 9 ∨ c = 10 ∨ c = 12 ∨ c = 13 ∨ c = 32 then 1
    else if c = 40 ∨ c = 41 ∨ c = 60 ∨ c = 62 ∨ c = 91 ∨ c = 93 ∨ c = 123 ∨ c = 125 ∨ c = 47 ∨ c = 37 then 2 else 3 := rfl
  have HR := hid' hr
  clear hr
  go_enter Try.func62, Try.ntmps62
  go_wp2
  all_goals
    go_ret
    rw [HR.out]
    refine ⟨?_, rfl⟩
    simp_all
set_option maxRecDepth 100000 in
set_option maxHeartbeats 2000000 in
theorem value_any (c : Int) (h0 : 0 ≤ c) (h1 : c < 256) (w : World) : Calls Try.prog 75 #[.int .u8 c] w fun e w' => e = .returned (.int .i64 (valueI c)) ∧ w = w' := by
  have hr : valueI c = if 48 ≤ c ∧ c ≤ 57 then c - 48 else if 97 ≤ c ∧ c ≤ 122 then c - 87 else if 65 ≤ c ∧ c ≤ 90 then c - 55 else -1 := rfl
  have HR := hid' hr
  clear hr
  by_cases a1 : 48 ≤ c
  all_goals by_cases a2 : c ≤ 57
  all_goals by_cases a3 : 97 ≤ c
  all_goals by_cases a4 : c ≤ 122
  all_goals by_cases a5 : 65 ≤ c
  all_goals by_cases a6 : c ≤ 90
  all_goals first | (exfalso; omega) | skip
  all_goals
    go_enter Try.func75, Try.ntmps75
    go_wp2
    go_ret
    rw [HR.out]
    refine ⟨congrArg (fun z => Ending.returned (Value.int .i64 z)) ?_, rfl⟩
    split <;> (try split) <;> (try split) <;> omega

theorem regL_at (s : ByteArray) (j : Nat) (h : j < s.size) : regL (s.toList.drop j) = if kindI s[j].toNat = 3 then regL (s.toList.drop (j + 1)) + 1 else 0 := by
  rw [drop_at s j h]
  unfold regL
  rw [List.takeWhile_cons]
  unfold isReg
  by_cases hk : kindI s[j].toNat = 3 <;> simp [hk]
theorem regL_end (s : ByteArray) (j : Nat) (h : s.size ≤ j) : regL (s.toList.drop j) = 0 := by rw [drop_end s j h]; rfl
theorem regL_le (l : List UInt8) : regL l ≤ l.length := (List.takeWhile_sublist _).length_le

set_option maxRecDepth 100000 in
set_option maxHeartbeats 2000000 in
theorem regular_any (s : ByteArray) (a : Nat) (hs : s.size ≤ 1000000) (ha : a ≤ s.size + 2) (w : World) :
    Calls Try.prog 36 #[.string s, .int .i64 a] w fun e w' => e = .returned (.int .i64 (regL (s.toList.drop a) : Nat)) ∧ w = w' := by
  by_cases h : s.size ≤ a
  · have h' : (s.size : Int) ≤ a := by omega
    have HE := hid' (regL_end s a h)
    go_enter Try.func36, Try.ntmps36
    go_wp2_with fail
    go_ret
    rw [HE.out]
    exact ⟨rfl, rfl⟩
  · have h' : (a : Int) < s.size := by omega
    go_enter Try.func36, Try.ntmps36
    go_wp2_with fail
    go_loop [5] (fun n => ∃ j : Nat, a ≤ j ∧ j ≤ s.size ∧ n = .int .i64 j ∧ regL (s.toList.drop a) = (j - a) + regL (s.toList.drop j)) (fun n => s.size - (intOf n).toNat)
    case atStart => exact ⟨a, Nat.le_refl _, by omega, rfl, by omega⟩
    case round =>
      obtain ⟨j, hj1, hj2, rfl, hj3⟩ := hrel
      have HJ := hid' hj3
      clear hj3
      by_cases hlt : j < s.size
      · have hlt' : (j : Int) < s.size := by omega
        have HS := hid' (regL_at s j hlt)
        by_cases hk : kindI s[j].toNat = 3
        · have hk' : (kindI s[j].toNat == 3) = true := by simpa using hk
          have HK := hid' hk
          clear hk
          go_wp2_with (go_at_call 62; refine (ckind_any _ _).mono ?_; rintro e w' ⟨rfl, rfl⟩)
          go_round
          case rel => exact ⟨j + 1, by omega, by omega, by go_num, by rw [HJ.out, HS.out, if_pos HK.out]; omega⟩
          case measure => simp [intOf]; omega
        · have hk' : (kindI s[j].toNat == 3) = false := by simpa using hk
          have HK := hid' hk
          clear hk
          go_wp2_with (go_at_call 62; refine (ckind_any _ _).mono ?_; rintro e w' ⟨rfl, rfl⟩)
          go_ret
          exact ⟨by rw [HJ.out, HS.out, if_neg HK.out]; go_num, rfl⟩
      · obtain rfl : j = s.size := by omega
        have HS := hid' (regL_end s s.size (Nat.le_refl _))
        go_wp2_with fail
        go_ret
        exact ⟨by rw [HJ.out, HS.out]; go_num, rfl⟩
end Go.Proofs.Ytpgkjgceldleaaa
/- Walk: quote.put, add, bad, name. -/
namespace Go.Proofs.Ytpgkjgceldleaaa
open Go.RowKit

theorem ownB {w w' : World} {S : Nat → Prop} {B : Nat} {T : TypeId} {size : Nat} {v : Value} {n : Nat} {xs : List Value} (h : w.ownsRow B T size v n xs) (hc : Chg S w w') (hS : ∀ b ∈ v.ownBlock.toList, ¬ S b) : w'.ownsRow B T size v n xs := by
  obtain ⟨h1, h2⟩ := h
  refine ⟨h1, ?_⟩
  rcases h2 with h2 | ⟨g, cap, cur, rfl, h3, h4, h5⟩
  · exact .inl h2
  · exact .inr ⟨g, cap, cur, rfl, h3, hc.blk h4 (hS g (by simp [Value.ownBlock])), h5⟩
theorem own_ge {w : World} {B : Nat} {T : TypeId} {size : Nat} {v : Value} {n : Nat} {xs : List Value} (h : w.ownsRow B T size v n xs) : ∀ b ∈ v.ownBlock.toList, B ≤ b ∧ b < w.heap.size := by
  intro b hb
  rcases h.2 with ⟨rfl, -⟩ | ⟨g, cap, cur, rfl, h3, h4, -⟩
  · simp [Value.ownBlock] at hb
  · simp [Value.ownBlock] at hb
    subst hb
    exact ⟨h3, blk_lt h4⟩
theorem own_val {w : World} {B : Nat} {T : TypeId} {size : Nat} {v : Value} {n : Nat} {xs : List Value} (h : w.ownsRow B T size v n xs) : ∃ a cap, v = .slice a n cap ∧ n ≤ cap := by
  rcases h.2 with ⟨rfl, rfl⟩ | ⟨g, cap, cur, rfl, _, _, h1, _⟩
  · exact ⟨none, 0, rfl, Nat.le_refl _⟩
  · exact ⟨_, _, rfl, h1⟩
theorem u8F {c : UInt8} (n : UInt8) (h : ¬ c = n) (m : Int) (hm : m = n.toNat := by rfl) : ((c.toNat : Int) == m) = false := by
  simp only [beq_eq_false_iff_ne, ne_eq]
  intro e
  exact h (UInt8.toNat_inj.1 (by omega))
theorem u8T {c : UInt8} (n : UInt8) (h : c = n) (m : Int) (hm : m = n.toNat := by rfl) : ((c.toNat : Int) == m) = true := by subst h hm; simp
theorem u8Fr {c : UInt8} (n : UInt8) (h : ¬ c = n) (m : Int) (hm : m = n.toNat := by rfl) : (m == (c.toNat : Int)) = false := by
  simp only [beq_eq_false_iff_ne, ne_eq]
  intro e
  exact h (UInt8.toNat_inj.1 (by omega))
theorem u8Tr {c : UInt8} (n : UInt8) (h : c = n) (m : Int) (hm : m = n.toNat := by rfl) : (m == (c.toNat : Int)) = true := by subst h hm; simp
theorem u8nF {c : UInt8} (n : UInt8) (h : c = n) (m : Int) (hm : m = n.toNat := by rfl) : ((c.toNat : Int) != m) = false := by subst h hm; simp
theorem u8nT {c : UInt8} (n : UInt8) (h : ¬ c = n) (m : Int) (hm : m = n.toNat := by rfl) : ((c.toNat : Int) != m) = true := by
  have := u8F n h m hm
  simp only [bne, this, Bool.not_false]
abbrev u8V (b : UInt8) : Value := .int .u8 b.toNat
abbrev u8L (l : List UInt8) : List Value := l.map u8V
theorem tq_under : Try.prog.underlying 46 = some (.slice 5) := by kernel_rfl
theorem tq_info : (Try.prog.info? 5).map (fun i => (i.zero, i.size, i.bytes)) = some (some (.int .u8 0), 1, 1) := by kernel_rfl
/-- Bytes that lie at the head of a block. -/
def At8 (w : World) (g : Nat) (l : List UInt8) : Prop := ∀ j, j < l.length → w.cell? ⟨g, j, none⟩ = some (u8V (l.getD j 0))
theorem add_z (g i : Nat) : (⟨g, 0, none⟩ : Addr).add i = ⟨g, i, none⟩ := by unfold Addr.add; split <;> simp_all

set_option maxRecDepth 100000 in
theorem qput_any {w : World} {B : Nat} {v : Value} {b : List UInt8} (h : w.ownsRow B 5 1 v b.length (u8L b)) (hB : B ≤ w.heap.size) (g : Nat) (m : List UInt8) (c : Nat) (hm : At8 w g m) (hl : b.length + m.length ≤ 1000000) :
    Calls Try.prog 78 #[v, .slice (some ⟨g, 0, none⟩) m.length c] w fun e w' => ∃ v', e = .returned v' ∧ w'.ownsRow B 5 1 v' (b ++ m).length (u8L (b ++ m)) ∧ w.grownBy w' v.ownBlock ∧ (v'.ownBlock = v.ownBlock ∨ v'.ownBlock = some w.heap.size) := by
  obtain ⟨i0, hi, hz0, hz1, hz2⟩ := info_parts tq_info
  have H := hid' h
  have HA := hid' hm
  clear h hm
  go_enter Try.func78, Try.ntmps78
  go_wp2_with (at_builtin; refine wpList_append_own_at _ rfl _ _ 46 rfl B 5 i0 (.int .u8 0) 1 1 tq_under hi hz0 hz1 hz2 rfl (by decide) v b.length (u8L b) rfl H.out ⟨g, 0, none⟩ m.length c (u8L m) rfl (by simp [u8L]) (fun j u hu => by
      rw [add_z]
      have hj : j < m.length := by have := (List.getElem?_eq_some_iff.1 hu).1; simpa [u8L] using this
      rw [HA.out j hj]
      rw [← hu]
      simp [u8L, hj]) (fun u hu => by simp only [u8L, List.mem_map] at hu; obtain ⟨x, -, rfl⟩ := hu; rfl) (by unfold maxLen; omega) (by omega) hB ?_)
  intro v' w1 hown hgr _ hat
  have HAT := hid' hat
  clear hat
  have HO := hid' (show w1.ownsRow B 5 1 v' (b ++ m).length (u8L (b ++ m)) by rw [List.length_append]; simpa [u8L] using hown)
  have HG := hid' hgr
  clear hown hgr
  go_wp2_with fail
  go_ret
  exact ⟨v', rfl, HO.out, HG.out, HAT.out⟩

abbrev tkBox (v : Value) (e : Int) : Obj := .cells #[v, .int .i64 e] 148 (0, 0)
/-- What was taken so far: its box, its bytes in a row of its own, behind the box; since w0 there are only new blocks. -/
structure Tk (w0 w : World) (bt : Nat) (v : Value) (b : List UInt8) (e : Int) : Prop where
  chg : Chg NoB w0 w
  ge : w0.heap.size ≤ bt
  box : w.heap[bt]? = some (tkBox v e)
  own : w.ownsRow (bt + 1) 5 1 v b.length (u8L b)
theorem Tk.pure {w0 w w' : World} {bt : Nat} {v : Value} {b : List UInt8} {e : Int} (A : Tk w0 w bt v b e) (X : Chg NoB w w') : Tk w0 w' bt v b e :=
  ⟨A.chg.trans X, A.ge, X.blk A.box id, ownB A.own X (fun _ _ e => e)⟩
theorem Tk.fail {w0 w : World} {bt : Nat} {v : Value} {b : List UInt8} {e : Int} (A : Tk w0 w bt v b e) (e' : Int) : Tk w0 (w.setCell ⟨bt, 1, none⟩ (.int .i64 e')) bt v b e' := by
  refine ⟨A.chg.setCell (.inr A.ge) _, A.ge, ?_, ownB A.own ((Chg.refl (· = bt) w).setCell (p := ⟨bt, 1, none⟩) (.inl rfl) _) (fun g hg e => by have := (own_ge A.own g hg).1; omega)⟩
  have := blk_set A.box 1 (.int .i64 e')
  simpa using this
theorem Tk.more {w0 w w1 : World} {bt : Nat} {v v' : Value} {b b' : List UInt8} {e : Int} (A : Tk w0 w bt v b e) (hown : w1.ownsRow (bt + 1) 5 1 v' b'.length (u8L b')) (hgr : w.grownBy w1 v.ownBlock) :
    w1.heap[bt]? = some (tkBox v e) ∧ Tk w0 (w1.setCell ⟨bt, 0, none⟩ v') bt v' b' e := by
  have C : Chg (fun k => v.ownBlock = some k) w w1 := Chg.grown (Chg.refl _ w) hgr (fun k hk => .inl hk)
  have hn : ∀ k, v.ownBlock = some k → bt + 1 ≤ k := fun k hk => (own_ge A.own k (by simp [hk])).1
  have hb : w1.heap[bt]? = some (tkBox v e) := C.blk A.box (fun h => by have := hn bt h; omega)
  have hge := A.ge
  refine ⟨hb, (A.chg.trans' C (fun i hi h => by have := hn i h; omega)).setCell (.inr A.ge) _, A.ge, ?_, ownB hown ((Chg.refl (· = bt) w1).setCell (p := ⟨bt, 0, none⟩) (.inl rfl) _) (fun g hg e => by have := (own_ge hown g hg).1; omega)⟩
  have := blk_set hb 0 v'
  simpa using this

set_option maxRecDepth 100000 in
theorem qbad_any {w0 w : World} {bt : Nat} {v : Value} {b : List UInt8} {e : Int} (A : Tk w0 w bt v b e) (e' : Int) :
    Calls Try.prog 92 #[.pointer (some ⟨bt, 0, none⟩), .int .i64 e'] w fun r w' => r = .returned (.int .i64 0) ∧ Tk w0 w' bt v b e' := by
  have R := cells_of A.box
  have Z := free_of A.box
  have l := blk_lt A.box
  have H := hid' (A.fail e')
  clear A
  go_enter Try.func92, Try.ntmps92
  go_wp2
  go_ret
  exact ⟨rfl, H.out⟩
set_option maxRecDepth 100000 in
theorem qadd_full {w0 w : World} {bt : Nat} {v : Value} {b : List UInt8} {e : Int} (A : Tk w0 w bt v b e) (g : Nat) (m : List UInt8) (c : Nat) (hb : b.length ≤ 4000) (h4 : m.length ≤ 4) (h : 4000 < b.length + m.length) :
    Calls Try.prog 94 #[.pointer (some ⟨bt, 0, none⟩), .slice (some ⟨g, 0, none⟩) m.length c] w fun r w' => r = .returned (.bool false) ∧ Tk w0 w' bt v b 5 := by
  have R := cells_of A.box
  have Z := free_of A.box
  have l := blk_lt A.box
  have H := hid' (A.fail 5)
  obtain ⟨a, cap, rfl, -⟩ := own_val A.own
  have h1 : 4000 < (b.length : Int) + (m.length : Int) := by omega
  clear A
  go_enter Try.func94, Try.ntmps94
  go_wp2
  go_ret
  exact ⟨rfl, H.out⟩
set_option maxRecDepth 100000 in
theorem qadd_any {w0 w : World} {bt : Nat} {v : Value} {b : List UInt8} {e : Int} (A : Tk w0 w bt v b e) (g : Nat) (m : List UInt8) (c : Nat) (hm : At8 w g m) (h4 : m.length ≤ 4) (h : b.length + m.length ≤ 4000) :
    Calls Try.prog 94 #[.pointer (some ⟨bt, 0, none⟩), .slice (some ⟨g, 0, none⟩) m.length c] w fun r w' => r = .returned (.bool true) ∧ ∃ v', Tk w0 w' bt v' (b ++ m) e := by
  have R := cells_of A.box
  have l := blk_lt A.box
  obtain ⟨a, cap, rfl, -⟩ := own_val A.own
  have h1 : (b.length : Int) + (m.length : Int) ≤ 4000 := by omega
  have HA := hid' A
  have HM := hid' hm
  clear A hm
  go_enter Try.func94, Try.ntmps94
  go_wp2_with fail
  refine (qput_any HA.out.own (by omega) g m c HM.out (by omega)).mono ?_
  rintro r w1 ⟨v', rfl, hown, hgr, -⟩
  obtain ⟨hb1, A1⟩ := HA.out.more hown hgr
  have H1 := hid' A1
  obtain ⟨a', cap', rfl, -⟩ := own_val hown
  rw [List.length_append] at H1
  clear A1 hown hgr R l
  have R := cells_of hb1
  have Z := free_of hb1
  have l := blk_lt hb1
  clear hb1
  go_wp2
  go_ret
  exact ⟨rfl, _, H1.out⟩

/-- The letter of a byte that has one. -/
def qnameI (c : Int) : Int × Bool := if c = 8 then (98, true) else if c = 9 then (116, true) else if c = 10 then (110, true) else if c = 12 then (102, true) else if c = 13 then (114, true) else (0, false)
set_option maxRecDepth 100000 in
theorem qname_any (c : Int) (w : World) : Calls Try.prog 79 #[.int .u8 c] w fun e w' => e = .returned (.tuple #[.int .u8 (qnameI c).1, .bool (qnameI c).2]) ∧ w = w' := by
  have hr : qnameI c = if c = 8 then (98, true) else if c = 9 then (116, true) else if c = 10 then (110, true) else if c = 12 then (102, true) else if c = 13 then (114, true) else (0, false) := rfl
  have HR := hid' hr
  clear hr
  go_enter Try.func79, Try.ntmps79
  go_wp2
  all_goals
    go_ret2
    rw [HR.out]
    refine ⟨?_, rfl⟩
    simp_all
theorem qn8 (w : World) : Calls Try.prog 79 #[.int .u8 8] w fun e w' => e = .returned (.tuple #[.int .u8 98, .bool true]) ∧ w = w' := qname_any 8 w
theorem qn9 (w : World) : Calls Try.prog 79 #[.int .u8 9] w fun e w' => e = .returned (.tuple #[.int .u8 116, .bool true]) ∧ w = w' := qname_any 9 w
theorem qn10 (w : World) : Calls Try.prog 79 #[.int .u8 10] w fun e w' => e = .returned (.tuple #[.int .u8 110, .bool true]) ∧ w = w' := qname_any 10 w
theorem qn12 (w : World) : Calls Try.prog 79 #[.int .u8 12] w fun e w' => e = .returned (.tuple #[.int .u8 102, .bool true]) ∧ w = w' := qname_any 12 w
theorem qn13 (w : World) : Calls Try.prog 79 #[.int .u8 13] w fun e w' => e = .returned (.tuple #[.int .u8 114, .bool true]) ∧ w = w' := qname_any 13 w
end Go.Proofs.Ytpgkjgceldleaaa
/- Bytes in memory, made a string. -/
namespace Go.Proofs.Ytpgkjgceldleaaa
open Go.RowKit

theorem loadCells_T (P : Program) (w : World) (a : Addr) (bs : List UInt8) (h : ∀ i (hi : i < bs.length), w.cell? (a.add i) = some (u8V bs[i])) :
    (loadCells a bs.length).run P w = .ok (bs.map u8V).toArray w := by
  have key : ∀ (n i : Nat) (acc : Array Value), i + n = bs.length → (loadCellsFrom a i n acc).run P w = .ok (acc ++ ((bs.drop i).map u8V).toArray) w := by
    intro n
    induction n with
    | zero => intro i acc hi; simp [loadCellsFrom, show bs.drop i = [] from List.drop_eq_nil_of_le (by omega)]
    | succ n ih =>
      intro i acc hi
      have hlt : i < bs.length := by omega
      simp only [loadCellsFrom, Sem.run_bind, run_load, h i hlt, Result.andThen_ok]
      rw [ih (i + 1) _ (by omega), List.drop_eq_getElem_cons hlt]
      refine congrArg (fun x => Result.ok x w) ?_
      apply Array.ext'
      simp only [Array.toList_append, Array.toList_push, List.append_assoc, List.singleton_append, List.map_cons]
  have := key bs.length 0 #[] (by omega)
  simpa [loadCells] using this
theorem forIn_T (P : Program) (w : World) (f : Value → ByteArray → Sem (ForInStep ByteArray)) (hf : ∀ n s, f (.int .u8 n) s = pure (.yield (s.push (UInt8.ofNat n.toNat)))) :
    ∀ (l acc : List UInt8), (forIn (m := Sem) (l.map u8V) (⟨acc.toArray⟩ : ByteArray) f).run P w = .ok ⟨(acc ++ l).toArray⟩ w
  | [], acc => by simp
  | b :: l, acc => by
    simp only [List.map_cons, List.forIn_cons, hf, Sem.run_bind, Sem.run_pure, Result.andThen_ok]
    have e : (⟨acc.toArray⟩ : ByteArray).push (UInt8.ofNat ((b.toNat : Int)).toNat) = ⟨(acc ++ [b]).toArray⟩ := by
      simp [ByteArray.push]
    rw [e, forIn_T P w f hf l (acc ++ [b])]
    simp
theorem bytesToString_T (P : Program) (w : World) (a : Addr) (bs : List UInt8) (c : Nat) (h : ∀ i (hi : i < bs.length), w.cell? (a.add i) = some (u8V bs[i])) :
    (Conv.bytesToString (.slice (some a) bs.length c)).run P w = .ok (.string ⟨bs.toArray⟩) w := by
  have hl := loadCells_T P w a bs h
  simp only [Conv.bytesToString, Sem.run_bind, hl, Result.andThen_ok, List.forIn_toArray]
  have e0 : (ByteArray.empty : ByteArray) = ⟨([] : List UInt8).toArray⟩ := rfl
  rw [e0]
  have hk := fun f hf => forIn_T P w f hf bs []
  simp only [List.nil_append] at hk
  refine (congrArg (fun r => Result.andThen r fun a w' => (Pure.pure (Value.string a) : Sem Value).run P w') (hk _ (fun n s => rfl))).trans ?_
  simp
end Go.Proofs.Ytpgkjgceldleaaa
/- Walk: numtext.decimal, Int. -/
namespace Go.Proofs.Ytpgkjgceldleaaa
open Go.RowKit

def dgB (n : Nat) : UInt8 := UInt8.ofNat (48 + n)
/-- The decimal digits of a size. -/
def decL (n : Nat) : List UInt8 := if n < 10 then [dgB n] else decL (n / 10) ++ [dgB (n % 10)]
termination_by n
decreasing_by omega
theorem decL_lo (n : Nat) (h : n < 10) : decL n = [dgB n] := by rw [decL, if_pos h]
theorem decL_hi (n : Nat) (h : ¬ n < 10) : decL n = decL (n / 10) ++ [dgB (n % 10)] := by rw [decL, if_neg h]
theorem decL_len (n k : Nat) (h : n < 10 ^ (k + 1)) : (decL n).length ≤ k + 1 := by
  induction k generalizing n with
  | zero => rw [decL_lo n (by simpa using h)]; simp
  | succ k ih =>
    by_cases c : n < 10
    · rw [decL_lo n c]; simp
    · rw [decL_hi n c, List.length_append, List.length_singleton]
      have := ih (n / 10) (by rw [Nat.pow_succ] at h; omega)
      omega
def intL (v : Int) : List UInt8 := if v < 0 then 45 :: decL v.natAbs else decL v.natAbs
theorem nt_under : Try.prog.underlying 46 = some (.slice 5) := by kernel_rfl
theorem nt_underStr : Try.prog.underlying 9 = some .string := by kernel_rfl
theorem nt_underByte : Try.prog.underlying 5 = some (.int .u8) := by kernel_rfl
theorem str_oneN (a : Nat) (x : Int) (hx : x = 48 + (a : Int)) (h1 : a < 10) (W : World) (g : Nat) (h : W.cell? ⟨g, 0, none⟩ = some (.int .u8 x)) :
    (convert 46 9 (.slice (some ⟨g, 0, none⟩) 1 1)).run Try.prog W = .ok (.string ⟨#[dgB a]⟩) W := by
  simp only [convert, Sem.run_bind, run_underlying nt_underStr, run_underlying nt_under, run_underlying nt_underByte, Result.andThen_ok]
  have e : u8V (dgB a) = .int .u8 x := by
    rw [hx]
    simp only [u8V, dgB, UInt8.toNat_ofNat']
    rw [show (48 + a) % 2 ^ 8 = 48 + a by omega]; rfl
  exact bytesToString_T Try.prog W ⟨g, 0, none⟩ [dgB a] 1 (fun i hi => by
    obtain rfl : i = 0 := by simpa using hi
    rw [add_z, h]; simp only [List.getElem_cons_zero, e])
theorem app_lst (s t : ByteArray) : (s ++ t).toList = s.toList ++ t.toList := by
  rw [ByteArray.toList_eq, ByteArray.toList_eq, ByteArray.toList_eq, ByteArray.data_append]; simp
theorem one_lst (x : UInt8) : (⟨#[x]⟩ : ByteArray).toList = [x] := by rw [ByteArray.toList_eq]
theorem arr_lst (l : List UInt8) : (⟨l.toArray⟩ : ByteArray).toList = l := by rw [ByteArray.toList_eq]
theorem lst_inj {s t : ByteArray} (h : s.toList = t.toList) : s = t := by
  rw [ByteArray.toList_eq, ByteArray.toList_eq] at h
  exact ByteArray.ext (Array.toList_inj.1 h)

set_option maxRecDepth 100000 in
set_option maxHeartbeats 400000 in
theorem decimal_any (n : Nat) (hn : n ≤ 100000000000000) (w : World) :
    Calls Try.prog 90 #[.int .u64 n] w fun r w' => r = .returned (.string ⟨(decL n).toArray⟩) ∧ Chg NoB w w' := by
  go_enter Try.func90, Try.ntmps90
  go_wp2_with fail
  go_loopw [0, 3] (fun nv sv wr => ∃ (m : Nat) (S : ByteArray), m ≤ n ∧ nv = .int .u64 m ∧ sv = .string S ∧ decL n = decL m ++ S.toList ∧ Chg NoB w wr) (fun nv _ _ => (intOf nv).toNat)
  case atStart => exact ⟨n, ⟨#[]⟩, Nat.le_refl _, rfl, rfl, by rw [ByteArray.toList_eq]; simp, Chg.refl _ _⟩
  case round =>
    obtain ⟨m, S, hm, rfl, rfl, hD, X⟩ := hrel
    have hS : S.size ≤ 15 := by
      have h1 := decL_len n 14 (by omega)
      rw [hD, List.length_append, size_lst] at h1
      omega
    have hone := str_oneN (m % 10) (48 + (m : Int) % 10) (by omega) (by omega)
    have hm0 : (0 : Int) ≤ m := by omega
    have hml : (m : Int) ≤ 100000000000000 := by omega
    have q0 : 0 ≤ (m : Int) % 10 := by omega
    have q1 : (m : Int) % 10 < 10 := by omega
    have HD := hid' hD
    have HX := hid' X
    clear hD
    by_cases c : m < 10
    · have c' : ((m : Int) / 10 == 0) = true := by simp only [beq_iff_eq]; omega
      have HE := hid' (decL_lo m c)
      have HM := hid' (show m % 10 = m by omega)
      go_wp2_with fail
      go_ret
      refine ⟨congrArg (fun s => Ending.returned (.string s)) (lst_inj ?_), X.alloc _⟩
      refine Eq.trans ?_ (arr_lst _).symm
      rw [app_lst, one_lst, HD.out, HE.out, HM.out]
    · have c' : ((m : Int) / 10 == 0) = false := by simp only [beq_eq_false_iff_ne, ne_eq]; omega
      have HE := hid' (decL_hi m c)
      go_wp2_with fail
      go_roundw
      case rel => exact ⟨m / 10, _, by omega, by first | rfl | go_num, rfl, by rw [HD.out, HE.out, app_lst, one_lst, List.append_assoc], X.alloc _⟩
      case measure => simp [intOf]; omega

set_option maxRecDepth 100000 in
set_option maxHeartbeats 400000 in
theorem nint_any (v : Int) (h0 : -10000000000000 ≤ v) (h1 : v ≤ 10000000000000) (w : World) :
    Calls Try.prog 80 #[.int .i64 v] w fun r w' => r = .returned (.string ⟨(intL v).toArray⟩) ∧ Chg NoB w w' := by
  by_cases c : v < 0
  · have hd := fun w => decimal_any v.natAbs (by omega) w
    have hl := decL_len v.natAbs 14 (by omega)
    have e : -(v + 1) + 1 = (v.natAbs : Int) := by omega
    have HI := hid' (show intL v = 45 :: decL v.natAbs from if_pos c)
    have hz : (⟨(decL v.natAbs).toArray⟩ : ByteArray).size ≤ 15 := hl
    rw [← e] at hd
    have HL := hid' (arr_lst (decL v.natAbs))
    generalize (⟨(decL v.natAbs).toArray⟩ : ByteArray) = S at *
    have HD := hid' hd
    clear hd e
    go_enter Try.func80, Try.ntmps80
    go_wp2_with fail
    refine (HD.out _).mono ?_
    rintro r w1 ⟨rfl, X⟩
    go_wp2_with fail
    go_ret
    refine ⟨congrArg (fun s => Ending.returned (.string s)) (lst_inj ?_), X⟩
    refine Eq.trans ?_ (arr_lst _).symm
    rw [app_lst, one_lst, HI.out, HL.out]; rfl
  · have hd := fun w => decimal_any v.natAbs (by omega) w
    have e : v = (v.natAbs : Int) := by omega
    have HI := hid' (show intL v = decL v.natAbs from if_neg c)
    rw [← e] at hd
    have HD := hid' hd
    have c' : 0 ≤ v := by omega
    clear hd e
    go_enter Try.func80, Try.ntmps80
    go_wp2_with fail
    refine (HD.out _).mono ?_
    rintro r w1 ⟨rfl, X⟩
    go_wp2_with fail
    go_ret
    exact ⟨by rw [HI.out]; rfl, X⟩
end Go.Proofs.Ytpgkjgceldleaaa
