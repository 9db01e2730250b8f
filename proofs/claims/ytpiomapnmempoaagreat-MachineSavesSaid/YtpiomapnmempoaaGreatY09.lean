/- Parts of the proof: Obx, Tch, Rnd, Tq, Tsk, Tnu, Tnv, Tbt. -/
import Derived.RangeFuncCalls
import Derived.RangeFuncNested
import Derived.OwnWalkIn
import Derived.Deep.AppendLies
import Derived.Maps.AppendAt
import Derived.Deep.LoopGhost
import Derived.Test.YtpiomapnmempoaaGreatY01
namespace Go.Proofs.YtpiomapnmempoaaGreat
open Go.RowKit
variable {B bt l n : Nat} {w w0 : World} {T : TypeId} {v : Value} {xs : List Value} {b : List UInt8} {e : Int}
abbrev obox (x : O) : Obj := .cells #[.int .i64 x.kind, .bool x.exec, .int .i64 x.n, .int .i64 x.pos, .int .i64 x.len, .string x.s] 49
abbrev nameO (s : ByteArray) : O := ⟨5, false, 0, 0, 0, s⟩
abbrev iO (v : Int) : O := ⟨3, false, v, 0, 0, ⟨#[]⟩⟩
abbrev bO (b : Bool) : O := ⟨2, false, if b = true then 1 else 0, 0, 0, ⟨#[]⟩⟩
theorem m0 {α : Type} {a : α} {l : List α} : a ∈ a :: l := List.mem_cons_self ..
theorem m1 {α : Type} {a b : α} {l : List α} : a ∈ b :: a :: l := List.mem_cons_of_mem _ m0
theorem m2 {α : Type} {a b c : α} {l : List α} : a ∈ b :: c :: a :: l := List.mem_cons_of_mem _ m1
theorem m3 {α : Type} {a b c d : α} {l : List α} : a ∈ b :: c :: d :: a :: l := List.mem_cons_of_mem _ m2
theorem m4 {α : Type} {a b c d e : α} {l : List α} : a ∈ b :: c :: d :: e :: a :: l := List.mem_cons_of_mem _ m3
theorem m5 {α : Type} {a b c d e f : α} {l : List α} : a ∈ b :: c :: d :: e :: f :: a :: l := List.mem_cons_of_mem _ m4
theorem m6 {α : Type} {a b c d e f g : α} {l : List α} : a ∈ b :: c :: d :: e :: f :: g :: a :: l := List.mem_cons_of_mem _ m5
theorem m7 {α : Type} {a b c d e f g h : α} {l : List α} : a ∈ b :: c :: d :: e :: f :: g :: h :: a :: l := List.mem_cons_of_mem _ m6
theorem m8 {α : Type} {a b c d e f g h i : α} {l : List α} : a ∈ b :: c :: d :: e :: f :: g :: h :: i :: a :: l := List.mem_cons_of_mem _ m7
theorem m9 {α : Type} {a b c d e f g h i j : α} {l : List α} : a ∈ b :: c :: d :: e :: f :: g :: h :: i :: j :: a :: l := List.mem_cons_of_mem _ m8
theorem hid' {p : Prop} (h : p) : Hid p := h
def kindI (c : Int) : Int :=
 if c = 0 ∨ c = 9 ∨ c = 10 ∨ c = 12 ∨ c = 13 ∨ c = 32 then 1
 else if c = 40 ∨ c = 41 ∨ c = 60 ∨ c = 62 ∨ c = 91 ∨ c = 93 ∨ c = 123 ∨ c = 125 ∨ c = 47 ∨ c = 37 then 2 else 3
def valueI (c : Int) : Int :=
 if 48 ≤ c ∧ c ≤ 57 then c - 48 else if 97 ≤ c ∧ c ≤ 122 then c - 87 else if 65 ≤ c ∧ c ≤ 90 then c - 55 else -1
def isReg (c : UInt8) : Bool := kindI c.toNat == 3
def regL (l : List UInt8) : Nat := (l.takeWhile isReg).length
theorem size_lst (s : ByteArray) : s.toList.length = s.size := by rw [ByteArray.toList_eq]; rfl
theorem drop_at (s : ByteArray) (j : Nat) (h : j < s.size) : s.toList.drop j = s[j] :: s.toList.drop (j + 1) := by
 rw [List.drop_eq_getElem_cons (by rw [size_lst]; exact h)]
 congr 1
 simp only [ByteArray.toList_eq]; rfl
theorem drop_end (s : ByteArray) (j : Nat) (h : s.size ≤ j) : s.toList.drop j = [] := List.drop_eq_nil_of_le (by rw [size_lst]; exact h)
set_option maxRecDepth 100000 in
set_option maxHeartbeats 2000000 in
theorem ckind_any (c : Int) (w : World) : Calls Tryz.prog 79 #[.int .u8 c] w fun e w' => e = .returned (.int .i64 (kindI c)) ∧ w = w' := by
 have hr : kindI c = if c = 0 ∨ c = 9 ∨ c = 10 ∨ c = 12 ∨ c = 13 ∨ c = 32 then 1
  else if c = 40 ∨ c = 41 ∨ c = 60 ∨ c = 62 ∨ c = 91 ∨ c = 93 ∨ c = 123 ∨ c = 125 ∨ c = 47 ∨ c = 37 then 2 else 3 := rfl
 have HR := hid' hr; clear hr; go_enter Tryz.func79, Tryz.ntmps79
 go_wp2
 all_goals
  go_ret; rw [HR.out]; refine ⟨?_, rfl⟩
  simp_all
set_option maxRecDepth 100000 in
set_option maxHeartbeats 2000000 in
theorem value_any (c : Int) (h0 : 0 ≤ c) (h1 : c < 256) (w : World) : Calls Tryz.prog 129 #[.int .u8 c] w fun e w' => e = .returned (.int .i64 (valueI c)) ∧ w = w' := by
 have hr : valueI c = if 48 ≤ c ∧ c ≤ 57 then c - 48 else if 97 ≤ c ∧ c ≤ 122 then c - 87 else if 65 ≤ c ∧ c ≤ 90 then c - 55 else -1 := rfl
 have HR := hid' hr; clear hr
 by_cases a1 : 48 ≤ c
 all_goals by_cases a2 : c ≤ 57
 all_goals by_cases a3 : 97 ≤ c
 all_goals by_cases a4 : c ≤ 122
 all_goals by_cases a5 : 65 ≤ c
 all_goals by_cases a6 : c ≤ 90
 all_goals first | (exfalso; omega) | skip
 all_goals
  go_enter Tryz.func129, Tryz.ntmps129
  go_wp2
  go_ret; rw [HR.out]; refine ⟨congrArg (fun z => Ending.returned (Value.int .i64 z)) ?_, rfl⟩
  split <;> (try split) <;> (try split) <;> omega
theorem regL_at (s : ByteArray) (j : Nat) (h : j < s.size) : regL (s.toList.drop j) = if kindI s[j].toNat = 3 then regL (s.toList.drop (j + 1)) + 1 else 0 := by
 rw [drop_at s j h]; unfold regL; rw [List.takeWhile_cons]; unfold isReg
 by_cases hk : kindI s[j].toNat = 3 <;> simp [hk]
theorem regL_end (s : ByteArray) (j : Nat) (h : s.size ≤ j) : regL (s.toList.drop j) = 0 := by rw [drop_end s j h]; rfl
theorem regL_le (l : List UInt8) : regL l ≤ l.length := (List.takeWhile_sublist _).length_le
set_option maxRecDepth 100000 in
set_option maxHeartbeats 2000000 in
theorem regular_any (s : ByteArray) (a : Nat) (hs : s.size ≤ 1000000) (ha : a ≤ s.size + 2) (w : World) :
 Calls Tryz.prog 83 #[.string s, .int .i64 a] w fun e w' => e = .returned (.int .i64 (regL (s.toList.drop a) : Nat)) ∧ w = w' := by
 by_cases h : s.size ≤ a
 · have h' : (s.size : Int) ≤ a := by omega
   have HE := hid' (regL_end s a h); go_enter Tryz.func83, Tryz.ntmps83
   go_wp2_with fail
   go_ret; rw [HE.out]; exact ⟨rfl, rfl⟩
 · have h' : (a : Int) < s.size := by omega
   go_enter Tryz.func83, Tryz.ntmps83
   go_wp2_with fail
   go_loop [5] (fun n => ∃ j : Nat, a ≤ j ∧ j ≤ s.size ∧ n = .int .i64 j ∧ regL (s.toList.drop a) = (j - a) + regL (s.toList.drop j)) (fun n => s.size - (intOf n).toNat)
   case atStart => exact ⟨a, Nat.le_refl _, by omega, rfl, by omega⟩
   case round =>
    obtain ⟨j, hj1, hj2, rfl, hj3⟩ := hrel; have HJ := hid' hj3; clear hj3
    by_cases hlt : j < s.size
    · have hlt' : (j : Int) < s.size := by omega
      have HS := hid' (regL_at s j hlt)
      by_cases hk : kindI s[j].toNat = 3
      · have hk' : (kindI s[j].toNat == 3) = true := by simpa using hk
        have HK := hid' hk; clear hk
        go_wp2_with (go_at_call 79; refine (ckind_any _ _).mono ?_; rintro e w' ⟨rfl, rfl⟩)
        go_round
        case rel => exact ⟨j + 1, by omega, by omega, by go_num, by rw [HJ.out, HS.out, if_pos HK.out]; omega⟩
        case measure => simp [intOf]; omega
      · have hk' : (kindI s[j].toNat == 3) = false := by simpa using hk
        have HK := hid' hk; clear hk
        go_wp2_with (go_at_call 79; refine (ckind_any _ _).mono ?_; rintro e w' ⟨rfl, rfl⟩)
        go_ret; exact ⟨by rw [HJ.out, HS.out, if_neg HK.out]; go_num, rfl⟩
    · obtain rfl : j = s.size := by omega
      have HS := hid' (regL_end s s.size (Nat.le_refl _)); go_wp2_with fail
      go_ret; exact ⟨by rw [HJ.out, HS.out]; go_num, rfl⟩
section
variable {P : Program} {md : Region.Mode} {ops : Array Oper} {Q : Exit → Act → World → Prop}
theorem upon_in {o : Oper} {a : Act} {K K' : Act → World → Prop} (hK : ∀ a w, K a w → K' a w) : ∀ r : Result Go.Next, o.upon P a K Q r → o.uponIn (Fence.wide.inRound l) 0 P a K' Q r := by
 intro r h
 match r with
 | .ok (.value v) w => exact hK _ _ h
 | .ok .skip w => exact hK _ _ h
 | .ok (.defer d) w => exact hK _ _ h
 | .ok (.enter f args) w =>
  refine ⟨fun h => by simp [Fence.wide] at h, CallsIn.inRound l (callsIn_wide.2 ?_)⟩; refine Calls.mono h ?_; intro e w' hr
  cases e with
  | returned v => exact hK _ _ hr
  | panicked ch => exact hr
  | outgrown => exact hr
 | .ok (.row row args) w =>
  refine ⟨fun h => by simp [Fence.wide] at h, fun c cs _ => ?_⟩; obtain ⟨v, w', hr, hs⟩ := h c cs; exact ⟨v, w', hK _ _ hr, stepsIn_wide.2 hs⟩
 | .halt (.panic v) w => exact h
theorem op_in {i : Nat} {a : Act} {K K' : Act → World → Prop} (hQ : ¬ LetsOut Q) (hd : ∀ (j : Nat) (o : Oper), ops[j]? = some o → ∀ c, o.op ≠ .defer c) (hK : ∀ a w, K a w → K' a w) (h : wpOp P ops Q i K a w) :
 wpOpIn (Fence.wide.inRound l) 0 P ops Q i K' a w := by
 unfold wpOp at h; unfold wpOpIn
 cases ho : ops[i]? with
 | none => rw [ho] at h; exact hK _ _ h
 | some o =>
  rw [ho] at h; simp only at h ⊢; split
  · rename_i hw
    rw [if_pos hw] at h
    rcases h with h | ⟨_, h⟩
    · refine ⟨fun _ _ => trivial, ?_⟩; rw [Fence.inRound_round, Oper.semAt_some l _ _ (hd i o ho)]; exact upon_in hK _ h
    · exact absurd h hQ
  · rename_i hw
    rw [if_neg hw] at h; exact ⟨fun _ _ => trivial, hK _ _ h⟩
theorem any_in (hQ : ¬ LetsOut Q) (hd : ∀ (j : Nat) (o : Oper), ops[j]? = some o → ∀ c, o.op ≠ .defer c) : ∀ (fuel : Nat) (listed : Array Bool) (a : Act) (w : World), wpAny P md ops Q fuel listed a w → wpAnyIn (Fence.wide.inRound l) 0 P md ops Q fuel listed a w
 | 0, _, _, _, h => h
 | fuel + 1, _, _, _, h => ⟨h.1, fun i hi => op_in hQ hd (fun a' w' h' => any_in hQ hd fuel _ a' w' h') (h.2 i hi)⟩
theorem region_in {id : Nat} {a : Act} {S : World → Prop} (hm : P.follows .mixedOrders = true) (hQ : ¬ LetsOut Q) (hd : ops.toList.all (fun o => match o.op with | .defer _ => false | _ => true) = true) (hS : S w.drew)
 (h : S w.drew → wpAnyH P .any ops Q S ops.size (Array.replicate ops.size false) a w.drew) : (Code.region id ops true).wpIn (Fence.wide.inRound l) 0 P Q a w := by
 refine wpIn_region_any hm (any_in hQ (fun j o ho c e => ?_) _ _ _ _ (wpAny_of_held _ _ _ _ (h hS)))
 have hmem : o ∈ ops.toList := by
  obtain ⟨hj, rfl⟩ := Array.getElem?_eq_some_iff.1 ho; exact Array.getElem_mem_toList hj
 have := List.all_eq_true.1 hd o hmem; rw [e] at this; simp at this
end
theorem ownB {w' : World} {S : Nat → Prop} {size : Nat} (h : w.ownsRow B T size v n xs) (hc : Chg S w w') (hS : ∀ b ∈ v.ownBlock.toList, ¬ S b) : w'.ownsRow B T size v n xs := by
 obtain ⟨h1, h2⟩ := h; refine ⟨h1, ?_⟩
 rcases h2 with h2 | ⟨g, cap, cur, rfl, h3, h4, h5⟩
 · exact .inl h2
 · exact .inr ⟨g, cap, cur, rfl, h3, hc.blk h4 (hS g (by simp [Value.ownBlock])), h5⟩
theorem own_ge {size : Nat} (h : w.ownsRow B T size v n xs) : ∀ b ∈ v.ownBlock.toList, B ≤ b ∧ b < w.heap.size := by
 intro b hb
 rcases h.2 with ⟨rfl, -⟩ | ⟨g, cap, cur, rfl, h3, h4, -⟩
 · simp [Value.ownBlock] at hb
 · simp [Value.ownBlock] at hb
   subst hb; exact ⟨h3, blk_lt h4⟩
theorem own_val {size : Nat} (h : w.ownsRow B T size v n xs) : ∃ a cap, v = .slice a n cap ∧ n ≤ cap := by
 rcases h.2 with ⟨rfl, rfl⟩ | ⟨g, cap, cur, rfl, _, _, h1, _⟩
 · exact ⟨none, 0, rfl, Nat.le_refl _⟩
 · exact ⟨_, _, rfl, h1⟩
theorem u8F {c : UInt8} (n : UInt8) (h : ¬ c = n) (m : Int) (hm : m = n.toNat := by rfl) : ((c.toNat : Int) == m) = false := by
 simp only [beq_eq_false_iff_ne, ne_eq]; intro e; exact h (UInt8.toNat_inj.1 (by omega))
theorem u8T {c : UInt8} (n : UInt8) (h : c = n) (m : Int) (hm : m = n.toNat := by rfl) : ((c.toNat : Int) == m) = true := by subst h hm; simp
theorem u8Fr {c : UInt8} (n : UInt8) (h : ¬ c = n) (m : Int) (hm : m = n.toNat := by rfl) : (m == (c.toNat : Int)) = false := by
 simp only [beq_eq_false_iff_ne, ne_eq]; intro e; exact h (UInt8.toNat_inj.1 (by omega))
theorem u8Tr {c : UInt8} (n : UInt8) (h : c = n) (m : Int) (hm : m = n.toNat := by rfl) : (m == (c.toNat : Int)) = true := by subst h hm; simp
theorem u8nF {c : UInt8} (n : UInt8) (h : c = n) (m : Int) (hm : m = n.toNat := by rfl) : ((c.toNat : Int) != m) = false := by subst h hm; simp
theorem u8nT {c : UInt8} (n : UInt8) (h : ¬ c = n) (m : Int) (hm : m = n.toNat := by rfl) : ((c.toNat : Int) != m) = true := by
 have := u8F n h m hm; simp only [bne, this, Bool.not_false]
abbrev u8V (b : UInt8) : Value := .int .u8 b.toNat
abbrev u8L (l : List UInt8) : List Value := l.map u8V
theorem tq_under : Tryz.prog.underlying 59 = some (.slice 5) := by kernel_rfl
theorem tq_info : (Tryz.prog.info? 5).map (fun i => (i.zero, i.size, i.bytes)) = some (some (.int .u8 0), 1, 1) := by kernel_rfl
def At8 (w : World) (g : Nat) (l : List UInt8) : Prop := ∀ j, j < l.length → w.cell? ⟨g, j, none⟩ = some (u8V (l.getD j 0))
theorem add_z (g i : Nat) : (⟨g, 0, none⟩ : Addr).add i = ⟨g, i, none⟩ := by unfold Addr.add; split <;> simp_all
set_option maxRecDepth 100000 in
theorem qput_any (h : w.ownsRow B 5 1 v b.length (u8L b)) (hB : B ≤ w.heap.size) (g : Nat) (m : List UInt8) (c : Nat) (hm : At8 w g m) (hl : b.length + m.length ≤ 1000000) :
 Calls Tryz.prog 85 #[v, .slice (some ⟨g, 0, none⟩) m.length c] w fun e w' => ∃ v', e = .returned v' ∧ w'.ownsRow B 5 1 v' (b ++ m).length (u8L (b ++ m)) ∧ w.grownBy w' v.ownBlock ∧ (v'.ownBlock = v.ownBlock ∨ v'.ownBlock = some w.heap.size) := by
 obtain ⟨i0, hi, hz0, hz1, hz2⟩ := info_parts tq_info; have H := hid' h; have HA := hid' hm; clear h hm; go_enter Tryz.func85, Tryz.ntmps85
 go_wp2_with (at_builtin; refine wpList_append_own_at _ rfl _ _ 59 rfl B 5 i0 (.int .u8 0) 1 1 tq_under hi hz0 hz1 hz2 rfl (by decide) v b.length (u8L b) rfl H.out ⟨g, 0, none⟩ m.length c (u8L m) rfl (by simp [u8L]) (fun j u hu => by
  rw [add_z]
  have hj : j < m.length := by have := (List.getElem?_eq_some_iff.1 hu).1; simpa [u8L] using this
  rw [HA.out j hj]; rw [← hu]
  simp [u8L, hj]) (fun u hu => by simp only [u8L, List.mem_map] at hu; obtain ⟨x, -, rfl⟩ := hu; rfl) (by unfold maxLen; omega) (by omega) hB ?_)
 intro v' w1 hown hgr _ hat; have HAT := hid' hat; clear hat; have HO := hid' (show w1.ownsRow B 5 1 v' (b ++ m).length (u8L (b ++ m)) by rw [List.length_append]; simpa [u8L] using hown); have HG := hid' hgr; clear hown hgr; go_wp2_with fail
 go_ret; exact ⟨v', rfl, HO.out, HG.out, HAT.out⟩
abbrev tkBox (v : Value) (e : Int) : Obj := .cells #[v, .int .i64 e] 191 (0, 0)
structure Tk (w0 w : World) (bt : Nat) (v : Value) (b : List UInt8) (e : Int) : Prop where
 chg : Chg NoB w0 w
 ge : w0.heap.size ≤ bt
 box : w.heap[bt]? = some (tkBox v e)
 own : w.ownsRow (bt + 1) 5 1 v b.length (u8L b)
theorem Tk.pure {w' : World} (A : Tk w0 w bt v b e) (X : Chg NoB w w') : Tk w0 w' bt v b e :=
 ⟨A.chg.trans X, A.ge, X.blk A.box id, ownB A.own X (fun _ _ e => e)⟩
theorem Tk.fail (A : Tk w0 w bt v b e) (e' : Int) : Tk w0 (w.setCell ⟨bt, 1, none⟩ (.int .i64 e')) bt v b e' := by
 refine ⟨A.chg.setCell (.inr A.ge) _, A.ge, ?_, ownB A.own ((Chg.refl (· = bt) w).setCell (p := ⟨bt, 1, none⟩) (.inl rfl) _) (fun g hg e => by have := (own_ge A.own g hg).1; omega)⟩; have := blk_set A.box 1 (.int .i64 e')
 simpa using this
theorem Tk.more {w1 : World} {v' : Value} {b' : List UInt8} (A : Tk w0 w bt v b e) (hown : w1.ownsRow (bt + 1) 5 1 v' b'.length (u8L b')) (hgr : w.grownBy w1 v.ownBlock) :
 w1.heap[bt]? = some (tkBox v e) ∧ Tk w0 (w1.setCell ⟨bt, 0, none⟩ v') bt v' b' e := by
 have C : Chg (fun k => v.ownBlock = some k) w w1 := Chg.grown (Chg.refl _ w) hgr (fun k hk => .inl hk); have hn : ∀ k, v.ownBlock = some k → bt + 1 ≤ k := fun k hk => (own_ge A.own k (by simp [hk])).1; have hb : w1.heap[bt]? = some (tkBox v e) := C.blk A.box (fun h => by have := hn bt h; omega); have hge := A.ge; refine ⟨hb, (A.chg.trans' C (fun i hi h => by have := hn i h; omega)).setCell (.inr A.ge) _, A.ge, ?_, ownB hown ((Chg.refl (· = bt) w1).setCell (p := ⟨bt, 0, none⟩) (.inl rfl) _) (fun g hg e => by have := (own_ge hown g hg).1; omega)⟩; have := blk_set hb 0 v'
 simpa using this
set_option maxRecDepth 100000 in
theorem qbad_any (A : Tk w0 w bt v b e) (e' : Int) :
 Calls Tryz.prog 124 #[.pointer (some ⟨bt, 0, none⟩), .int .i64 e'] w fun r w' => r = .returned (.int .i64 0) ∧ Tk w0 w' bt v b e' := by
 have R := cells_of A.box; have Z := free_of A.box; have l := blk_lt A.box; have H := hid' (A.fail e'); clear A; go_enter Tryz.func124, Tryz.ntmps124
 go_wp2
 go_ret; exact ⟨rfl, H.out⟩
set_option maxRecDepth 100000 in
theorem qadd_full (A : Tk w0 w bt v b e) (g : Nat) (m : List UInt8) (c : Nat) (hb : b.length ≤ 4000) (h4 : m.length ≤ 4) (h : 4000 < b.length + m.length) :
 Calls Tryz.prog 126 #[.pointer (some ⟨bt, 0, none⟩), .slice (some ⟨g, 0, none⟩) m.length c] w fun r w' => r = .returned (.bool false) ∧ Tk w0 w' bt v b 5 := by
 have R := cells_of A.box; have Z := free_of A.box; have l := blk_lt A.box; have H := hid' (A.fail 5); obtain ⟨a, cap, rfl, -⟩ := own_val A.own
 have h1 : 4000 < (b.length : Int) + (m.length : Int) := by omega
 clear A; go_enter Tryz.func126, Tryz.ntmps126
 go_wp2
 go_ret; exact ⟨rfl, H.out⟩
set_option maxRecDepth 100000 in
theorem qadd_any (A : Tk w0 w bt v b e) (g : Nat) (m : List UInt8) (c : Nat) (hm : At8 w g m) (h4 : m.length ≤ 4) (h : b.length + m.length ≤ 4000) :
 Calls Tryz.prog 126 #[.pointer (some ⟨bt, 0, none⟩), .slice (some ⟨g, 0, none⟩) m.length c] w fun r w' => r = .returned (.bool true) ∧ ∃ v', Tk w0 w' bt v' (b ++ m) e := by
 have R := cells_of A.box; have l := blk_lt A.box; obtain ⟨a, cap, rfl, -⟩ := own_val A.own
 have h1 : (b.length : Int) + (m.length : Int) ≤ 4000 := by omega
 have HA := hid' A; have HM := hid' hm; clear A hm; go_enter Tryz.func126, Tryz.ntmps126
 go_wp2_with fail
 refine (qput_any HA.out.own (by omega) g m c HM.out (by omega)).mono ?_; rintro r w1 ⟨v', rfl, hown, hgr, -⟩; obtain ⟨hb1, A1⟩ := HA.out.more hown hgr; have H1 := hid' A1; obtain ⟨a', cap', rfl, -⟩ := own_val hown; rw [List.length_append] at H1; clear A1 hown hgr R l; have R := cells_of hb1; have Z := free_of hb1; have l := blk_lt hb1; clear hb1; go_wp2
 go_ret; exact ⟨rfl, _, H1.out⟩
def qnameI (c : Int) : Int × Bool := if c = 8 then (98, true) else if c = 9 then (116, true) else if c = 10 then (110, true) else if c = 12 then (102, true) else if c = 13 then (114, true) else (0, false)
set_option maxRecDepth 100000 in
theorem qname_any (c : Int) (w : World) : Calls Tryz.prog 86 #[.int .u8 c] w fun e w' => e = .returned (.tuple #[.int .u8 (qnameI c).1, .bool (qnameI c).2]) ∧ w = w' := by
 have hr : qnameI c = if c = 8 then (98, true) else if c = 9 then (116, true) else if c = 10 then (110, true) else if c = 12 then (102, true) else if c = 13 then (114, true) else (0, false) := rfl
 have HR := hid' hr; clear hr; go_enter Tryz.func86, Tryz.ntmps86
 go_wp2
 all_goals
  go_ret2
  rw [HR.out]; refine ⟨?_, rfl⟩
  simp_all
theorem qn8 (w : World) : Calls Tryz.prog 86 #[.int .u8 8] w fun e w' => e = .returned (.tuple #[.int .u8 98, .bool true]) ∧ w = w' := qname_any 8 w
theorem qn9 (w : World) : Calls Tryz.prog 86 #[.int .u8 9] w fun e w' => e = .returned (.tuple #[.int .u8 116, .bool true]) ∧ w = w' := qname_any 9 w
theorem qn10 (w : World) : Calls Tryz.prog 86 #[.int .u8 10] w fun e w' => e = .returned (.tuple #[.int .u8 110, .bool true]) ∧ w = w' := qname_any 10 w
theorem qn12 (w : World) : Calls Tryz.prog 86 #[.int .u8 12] w fun e w' => e = .returned (.tuple #[.int .u8 102, .bool true]) ∧ w = w' := qname_any 12 w
theorem qn13 (w : World) : Calls Tryz.prog 86 #[.int .u8 13] w fun e w' => e = .returned (.tuple #[.int .u8 114, .bool true]) ∧ w = w' := qname_any 13 w
structure Tok where
 kind : Int
 n : Int
 s : ByteArray
 pos : Int
 deriving DecidableEq
abbrev Tok.val (t : Tok) : Value := .agg #[.int .i64 t.kind, .int .i64 t.n, .string t.s, .int .i64 t.pos]
def Tok.nil : Tok := ⟨0, 0, ⟨#[]⟩, 0⟩
def signL (k : Int) : List UInt8 :=
 if k = 7 then [123] else if k = 8 then [125] else if k = 9 then [91] else if k = 10 then [93] else if k = 11 then [60, 60] else if k = 12 then [62, 62] else []
abbrev signB (k : Int) : ByteArray := ⟨(signL k).toArray⟩
set_option maxRecDepth 100000 in
theorem sign_any (k : Int) (h0 : -1000000000 ≤ k) (h1 : k ≤ 1000000000) (w : World) : Calls Tryz.prog 80 #[.int .i64 k] w fun e w' => e = .returned (.string (signB k)) ∧ w = w' := by
 have hr : signL k = if k = 7 then [123] else if k = 8 then [125] else if k = 9 then [91] else if k = 10 then [93] else if k = 11 then [60, 60] else if k = 12 then [62, 62] else [] := rfl
 by_cases c7 : k = 7
 · subst c7; go_enter Tryz.func80, Tryz.ntmps80
   go_wp2
   go_ret; exact ⟨rfl, rfl⟩
 by_cases c8 : k = 8
 · subst c8; go_enter Tryz.func80, Tryz.ntmps80
   go_wp2
   go_ret; exact ⟨rfl, rfl⟩
 by_cases c9 : k = 9
 · subst c9; go_enter Tryz.func80, Tryz.ntmps80
   go_wp2
   go_ret; exact ⟨rfl, rfl⟩
 by_cases c10 : k = 10
 · subst c10; go_enter Tryz.func80, Tryz.ntmps80
   go_wp2
   go_ret; exact ⟨rfl, rfl⟩
 by_cases c11 : k = 11
 · subst c11; go_enter Tryz.func80, Tryz.ntmps80
   go_wp2
   go_ret; exact ⟨rfl, rfl⟩
 by_cases c12 : k = 12
 · subst c12; go_enter Tryz.func80, Tryz.ntmps80
   go_wp2
   go_ret; exact ⟨rfl, rfl⟩
 rw [if_neg c7, if_neg c8, if_neg c9, if_neg c10, if_neg c11, if_neg c12] at hr; have HR := hid' hr
 have u7 : (k - 7 == 0) = false := by simp; omega
 have u8 : (k - 7 == 1) = false := by simp; omega
 have u9 : (k - 7 == 2) = false := by simp; omega
 have u10 : (k - 7 == 3) = false := by simp; omega
 have u11 : (k - 7 == 4) = false := by simp; omega
 have u12 : (k - 7 == 5) = false := by simp; omega
 clear hr c7 c8 c9 c10 c11 c12; go_enter Tryz.func80, Tryz.ntmps80
 go_wp2
 go_ret; exact ⟨by rw [signB, HR.out]; rfl, rfl⟩
def skipL : Bool → List UInt8 → Nat
 | _, [] => 0
 | true, c :: t => if c = 10 ∨ c = 13 then 1 + skipL false t else 1 + skipL true t
 | false, c :: t => if kindI c.toNat = 1 then 1 + skipL false t else if c = 37 then 1 + skipL true t else 0
theorem skipL_end (s : ByteArray) (j : Nat) (h : s.size ≤ j) (b : Bool) : skipL b (s.toList.drop j) = 0 := by rw [drop_end s j h]; cases b <;> rfl
theorem skipL_f (s : ByteArray) (j : Nat) (h : j < s.size) : skipL false (s.toList.drop j) = if kindI s[j].toNat = 1 then 1 + skipL false (s.toList.drop (j + 1)) else if s[j] = 37 then 1 + skipL true (s.toList.drop (j + 1)) else 0 := by
 rw [drop_at s j h, skipL]
theorem skipL_t (s : ByteArray) (j : Nat) (h : j < s.size) : skipL true (s.toList.drop j) = if s[j] = 10 ∨ s[j] = 13 then 1 + skipL false (s.toList.drop (j + 1)) else 1 + skipL true (s.toList.drop (j + 1)) := by
 rw [drop_at s j h, skipL]
theorem kind_10 : kindI ((10 : UInt8).toNat : Int) = 1 := by decide
theorem kind_13 : kindI ((13 : UInt8).toNat : Int) = 1 := by decide
set_option maxRecDepth 100000 in
set_option maxHeartbeats 2000000 in
theorem skip_any (s : ByteArray) (a : Nat) (hs : s.size ≤ 1000000) (ha : a ≤ s.size) (w : World) :
 Calls Tryz.prog 51 #[.string s, .int .i64 a] w fun e w' => e = .returned (.int .i64 ((a + skipL false (s.toList.drop a) : Nat) : Int)) ∧ w = w' := by
 go_enter Tryz.func51, Tryz.ntmps51
 go_wp2
 go_step3
 go_wp2
 go_step3
 go_wp2
 go_loopg [1] (s.size - a) (fun g i wx => ∃ j : Nat, a ≤ j ∧ j + g = s.size ∧ i = .int .i64 j ∧ a + skipL false (s.toList.drop a) = j + skipL false (s.toList.drop j) ∧ w = wx)
 case atStart => exact ⟨a, Nat.le_refl _, by omega, rfl, rfl, rfl⟩
 case round =>
  obtain ⟨j, hj1, hj2, rfl, h1, rfl⟩ := hrel; have H1 := hid' h1; clear h1
  by_cases hlt : j < s.size
  rotate_left
  · obtain rfl : j = s.size := by omega
    have HY := hid' (skipL_end s s.size (Nat.le_refl _) false); go_wp2_with fail
    rw [Exit.noGoto_ret]; go_ret; exact ⟨by rw [H1.out, HY.out]; rfl, rfl⟩
  have hlt' : (j : Int) < s.size := by omega
  have hE := skipL_f s j hlt
  by_cases ek : kindI s[j].toNat = 1
  · have uk : (kindI s[j].toNat == 1) = true := by simpa using ek
    have HY := hid' (hE.trans (if_pos ek)); clear hE ek; go_wp2_with fail
    refine (ckind_any _ _).mono ?_; rintro r w1 ⟨rfl, rfl⟩; go_wp2_with fail
    go_roundg (s.size - (j + 1))
    case rel => exact ⟨j + 1, by omega, by omega, by go_num, by rw [H1.out, HY.out]; omega, rfl⟩
    case measure => omega
  have uk : (kindI s[j].toNat == 1) = false := by simpa using ek
  have hE1 := hE.trans (if_neg ek); clear hE ek
  by_cases e37 : s[j] = 37
  rotate_left
  · have u37 := u8F 37 e37 (37 : Int); have HY := hid' (hE1.trans (if_neg e37)); clear hE1 e37; go_wp2_with fail
    refine (ckind_any _ _).mono ?_; rintro r w1 ⟨rfl, rfl⟩; go_wp2_with fail
    rw [Exit.noGoto_ret]; go_ret; exact ⟨by rw [H1.out, HY.out]; rfl, rfl⟩
  have u37 := u8T 37 e37 (37 : Int); have HY := hid' (hE1.trans (if_pos e37)); clear hE1 e37; go_wp2_with fail
  refine (ckind_any _ _).mono ?_; rintro r w1 ⟨rfl, rfl⟩; go_wp2_with fail
  go_loopg [1] (s.size - (j + 1)) (fun g i wx => ∃ k : Nat, j < k ∧ k + g = s.size ∧ i = .int .i64 k ∧ a + skipL false (s.toList.drop a) = k + skipL true (s.toList.drop k) ∧ w = wx)
  case atStart => exact ⟨j + 1, by omega, by omega, by go_num, by rw [H1.out, HY.out]; omega, rfl⟩
  case round =>
   obtain ⟨k, hk1, hk2, rfl, h2, rfl⟩ := hrel; have H2 := hid' h2; clear h2
   by_cases hkt : k < s.size
   rotate_left
   · obtain rfl : k = s.size := by omega
     have HZ := hid' (skipL_end s s.size (Nat.le_refl _) true); have HZ2 := hid' (skipL_end s s.size (Nat.le_refl _) false); go_wp2_with fail
     go_roundg 0
     case rel => exact ⟨s.size, by omega, by omega, rfl, by rw [H2.out, HZ.out, HZ2.out], rfl⟩
     case measure => omega
   have hkt' : (k : Int) < s.size := by omega
   have hF := skipL_t s k hkt
   by_cases e10 : s[k] = 10
   · have u10 := u8T 10 e10 (10 : Int); have HZ := hid' (hF.trans (if_pos (.inl e10))); have HZ2 := hid' ((skipL_f s k hkt).trans (if_pos (by rw [e10]; exact kind_10))); clear hF e10; go_wp2_with fail
     go_roundg (s.size - k)
     case rel => exact ⟨k, by omega, by omega, rfl, by rw [H2.out, HZ.out, HZ2.out], rfl⟩
     case measure => omega
   have u10 := u8F 10 e10 (10 : Int)
   by_cases e13 : s[k] = 13
   · have u13 := u8T 13 e13 (13 : Int); have HZ := hid' (hF.trans (if_pos (.inr e13))); have HZ2 := hid' ((skipL_f s k hkt).trans (if_pos (by rw [e13]; exact kind_13))); clear hF e13 e10; go_wp2_with fail
     go_roundg (s.size - k)
     case rel => exact ⟨k, by omega, by omega, rfl, by rw [H2.out, HZ.out, HZ2.out], rfl⟩
     case measure => omega
   have u13 := u8F 13 e13 (13 : Int); have HZ := hid' (hF.trans (if_neg (by rintro (h | h); exact e10 h; exact e13 h))); clear hF e13 e10; go_wp2_with fail
   go_roundg (s.size - (k + 1))
   case rel => exact ⟨k + 1, by omega, by omega, by go_num, by rw [H2.out, HZ.out]; omega, rfl⟩
   case measure => omega
def isDig (c : UInt8) : Bool := decide (48 ≤ (c.toNat : Int)) && decide ((c.toNat : Int) ≤ 57)
def digL (l : List UInt8) : List UInt8 := l.takeWhile isDig
def accD (most : Int) (v : Int) (l : List UInt8) : Int := l.foldl (fun v c => if most < v * 10 + ((c.toNat : Int) - 48) then most else v * 10 + ((c.toNat : Int) - 48)) v
abbrev rdBox (s : ByteArray) (k : Int) : Obj := .cells #[.string s, .int .i64 k] 196 (0, 0)
abbrev clo (b : Nat) : Value := .func (.func 111) #[.pointer (some ⟨b, 0, none⟩)] #[]
theorem digL_yes (s : ByteArray) (j : Nat) (h : j < s.size) (h1 : 48 ≤ (s[j].toNat : Int)) (h2 : (s[j].toNat : Int) ≤ 57) : digL (s.toList.drop j) = s[j] :: digL (s.toList.drop (j + 1)) := by
 rw [drop_at s j h]; unfold digL; rw [List.takeWhile_cons, if_pos]; simp [isDig, h1, h2]
theorem digL_no (s : ByteArray) (j : Nat) (h : j < s.size) (h1 : (s[j].toNat : Int) < 48 ∨ 57 < (s[j].toNat : Int)) : digL (s.toList.drop j) = [] := by
 rw [drop_at s j h]; unfold digL; rw [List.takeWhile_cons, if_neg]; simp [isDig]
 omega
theorem digL_end (s : ByteArray) (j : Nat) (h : s.size ≤ j) : digL (s.toList.drop j) = [] := by rw [drop_end s j h]; rfl
set_option maxRecDepth 100000 in
set_option maxHeartbeats 4000000 in
theorem digit_end (s : ByteArray) (k b : Nat) (w : World) (hb : w.heap[b]? = some (rdBox s k)) (h : s.size ≤ k) :
 Calls Tryz.prog 111 #[.pointer (some ⟨b, 0, none⟩)] w fun e w' => e = .returned (.tuple #[.int .i64 0, .bool false]) ∧ Chg NoB w w' := by
 have R := cells_of hb; have lb := blk_lt hb
 have h' : (s.size : Int) ≤ k := by omega
 clear hb; go_enter Tryz.func111, Tryz.ntmps111
 go_wp2_with fail
 go_quiet (fail)
 go_wp2_with fail
 go_ret2
 exact ⟨rfl, (Chg.refl NoB w).drewN _⟩
set_option maxRecDepth 100000 in
set_option maxHeartbeats 400000 in
theorem digit_low (s : ByteArray) (k b : Nat) (w : World) (hb : w.heap[b]? = some (rdBox s k)) (h : k < s.size) (hd : (s[k].toNat : Int) < 48) :
 Calls Tryz.prog 111 #[.pointer (some ⟨b, 0, none⟩)] w fun e w' => e = .returned (.tuple #[.int .i64 0, .bool false]) ∧ Chg NoB w w' := by
 have R := cells_of hb; have lb := blk_lt hb
 have h' : (k : Int) < s.size := by omega
 have h0 : (0 : Int) ≤ k := by omega
 have g1 : decide (s.size ≤ k) = false := by simp; omega
 have g2 : decide ((s[k].toNat : Int) < 48) = true := by simp; omega
 clear hb; go_enter Tryz.func111, Tryz.ntmps111
 go_wp2_with fail
 go_quiet (fail)
 go_wp2_with fail
 go_ret2
 exact ⟨rfl, (Chg.refl NoB w).drewN _⟩
set_option maxRecDepth 100000 in
set_option maxHeartbeats 400000 in
theorem digit_high (s : ByteArray) (k b : Nat) (w : World) (hb : w.heap[b]? = some (rdBox s k)) (h : k < s.size) (hd : 57 < (s[k].toNat : Int)) :
 Calls Tryz.prog 111 #[.pointer (some ⟨b, 0, none⟩)] w fun e w' => e = .returned (.tuple #[.int .i64 0, .bool false]) ∧ Chg NoB w w' := by
 have R := cells_of hb; have lb := blk_lt hb
 have h' : (k : Int) < s.size := by omega
 have h0 : (0 : Int) ≤ k := by omega
 have g1 : decide (s.size ≤ k) = false := by simp; omega
 have g2 : decide ((s[k].toNat : Int) < 48) = false := by simp; omega
 have g3 : decide (57 < (s[k].toNat : Int)) = true := by simp; omega
 clear hb; go_enter Tryz.func111, Tryz.ntmps111
 go_wp2_with fail
 go_quiet (fail)
 go_wp2_with fail
 go_ret2
 exact ⟨rfl, (Chg.refl NoB w).drewN _⟩
set_option maxRecDepth 100000 in
set_option maxHeartbeats 1000000 in
theorem digit_yes (s : ByteArray) (k b : Nat) (w : World) (hs : s.size ≤ 9223372036854775807) (hb : w.heap[b]? = some (rdBox s k)) (h : k < s.size) (h1 : 48 ≤ (s[k].toNat : Int)) (h2 : (s[k].toNat : Int) ≤ 57) :
 Calls Tryz.prog 111 #[.pointer (some ⟨b, 0, none⟩)] w fun e w' => e = .returned (.tuple #[.int .i64 ((s[k].toNat : Int) - 48), .bool true]) ∧ Chg (· = b) w w' ∧ w'.heap[b]? = some (rdBox s (k + 1)) := by
 have R := cells_of hb; have Z := free_of hb; have lb := blk_lt hb
 have h' : (k : Int) < s.size := by omega
 have h0 : (0 : Int) ≤ k := by omega
 have g1 : decide (s.size ≤ k) = false := by simp; omega
 have g2 : decide ((s[k].toNat : Int) < 48) = false := by simp; omega
 have g3 : decide (57 < (s[k].toNat : Int)) = false := by simp; omega
 go_enter Tryz.func111, Tryz.ntmps111
 go_wp2_with fail
 go_quiet (fail)
 have hb1 : (w.drewN nq).heap[b]? = some (rdBox s k) := hb; have X1 := (Chg.refl (· = b) w).drewN nq; have R := cells_of hb1; have Z := free_of hb1; have lb := blk_lt hb1; generalize w.drewN nq = w1 at *; clear hb; go_wp2_with fail
 have hb2 := blk_set hb1 1 (.int .i64 ((k : Int) + 1)); simp only [List.setIfInBounds_toArray, List.set_cons_zero, List.set_cons_succ] at hb2; have X2 := X1.setCell (p := ⟨b, 1, none⟩) (.inl rfl) (.int .i64 ((k : Int) + 1)); generalize w1.setCell ⟨b, 1, none⟩ (.int .i64 ((k : Int) + 1)) = w2 at *; clear R Z lb hb1 X1; have R := cells_of hb2; have lb := blk_lt hb2
 have e1 : IntKind.i64.wrap ((k : Int) + 1 - 1) = (k : Int) := by rw [show (k : Int) + 1 - 1 = k by omega]; exact IntWalk.i64_in _ (by omega)
 go_quiet (fail)
 go_wp2_with fail
 go_ret2
 exact ⟨rfl, X2.drewN _, hb2⟩
theorem accD_cons (most v : Int) (c : UInt8) (l : List UInt8) : accD most v (c :: l) = accD most (if most < v * 10 + ((c.toNat : Int) - 48) then most else v * 10 + ((c.toNat : Int) - 48)) l := rfl
set_option maxRecDepth 100000 in
set_option maxHeartbeats 1000000 in
theorem digits_any (s : ByteArray) (k b : Nat) (w : World) (most : Int) (hs : s.size ≤ 9223372036854775807) (hb : w.heap[b]? = some (rdBox s k)) (hk : k ≤ s.size) (m0 : 0 ≤ most) (m1 : most ≤ 1000000000000) :
 Calls Tryz.prog 112 #[clo b, .int .i64 most] w fun e w' => e = .returned (.tuple #[.int .i64 (accD most 0 (digL (s.toList.drop k))), .int .i64 ((digL (s.toList.drop k)).length : Nat)]) ∧
  Chg (· = b) w w' ∧ w'.heap[b]? = some (rdBox s ((k + (digL (s.toList.drop k)).length : Nat) : Int)) := by
 go_enter Tryz.func112, Tryz.ntmps112
 go_wp2_with fail
 go_loopw [4, 5] (fun v n wr => ∃ (m : Nat) (x : Int), k + m ≤ s.size ∧ n = .int .i64 m ∧ v = .int .i64 x ∧ 0 ≤ x ∧ x ≤ most ∧ accD most 0 (digL (s.toList.drop k)) = accD most x (digL (s.toList.drop (k + m))) ∧
  (digL (s.toList.drop k)).length = m + (digL (s.toList.drop (k + m))).length ∧ Chg (· = b) w wr ∧ wr.heap[b]? = some (rdBox s ((k + m : Nat) : Int))) (fun _ n _ => s.size - (intOf n).toNat)
 case atStart => exact ⟨0, 0, by omega, rfl, rfl, Int.le_refl _, m0, rfl, by simp, Chg.refl _ _, hb⟩
 case round =>
  obtain ⟨m, x, hm, rfl, rfl, x0, x1, h1, h2, X, hb1⟩ := hrel; have H1 := hid' h1; have H2 := hid' h2; clear h1 h2 hb
  by_cases hlt : k + m < s.size
  · by_cases c1 : 48 ≤ (s[k + m].toNat : Int)
    · by_cases c2 : (s[k + m].toNat : Int) ≤ 57
      · have HY := hid' (digL_yes s (k + m) hlt c1 c2); go_wp2_with fail
        refine (digit_yes s (k + m) b _ hs hb1 hlt c1 c2).mono ?_; rintro e w1 ⟨rfl, X1, hb2⟩; have HA := hid' (accD_cons most x s[k + m] (digL (s.toList.drop (k + m + 1)))); generalize (s[k + m].toNat : Int) = c at *; go_wp2_with fail
        go_roundw
        case rel =>
         refine ⟨m + 1, _, by omega, by go_num, rfl, ?_, ?_, by rw [H1.out, HY.out, HA.out]; rfl, by rw [H2.out, HY.out, List.length_cons]; simp only [Nat.add_assoc]; omega, X.trans X1, hb2⟩
         · split <;> omega
         · split <;> omega
        case measure => simp [intOf]; omega
      · have HY := hid' (digL_no s (k + m) hlt (.inr (by omega))); go_wp2_with fail
        refine (digit_high s (k + m) b _ hb1 hlt (by omega)).mono ?_; rintro e w1 ⟨rfl, X1⟩; go_wp2_with fail
        go_ret2
        refine ⟨by rw [H1.out, HY.out, H2.out, HY.out]; rfl, X.trans (X1.mono (fun _ _ e => e.elim)), ?_⟩; rw [H2.out, HY.out]; exact X1.blk hb1 id
    · have HY := hid' (digL_no s (k + m) hlt (.inl (by omega))); go_wp2_with fail
      refine (digit_low s (k + m) b _ hb1 hlt (by omega)).mono ?_; rintro e w1 ⟨rfl, X1⟩; go_wp2_with fail
      go_ret2
      refine ⟨by rw [H1.out, HY.out, H2.out, HY.out]; rfl, X.trans (X1.mono (fun _ _ e => e.elim)), ?_⟩; rw [H2.out, HY.out]; exact X1.blk hb1 id
  · have HY := hid' (digL_end s (k + m) (by omega)); go_wp2_with fail
    refine (digit_end s (k + m) b _ hb1 (by omega)).mono ?_; rintro e w1 ⟨rfl, X1⟩; go_wp2_with fail
    go_ret2
    refine ⟨by rw [H1.out, HY.out, H2.out, HY.out]; rfl, X.trans (X1.mono (fun _ _ e => e.elim)), ?_⟩; rw [H2.out, HY.out]; exact X1.blk hb1 id
theorem signed_any (v : Int) (b : Bool) (h0 : -1000000000000 ≤ v) (h1 : v ≤ 1000000000000) (w : World) :
 Calls Tryz.prog 113 #[.int .i64 v, .bool b] w fun e w' => e = .returned (.int .i64 (if b = true then -v else v)) ∧ w = w' := by
 cases b
 all_goals
  go_enter Tryz.func113, Tryz.ntmps113
  go_wp2
  go_ret; exact ⟨by simp, rfl⟩
def nearI (a b : Int) : Int := if b - a % b < a % b ∨ (a % b = b - a % b ∧ a / b % 2 = 1) then a / b + 1 else a / b
set_option maxRecDepth 100000 in
set_option maxHeartbeats 1000000 in
theorem nearest_any (a b : Int) (h0 : 0 ≤ a) (h1 : a ≤ 1000000000000000000) (h2 : 1 ≤ b) (h3 : b ≤ 1000000000000000000) (w : World) :
 Calls Tryz.prog 115 #[.int .i64 a, .int .i64 b] w fun e w' => e = .returned (.int .i64 (nearI a b)) ∧ Chg NoB w w' := by
 have hr : nearI a b = if b - a % b < a % b ∨ (a % b = b - a % b ∧ a / b % 2 = 1) then a / b + 1 else a / b := rfl
 have HR := hid' hr; clear hr; have q0 : 0 ≤ a / b := Int.ediv_nonneg h0 (by omega); have q1 : a / b ≤ a := Int.ediv_le_self b h0; have r0 : 0 ≤ a % b := Int.emod_nonneg _ (by omega); have r1 : a % b < b := Int.emod_lt_of_pos _ (by omega); have t1 : a.tdiv b = a / b := Int.tdiv_eq_ediv_of_nonneg h0; have t2 : a.tmod b = a % b := Int.tmod_eq_emod_of_nonneg h0; have t3 : IntKind.i64.wrap (a / b) = a / b := IntWalk.i64_in _ (by omega)
 have nb : ¬ b = 0 := by omega
 go_enter Tryz.func115, Tryz.ntmps115
 go_wp2_with fail
 go_quiet (fail)
 have X := (Chg.refl NoB w).drewN nq; generalize w.drewN nq = w1 at *; generalize a / b = q at *; generalize a % b = r at *; clear t1 t2 t3
 have hq : 0 ≤ q % 2 := by omega
 by_cases c1 : b - r < r
 · go_wp2_with fail
   go_ret; exact ⟨by rw [HR.out, if_pos (.inl c1)]; rfl, X⟩
 · have c1' : r ≤ b - r := by omega
   by_cases c2 : r = b - r
   · have c2' : (r == b - r) = true := by simpa using c2
     by_cases c3 : q % 2 = 1
     · have c3' : (q % 2 == 1) = true := by simpa using c3
       have C2 := hid' c2; have C3 := hid' c3; clear c2 c3; go_wp2_with fail
       go_ret; exact ⟨by rw [HR.out, if_pos (.inr ⟨C2.out, C3.out⟩)]; rfl, X⟩
     · have c3' : (q % 2 == 1) = false := by simpa using c3
       have C2 := hid' c2; have C3 := hid' c3; clear c2 c3; go_wp2_with fail
       go_ret; exact ⟨by rw [HR.out, if_neg (by rintro (h | ⟨-, h⟩); omega; exact C3.out h)]; rfl, X⟩
   · have c2' : (r == b - r) = false := by simpa using c2
     have C2 := hid' c2; clear c2; go_wp2_with fail
     go_ret; exact ⟨by rw [HR.out, if_neg (by rintro (h | ⟨h, -⟩); omega; exact C2.out h)]; rfl, X⟩
theorem pow_18 (j : Nat) (h : j ≤ 18) : (1 : Int) ≤ 10 ^ j ∧ (10 : Int) ^ j ≤ 1000000000000000000 := by
 refine ⟨Int.pow_pos (by decide), ?_⟩; have : (10 : Nat) ^ j ≤ 10 ^ 18 := Nat.pow_le_pow_right (by decide) h
 have e : ((10 ^ j : Nat) : Int) = (10 : Int) ^ j := by simp
 omega
set_option maxRecDepth 100000 in
set_option maxHeartbeats 1000000 in
theorem tens_any (n : Nat) (h : n ≤ 18) (w : World) : Calls Tryz.prog 114 #[.int .i64 n] w fun e w' => e = .returned (.int .i64 (10 ^ n)) ∧ w = w' := by
 have h' : (n : Int) ≤ 18 := by omega
 go_enter Tryz.func114, Tryz.ntmps114
 go_wp2_with fail
 go_loop [3, 5] (fun p i => ∃ j : Nat, j ≤ n ∧ i = .int .i64 j ∧ p = .int .i64 (10 ^ j)) (fun _ i => n - (intOf i).toNat)
 case atStart => exact ⟨0, Nat.zero_le _, rfl, rfl⟩
 case round =>
  obtain ⟨j, hj, rfl, rfl⟩ := hrel; have hp := pow_18 j (by omega)
  by_cases hlt : j < n
  · have hlt' : (j : Int) < n := by omega
    have hp2 := (pow_18 (j + 1) (by omega)).2; rw [Int.pow_succ] at hp2; have HE := hid' (Int.pow_succ (10 : Int) j); generalize (10 : Int) ^ j = p at *; obtain ⟨p0, p1⟩ := hp; go_wp2_with fail
    go_round
    case rel => exact ⟨j + 1, by omega, by go_num, by rw [HE.out]⟩
    case measure => simp [intOf]; omega
  · obtain rfl : j = n := by omega
    go_wp2_with fail
    go_ret; exact ⟨rfl, rfl⟩
theorem loadCells_T (P : Program) (w : World) (a : Addr) (bs : List UInt8) (h : ∀ i (hi : i < bs.length), w.cell? (a.add i) = some (u8V bs[i])) :
 (loadCells a bs.length).run P w = .ok (bs.map u8V).toArray w := by
 have key : ∀ (n i : Nat) (acc : Array Value), i + n = bs.length → (loadCellsFrom a i n acc).run P w = .ok (acc ++ ((bs.drop i).map u8V).toArray) w := by
  intro n
  induction n with
  | zero => intro i acc hi; simp [loadCellsFrom, show bs.drop i = [] from List.drop_eq_nil_of_le (by omega)]
  | succ n ih =>
   intro i acc hi
   have hlt : i < bs.length := by omega
   simp only [loadCellsFrom, Sem.run_bind, run_load, h i hlt, Result.andThen_ok]; rw [ih (i + 1) _ (by omega), List.drop_eq_getElem_cons hlt]; refine congrArg (fun x => Result.ok x w) ?_; apply Array.ext'
   simp only [Array.toList_append, Array.toList_push, List.append_assoc, List.singleton_append, List.map_cons]
 have := key bs.length 0 #[] (by omega)
 simpa [loadCells] using this
theorem forIn_T (P : Program) (w : World) (f : Value → ByteArray → Sem (ForInStep ByteArray)) (hf : ∀ n s, f (.int .u8 n) s = pure (.yield (s.push (UInt8.ofNat n.toNat)))) :
 ∀ (l acc : List UInt8), (forIn (m := Sem) (l.map u8V) (⟨acc.toArray⟩ : ByteArray) f).run P w = .ok ⟨(acc ++ l).toArray⟩ w
 | [], acc => by simp
 | b :: l, acc => by
  simp only [List.map_cons, List.forIn_cons, hf, Sem.run_bind, Sem.run_pure, Result.andThen_ok]
  have e : (⟨acc.toArray⟩ : ByteArray).push (UInt8.ofNat ((b.toNat : Int)).toNat) = ⟨(acc ++ [b]).toArray⟩ := by
   simp [ByteArray.push]
  rw [e, forIn_T P w f hf l (acc ++ [b])]; simp
theorem bytesToString_T (P : Program) (w : World) (a : Addr) (bs : List UInt8) (c : Nat) (h : ∀ i (hi : i < bs.length), w.cell? (a.add i) = some (u8V bs[i])) :
 (Conv.bytesToString (.slice (some a) bs.length c)).run P w = .ok (.string ⟨bs.toArray⟩) w := by
 have hl := loadCells_T P w a bs h; simp only [Conv.bytesToString, Sem.run_bind, hl, Result.andThen_ok, List.forIn_toArray]; have e0 : (ByteArray.empty : ByteArray) = ⟨([] : List UInt8).toArray⟩ := rfl; rw [e0]; have hk := fun f hf => forIn_T P w f hf bs []; simp only [List.nil_append] at hk; refine (congrArg (fun r => Result.andThen r fun a w' => (Pure.pure (Value.string a) : Sem Value).run P w') (hk _ (fun n s => rfl))).trans ?_; simp
end Go.Proofs.YtpiomapnmempoaaGreat
