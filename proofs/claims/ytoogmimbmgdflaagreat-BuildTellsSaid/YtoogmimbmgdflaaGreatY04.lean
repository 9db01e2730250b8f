/- Parts of the proof: Opn, Tq, Tsk, Tqe, Tqp, Tqh, Tqn, Tbt, Tnt, Pln, Tq8, Ttk. -/
import Derived.Deep.AppendLies
import Derived.Maps.AppendAt
import Derived.Deep.LoopGhost
import Derived.Test.YtoogmimbmgdflaaGreatY01
namespace Go.Proofs.YtoogmimbmgdflaaGreat
open Go.RowKit
variable {w : World} {B n : Nat} {T : TypeId} {v : Value} {xs : List Value}
theorem count1_any (n fam : Int) (s : ByteArray) (b : Nat) (v : Value) (w : World) (hb : w.heap[b]? = some (.cells #[v] 3)) :
 Calls Tryz.prog 58 #[.int .i64 n, .int .i64 fam, .string s, .pointer (some ⟨b, 0, none⟩)] w fun e w' => e = .returned (.bool true) ∧ Chg (· = b) w w' ∧ w'.heap[b]? = some (.cells #[.int .i64 n] 3) := by
 have R := cells_of hb; have Z := free_of hb; have l := blk_lt hb; go_enter Tryz.func58, Tryz.ntmps58
 go_wp2_with fail
 go_ret; have h2 := blk_set hb 0 (.int .i64 n); simp only [List.setIfInBounds_toArray, List.set_cons_zero] at h2; exact ⟨rfl, (Chg.refl (· = b) w).setCell (p := ⟨b, 0, none⟩) (.inl rfl) _, h2⟩
theorem count_any (w : World) : Calls Tryz.prog 25 #[] w fun e w' => e = .returned (.int .i64 162) ∧ Chg NoB w w' := by
 go_enter Tryz.func25, Tryz.ntmps25
 have hE := hid_ (each_any 58 #[.pointer (some ⟨w.heap.size, 0, none⟩)] (fun _ _ => by kernel_rfl) (· = w.heap.size) (fun k wr => wr.heap[w.heap.size]? = some (.cells #[.int .i64 k] 3)) (fun _ _ => False) (w.alloc (.cells #[.int .i64 0] 3))
  (fun i e => by subst e; simp) (fun k a b h X => X.blk h (by simp)) (fun k h w' hj X => by
   refine (count1_any _ _ _ _ _ w' hj).mono ?_; rintro e w2 ⟨rfl, X2, h2⟩
   exact ⟨X2, .inl ⟨rfl, by simpa using h2⟩⟩) (by simpa using blk_new w _))
 go_wp2_with fail
 refine hE.out.mono ?_; rintro e w1 ⟨rfl, X, (hj | ⟨-, -, hf⟩)⟩
 · rw [opT_length] at hj; have R := cells_of hj; go_wp2_with fail
   go_ret; exact ⟨rfl, ((Chg.refl NoB w).alloc _).trans' X fun i hi e => by omega⟩
 · exact hf.elim
noncomputable def opN (n : Int) : ByteArray := ⟨((opT.map Prod.snd).getD (n - 1).toNat []).toArray⟩
theorem name1_hit (n fam : Int) (s t : ByteArray) (p q : Nat) (w : World) (hp : w.heap[p]? = some (.cells #[.int .i64 n] 3)) (hq : w.heap[q]? = some (.cells #[.string t] 9)) :
 Calls Tryz.prog 61 #[.int .i64 n, .int .i64 fam, .string s, .pointer (some ⟨p, 0, none⟩), .pointer (some ⟨q, 0, none⟩)] w fun e w' => e = .returned (.bool false) ∧ Chg (· = q) w w' ∧ w'.heap[q]? = some (.cells #[.string s] 9) := by
 have R := cells_of hp; have l := blk_lt hp; have R2 := cells_of hq; have Z := free_of hq; have l2 := blk_lt hq
 have hne : q ≠ p := by rintro rfl; rw [hp] at hq; simp at hq
 go_enter Tryz.func61, Tryz.ntmps61
 go_wp2_with fail
 have h2 := blk_set hq 0 (.string s); simp only [List.setIfInBounds_toArray, List.set_cons_zero] at h2; have hp2 := blk_set_other (p := ⟨q, 0, none⟩) hp (Ne.symm hne) (.string s); have X := (Chg.refl (· = q) w).setCell (p := ⟨q, 0, none⟩) (.inl rfl) (.string s); generalize w.setCell ⟨q, 0, none⟩ (.string s) = w1 at *; clear R R2 Z l l2; have R := cells_of hp2; have l := blk_lt hp2; go_wp2_with fail
 go_ret; exact ⟨by simp, X, h2⟩
theorem name1_miss (k n fam : Int) (s : ByteArray) (p q : Nat) (w : World) (hp : w.heap[p]? = some (.cells #[.int .i64 n] 3)) (h : k < n) :
 Calls Tryz.prog 61 #[.int .i64 k, .int .i64 fam, .string s, .pointer (some ⟨p, 0, none⟩), .pointer (some ⟨q, 0, none⟩)] w fun e w' => e = .returned (.bool true) ∧ w = w' := by
 have R := cells_of hp; have l := blk_lt hp
 have hne : (k == n) = false := by simp; omega
 go_enter Tryz.func61, Tryz.ntmps61
 go_wp2_with fail
 go_ret; exact ⟨by simp, rfl⟩
theorem name_any (n : Int) (h1 : 1 ≤ n) (h2 : n ≤ 162) (w : World) : Calls Tryz.prog 28 #[.int .i64 n] w fun e w' => e = .returned (.string (opN n)) ∧ Chg NoB w w' := by
 have hl := opT_length
 have hE := hid_ (each_any 61 #[.pointer (some ⟨w.heap.size, 0, none⟩), .pointer (some ⟨w.heap.size + 1, 0, none⟩)] (fun _ _ => by kernel_rfl) (· = w.heap.size + 1)
  (fun k wr => (k : Int) < n ∧ wr.heap[w.heap.size]? = some (.cells #[.int .i64 n] 3) ∧ wr.heap[w.heap.size + 1]? = some (.cells #[.string ⟨#[]⟩] 9))
  (fun k wr => (k : Int) + 1 = n ∧ wr.heap[w.heap.size + 1]? = some (.cells #[.string (opN n)] 9)) ((w.alloc (.cells #[.int .i64 n] 3)).alloc (.cells #[.string ⟨#[]⟩] 9))
  (fun i e => by subst e; simp) (fun k a b h X => ⟨h.1, X.blk h.2.1 (by simp; omega), X.blk h.2.2 (by simp)⟩) (fun k h w' hj X => by
   obtain ⟨j1, j2, j3⟩ := hj
   by_cases e : (k : Int) + 1 = n
   · have := name1_hit n opT[k].1 ⟨opT[k].2.toArray⟩ _ _ _ w' j2 j3; rw [← e] at this; rw [e] at this ⊢; refine this.mono ?_; rintro e' w2 ⟨rfl, X2, hb⟩; refine ⟨X2, .inr ⟨rfl, rfl, ?_⟩⟩; rw [hb]
     have : (n - 1).toNat = k := by omega
     simp [opN, this, h]
   · refine (name1_miss _ n _ _ _ _ w' j2 (by omega)).mono ?_; rintro e' w2 ⟨rfl, rfl⟩
     exact ⟨Chg.refl _ _, .inl ⟨rfl, by push_cast; omega, j2, j3⟩⟩) ⟨by omega, by simpa using blk_alloc (blk_new w _) _, by simpa using blk_new1 w _ _⟩)
 go_enter Tryz.func28, Tryz.ntmps28
 go_wp2_with fail
 refine hE.out.mono ?_; rintro e w1 ⟨rfl, X, (⟨hj, -⟩ | ⟨k, -, -, hj⟩)⟩
 · omega
 · have R := cells_of hj; go_wp2_with fail
   go_ret; exact ⟨rfl, (((Chg.refl NoB w).alloc _).alloc _).trans' X fun i hi e => by omega⟩
theorem ownB {w' : World} {S : Nat → Prop} {size : Nat} (h : w.ownsRow B T size v n xs) (hc : Chg S w w') (hS : ∀ b ∈ v.ownBlock.toList, ¬ S b) : w'.ownsRow B T size v n xs := by
 obtain ⟨h1, h2⟩ := h; refine ⟨h1, ?_⟩
 rcases h2 with h2 | ⟨g, cap, cur, rfl, h3, h4, h5⟩
 · exact .inl h2
 · exact .inr ⟨g, cap, cur, rfl, h3, hc.blk h4 (hS g (by simp [Value.ownBlock])), h5⟩
theorem own_ge {size : Nat} (h : w.ownsRow B T size v n xs) : ∀ b ∈ v.ownBlock.toList, B ≤ b ∧ b < w.heap.size := by
 intro b hb
 rcases h.2 with ⟨rfl, -⟩ | ⟨g, cap, cur, rfl, h3, h4, -⟩
 · simp [Value.ownBlock] at hb
 · simp [Value.ownBlock] at hb
   subst hb; exact ⟨h3, blk_lt h4⟩
theorem own_val {size : Nat} (h : w.ownsRow B T size v n xs) : ∃ a cap, v = .slice a n cap ∧ n ≤ cap := by
 rcases h.2 with ⟨rfl, rfl⟩ | ⟨g, cap, cur, rfl, _, _, h1, _⟩
 · exact ⟨none, 0, rfl, Nat.le_refl _⟩
 · exact ⟨_, _, rfl, h1⟩
theorem u8F {c : UInt8} (n : UInt8) (h : ¬ c = n) (m : Int) (hm : m = n.toNat := by rfl) : ((c.toNat : Int) == m) = false := by
 simp only [beq_eq_false_iff_ne, ne_eq]; intro e; exact h (UInt8.toNat_inj.1 (by omega))
theorem u8T {c : UInt8} (n : UInt8) (h : c = n) (m : Int) (hm : m = n.toNat := by rfl) : ((c.toNat : Int) == m) = true := by subst h hm; simp
abbrev u8V (b : UInt8) : Value := .int .u8 b.toNat
abbrev u8L (l : List UInt8) : List Value := l.map u8V
theorem tq_under : Tryz.prog.underlying 99 = some (.slice 5) := by kernel_rfl
theorem tq_info : (Tryz.prog.info? 5).map (fun i => (i.zero, i.size, i.bytes)) = some (some (.int .u8 0), 1, 1) := by kernel_rfl
def At8 (w : World) (g : Nat) (l : List UInt8) : Prop := ∀ j, j < l.length → w.cell? ⟨g, j, none⟩ = some (u8V (l.getD j 0))
theorem add_z (g i : Nat) : (⟨g, 0, none⟩ : Addr).add i = ⟨g, i, none⟩ := by unfold Addr.add; split <;> simp_all
set_option maxRecDepth 100000 in
theorem qput_any {b : List UInt8} (h : w.ownsRow B 5 1 v b.length (u8L b)) (hB : B ≤ w.heap.size) (g : Nat) (m : List UInt8) (c : Nat) (hm : At8 w g m) (hl : b.length + m.length ≤ 1000000) :
 Calls Tryz.prog 129 #[v, .slice (some ⟨g, 0, none⟩) m.length c] w fun e w' => ∃ v', e = .returned v' ∧ w'.ownsRow B 5 1 v' (b ++ m).length (u8L (b ++ m)) ∧ w.grownBy w' v.ownBlock ∧ (v'.ownBlock = v.ownBlock ∨ v'.ownBlock = some w.heap.size) := by
 obtain ⟨i0, hi, hz0, hz1, hz2⟩ := info_parts tq_info; have H := hid' h; have HA := hid' hm; clear h hm; go_enter Tryz.func129, Tryz.ntmps129
 go_wp2_with (at_builtin; refine wpList_append_own_at _ rfl _ _ 99 rfl B 5 i0 (.int .u8 0) 1 1 tq_under hi hz0 hz1 hz2 rfl (by decide) v b.length (u8L b) rfl H.out ⟨g, 0, none⟩ m.length c (u8L m) rfl (by simp [u8L]) (fun j u hu => by
  rw [add_z]
  have hj : j < m.length := by have := (List.getElem?_eq_some_iff.1 hu).1; simpa [u8L] using this
  rw [HA.out j hj]; rw [← hu]
  simp [u8L, hj]) (fun u hu => by simp only [u8L, List.mem_map] at hu; obtain ⟨x, -, rfl⟩ := hu; rfl) (by unfold maxLen; omega) (by omega) hB ?_)
 intro v' w1 hown hgr _ hat; have HAT := hid' hat; clear hat; have HO := hid' (show w1.ownsRow B 5 1 v' (b ++ m).length (u8L (b ++ m)) by rw [List.length_append]; simpa [u8L] using hown); have HG := hid' hgr; clear hown hgr; go_wp2_with fail
 go_ret; exact ⟨v', rfl, HO.out, HG.out, HAT.out⟩
def qnameI (c : Int) : Int × Bool := if c = 8 then (98, true) else if c = 9 then (116, true) else if c = 10 then (110, true) else if c = 12 then (102, true) else if c = 13 then (114, true) else (0, false)
set_option maxRecDepth 100000 in
theorem qname_any (c : Int) (w : World) : Calls Tryz.prog 130 #[.int .u8 c] w fun e w' => e = .returned (.tuple #[.int .u8 (qnameI c).1, .bool (qnameI c).2]) ∧ w = w' := by
 have hr : qnameI c = if c = 8 then (98, true) else if c = 9 then (116, true) else if c = 10 then (110, true) else if c = 12 then (102, true) else if c = 13 then (114, true) else (0, false) := rfl
 have HR := hid' hr; clear hr; go_enter Tryz.func130, Tryz.ntmps130
 go_wp2
 all_goals
  go_ret2
  rw [HR.out]; refine ⟨?_, rfl⟩
  simp_all
structure Tok where
 kind : Int
 n : Int
 s : ByteArray
 pos : Int
 deriving DecidableEq
abbrev Tok.val (t : Tok) : Value := .agg #[.int .i64 t.kind, .int .i64 t.n, .string t.s, .int .i64 t.pos]
def Tok.nil : Tok := ⟨0, 0, ⟨#[]⟩, 0⟩
def signL (k : Int) : List UInt8 :=
 if k = 7 then [123] else if k = 8 then [125] else if k = 9 then [91] else if k = 10 then [93] else if k = 11 then [60, 60] else if k = 12 then [62, 62] else []
abbrev signB (k : Int) : ByteArray := ⟨(signL k).toArray⟩
set_option maxRecDepth 100000 in
theorem sign_any (k : Int) (h0 : -1000000000 ≤ k) (h1 : k ≤ 1000000000) (w : World) : Calls Tryz.prog 74 #[.int .i64 k] w fun e w' => e = .returned (.string (signB k)) ∧ w = w' := by
 have hr : signL k = if k = 7 then [123] else if k = 8 then [125] else if k = 9 then [91] else if k = 10 then [93] else if k = 11 then [60, 60] else if k = 12 then [62, 62] else [] := rfl
 by_cases c7 : k = 7
 · subst c7; go_enter Tryz.func74, Tryz.ntmps74
   go_wp2
   go_ret; exact ⟨rfl, rfl⟩
 by_cases c8 : k = 8
 · subst c8; go_enter Tryz.func74, Tryz.ntmps74
   go_wp2
   go_ret; exact ⟨rfl, rfl⟩
 by_cases c9 : k = 9
 · subst c9; go_enter Tryz.func74, Tryz.ntmps74
   go_wp2
   go_ret; exact ⟨rfl, rfl⟩
 by_cases c10 : k = 10
 · subst c10; go_enter Tryz.func74, Tryz.ntmps74
   go_wp2
   go_ret; exact ⟨rfl, rfl⟩
 by_cases c11 : k = 11
 · subst c11; go_enter Tryz.func74, Tryz.ntmps74
   go_wp2
   go_ret; exact ⟨rfl, rfl⟩
 by_cases c12 : k = 12
 · subst c12; go_enter Tryz.func74, Tryz.ntmps74
   go_wp2
   go_ret; exact ⟨rfl, rfl⟩
 rw [if_neg c7, if_neg c8, if_neg c9, if_neg c10, if_neg c11, if_neg c12] at hr; have HR := hid' hr
 have u7 : (k - 7 == 0) = false := by simp; omega
 have u8 : (k - 7 == 1) = false := by simp; omega
 have u9 : (k - 7 == 2) = false := by simp; omega
 have u10 : (k - 7 == 3) = false := by simp; omega
 have u11 : (k - 7 == 4) = false := by simp; omega
 have u12 : (k - 7 == 5) = false := by simp; omega
 clear hr c7 c8 c9 c10 c11 c12; go_enter Tryz.func74, Tryz.ntmps74
 go_wp2
 go_ret; exact ⟨by rw [signB, HR.out]; rfl, rfl⟩
def skipL : Bool → List UInt8 → Nat
 | _, [] => 0
 | true, c :: t => if c = 10 ∨ c = 13 then 1 + skipL false t else 1 + skipL true t
 | false, c :: t => if kindI c.toNat = 1 then 1 + skipL false t else if c = 37 then 1 + skipL true t else 0
theorem skipL_end (s : ByteArray) (j : Nat) (h : s.size ≤ j) (b : Bool) : skipL b (s.toList.drop j) = 0 := by rw [drop_end s j h]; cases b <;> rfl
theorem skipL_f (s : ByteArray) (j : Nat) (h : j < s.size) : skipL false (s.toList.drop j) = if kindI s[j].toNat = 1 then 1 + skipL false (s.toList.drop (j + 1)) else if s[j] = 37 then 1 + skipL true (s.toList.drop (j + 1)) else 0 := by
 rw [drop_at s j h, skipL]
theorem skipL_t (s : ByteArray) (j : Nat) (h : j < s.size) : skipL true (s.toList.drop j) = if s[j] = 10 ∨ s[j] = 13 then 1 + skipL false (s.toList.drop (j + 1)) else 1 + skipL true (s.toList.drop (j + 1)) := by
 rw [drop_at s j h, skipL]
theorem kind_10 : kindI ((10 : UInt8).toNat : Int) = 1 := by decide
theorem kind_13 : kindI ((13 : UInt8).toNat : Int) = 1 := by decide
set_option maxRecDepth 100000 in
set_option maxHeartbeats 2000000 in
theorem skip_any (s : ByteArray) (a : Nat) (hs : s.size ≤ 1000000) (ha : a ≤ s.size) (w : World) :
 Calls Tryz.prog 137 #[.string s, .int .i64 a] w fun e w' => e = .returned (.int .i64 ((a + skipL false (s.toList.drop a) : Nat) : Int)) ∧ w = w' := by
 go_enter Tryz.func137, Tryz.ntmps137
 go_wp2
 go_step3
 go_wp2
 go_step3
 go_wp2
 go_loopg [1] (s.size - a) (fun g i wx => ∃ j : Nat, a ≤ j ∧ j + g = s.size ∧ i = .int .i64 j ∧ a + skipL false (s.toList.drop a) = j + skipL false (s.toList.drop j) ∧ w = wx)
 case atStart => exact ⟨a, Nat.le_refl _, by omega, rfl, rfl, rfl⟩
 case round =>
  obtain ⟨j, hj1, hj2, rfl, h1, rfl⟩ := hrel; have H1 := hid' h1; clear h1
  by_cases hlt : j < s.size
  rotate_left
  · obtain rfl : j = s.size := by omega
    have HY := hid' (skipL_end s s.size (Nat.le_refl _) false); go_wp2_with fail
    rw [Exit.noGoto_ret]; go_ret; exact ⟨by rw [H1.out, HY.out]; rfl, rfl⟩
  have hlt' : (j : Int) < s.size := by omega
  have hE := skipL_f s j hlt
  by_cases ek : kindI s[j].toNat = 1
  · have uk : (kindI s[j].toNat == 1) = true := by simpa using ek
    have HY := hid' (hE.trans (if_pos ek)); clear hE ek; go_wp2_with fail
    refine (ckind_any _ _).mono ?_; rintro r w1 ⟨rfl, rfl⟩; go_wp2_with fail
    go_roundg (s.size - (j + 1))
    case rel => exact ⟨j + 1, by omega, by omega, by go_num, by rw [H1.out, HY.out]; omega, rfl⟩
    case measure => omega
  have uk : (kindI s[j].toNat == 1) = false := by simpa using ek
  have hE1 := hE.trans (if_neg ek); clear hE ek
  by_cases e37 : s[j] = 37
  rotate_left
  · have u37 := u8F 37 e37 (37 : Int); have HY := hid' (hE1.trans (if_neg e37)); clear hE1 e37; go_wp2_with fail
    refine (ckind_any _ _).mono ?_; rintro r w1 ⟨rfl, rfl⟩; go_wp2_with fail
    rw [Exit.noGoto_ret]; go_ret; exact ⟨by rw [H1.out, HY.out]; rfl, rfl⟩
  have u37 := u8T 37 e37 (37 : Int); have HY := hid' (hE1.trans (if_pos e37)); clear hE1 e37; go_wp2_with fail
  refine (ckind_any _ _).mono ?_; rintro r w1 ⟨rfl, rfl⟩; go_wp2_with fail
  go_loopg [1] (s.size - (j + 1)) (fun g i wx => ∃ k : Nat, j < k ∧ k + g = s.size ∧ i = .int .i64 k ∧ a + skipL false (s.toList.drop a) = k + skipL true (s.toList.drop k) ∧ w = wx)
  case atStart => exact ⟨j + 1, by omega, by omega, by go_num, by rw [H1.out, HY.out]; omega, rfl⟩
  case round =>
   obtain ⟨k, hk1, hk2, rfl, h2, rfl⟩ := hrel; have H2 := hid' h2; clear h2
   by_cases hkt : k < s.size
   rotate_left
   · obtain rfl : k = s.size := by omega
     have HZ := hid' (skipL_end s s.size (Nat.le_refl _) true); have HZ2 := hid' (skipL_end s s.size (Nat.le_refl _) false); go_wp2_with fail
     go_roundg 0
     case rel => exact ⟨s.size, by omega, by omega, rfl, by rw [H2.out, HZ.out, HZ2.out], rfl⟩
     case measure => omega
   have hkt' : (k : Int) < s.size := by omega
   have hF := skipL_t s k hkt
   by_cases e10 : s[k] = 10
   · have u10 := u8T 10 e10 (10 : Int); have HZ := hid' (hF.trans (if_pos (.inl e10))); have HZ2 := hid' ((skipL_f s k hkt).trans (if_pos (by rw [e10]; exact kind_10))); clear hF e10; go_wp2_with fail
     go_roundg (s.size - k)
     case rel => exact ⟨k, by omega, by omega, rfl, by rw [H2.out, HZ.out, HZ2.out], rfl⟩
     case measure => omega
   have u10 := u8F 10 e10 (10 : Int)
   by_cases e13 : s[k] = 13
   · have u13 := u8T 13 e13 (13 : Int); have HZ := hid' (hF.trans (if_pos (.inr e13))); have HZ2 := hid' ((skipL_f s k hkt).trans (if_pos (by rw [e13]; exact kind_13))); clear hF e13 e10; go_wp2_with fail
     go_roundg (s.size - k)
     case rel => exact ⟨k, by omega, by omega, rfl, by rw [H2.out, HZ.out, HZ2.out], rfl⟩
     case measure => omega
   have u13 := u8F 13 e13 (13 : Int); have HZ := hid' (hF.trans (if_neg (by rintro (h | h); exact e10 h; exact e13 h))); clear hF e13 e10; go_wp2_with fail
   go_roundg (s.size - (k + 1))
   case rel => exact ⟨k + 1, by omega, by omega, by go_num, by rw [H2.out, HZ.out]; omega, rfl⟩
   case measure => omega
def isOct (c : UInt8) : Bool := decide (48 ≤ (c.toNat : Int)) && decide ((c.toNat : Int) ≤ 55)
def octL (l : List UInt8) : List UInt8 := (l.take 3).takeWhile isOct
def octV (v : Int) (l : List UInt8) : Int := l.foldl (fun v c => v * 8 + ((c.toNat : Int) - 48)) v
def escF : List UInt8 → Int × Nat × Bool
 | [] => (0, 0, false)
 | c :: t =>
  if c = 98 then (8, 1, true) else if c = 116 then (9, 1, true) else if c = 110 then (10, 1, true) else if c = 102 then (12, 1, true) else if c = 114 then (13, 1, true)
  else if c = 13 ∧ t.head? = some 10 then (0, 2, false)
  else if c = 10 ∨ c = 13 then (0, 1, false)
  else if (c.toNat : Int) < 48 ∨ 55 < (c.toNat : Int) then (c.toNat, 1, true)
  else (octV 0 (octL (c :: t)) % 256, (octL (c :: t)).length, true)
abbrev u8of (x : Int) : UInt8 := UInt8.ofNat x.toNat
def parenW (l : List UInt8) (i : Nat) (deep : Nat) (b : List UInt8) : Int × List UInt8 × Nat :=
 match l with
 | [] => (4, [], 0)
 | c :: t =>
  if c = 40 then if 4000 ≤ b.length then (5, [], 0) else parenW t (i + 1) (deep + 1) (b ++ [c])
  else if c = 41 then if deep = 1 then (0, b, i + 1) else if 4000 ≤ b.length then (5, [], 0) else parenW t (i + 1) (deep - 1) (b ++ [c])
  else if c = 13 then if 4000 ≤ b.length then (5, [], 0) else if t.head? = some 10 then parenW (t.drop 1) (i + 2) deep (b ++ [10]) else parenW t (i + 1) deep (b ++ [10])
  else if c = 92 then
   if t = [] then (4, [], 0)
   else if (escF t).2.2 = true then if 4000 ≤ b.length then (5, [], 0) else parenW (t.drop (escF t).2.1) (i + 1 + (escF t).2.1) deep (b ++ [u8of (escF t).1])
   else parenW (t.drop (escF t).2.1) (i + 1 + (escF t).2.1) deep b
  else if 4000 ≤ b.length then (5, [], 0) else parenW t (i + 1) deep (b ++ [c])
termination_by l.length
decreasing_by all_goals (simp only [List.length_cons, List.length_drop]; omega)
def hexW (l : List UInt8) (i : Nat) (half : Int) (b : List UInt8) : Int × List UInt8 × Nat :=
 match l with
 | [] => (4, [], 0)
 | c :: t =>
  if kindI c.toNat = 1 then hexW t (i + 1) half b
  else if c = 62 then if 0 ≤ half then if 4000 ≤ b.length then (5, [], 0) else (0, b ++ [u8of (half * 16)], i + 1) else (0, b, i + 1)
  else if valueI c.toNat < 0 ∨ 15 < valueI c.toNat then (3, [], 0)
  else if half < 0 then hexW t (i + 1) (valueI c.toNat) b
  else if 4000 ≤ b.length then (5, [], 0) else hexW t (i + 1) (-1) (b ++ [u8of (half * 16 + valueI c.toNat)])
def numV (l : List UInt8) : Int := l.foldl (fun v c => v * 85 + ((c.toNat : Int) - 33)) 0
def padG (l : List UInt8) : List UInt8 := l ++ List.replicate (5 - l.length) 117
def four (v : Int) : List UInt8 := [u8of (v / 16777216 % 256), u8of (v / 65536 % 256), u8of (v / 256 % 256), u8of (v % 256)]
def lastF (l b : List UInt8) : Bool × Int × List UInt8 :=
 if l.length = 0 then (true, 0, b) else if 4294967296 ≤ numV (padG l) ∨ l.length = 1 then (false, 0, b) else if 4000 < b.length + (l.length - 1) then (false, 5, b) else (true, 0, b ++ (four (numV (padG l))).take (l.length - 1))
theorem loadCells_T (P : Program) (w : World) (a : Addr) (bs : List UInt8) (h : ∀ i (hi : i < bs.length), w.cell? (a.add i) = some (u8V bs[i])) :
 (loadCells a bs.length).run P w = .ok (bs.map u8V).toArray w := by
 have key : ∀ (n i : Nat) (acc : Array Value), i + n = bs.length → (loadCellsFrom a i n acc).run P w = .ok (acc ++ ((bs.drop i).map u8V).toArray) w := by
  intro n
  induction n with
  | zero => intro i acc hi; simp [loadCellsFrom, show bs.drop i = [] from List.drop_eq_nil_of_le (by omega)]
  | succ n ih =>
   intro i acc hi
   have hlt : i < bs.length := by omega
   simp only [loadCellsFrom, Sem.run_bind, run_load, h i hlt, Result.andThen_ok]; rw [ih (i + 1) _ (by omega), List.drop_eq_getElem_cons hlt]; refine congrArg (fun x => Result.ok x w) ?_; apply Array.ext'
   simp only [Array.toList_append, Array.toList_push, List.append_assoc, List.singleton_append, List.map_cons]
 have := key bs.length 0 #[] (by omega)
 simpa [loadCells] using this
theorem forIn_T (P : Program) (w : World) (f : Value → ByteArray → Sem (ForInStep ByteArray)) (hf : ∀ n s, f (.int .u8 n) s = pure (.yield (s.push (UInt8.ofNat n.toNat)))) :
 ∀ (l acc : List UInt8), (forIn (m := Sem) (l.map u8V) (⟨acc.toArray⟩ : ByteArray) f).run P w = .ok ⟨(acc ++ l).toArray⟩ w
 | [], acc => by simp
 | b :: l, acc => by
  simp only [List.map_cons, List.forIn_cons, hf, Sem.run_bind, Sem.run_pure, Result.andThen_ok]
  have e : (⟨acc.toArray⟩ : ByteArray).push (UInt8.ofNat ((b.toNat : Int)).toNat) = ⟨(acc ++ [b]).toArray⟩ := by
   simp [ByteArray.push]
  rw [e, forIn_T P w f hf l (acc ++ [b])]; simp
theorem bytesToString_T (P : Program) (w : World) (a : Addr) (bs : List UInt8) (c : Nat) (h : ∀ i (hi : i < bs.length), w.cell? (a.add i) = some (u8V bs[i])) :
 (Conv.bytesToString (.slice (some a) bs.length c)).run P w = .ok (.string ⟨bs.toArray⟩) w := by
 have hl := loadCells_T P w a bs h; simp only [Conv.bytesToString, Sem.run_bind, hl, Result.andThen_ok, List.forIn_toArray]; have e0 : (ByteArray.empty : ByteArray) = ⟨([] : List UInt8).toArray⟩ := rfl; rw [e0]; have hk := fun f hf => forIn_T P w f hf bs []; simp only [List.nil_append] at hk; refine (congrArg (fun r => Result.andThen r fun a w' => (Pure.pure (Value.string a) : Sem Value).run P w') (hk _ (fun n s => rfl))).trans ?_; simp
def dgB (n : Nat) : UInt8 := UInt8.ofNat (48 + n)
def decL (n : Nat) : List UInt8 := if n < 10 then [dgB n] else decL (n / 10) ++ [dgB (n % 10)]
termination_by n
decreasing_by omega
theorem decL_lo (n : Nat) (h : n < 10) : decL n = [dgB n] := by rw [decL, if_pos h]
theorem decL_hi (n : Nat) (h : ¬ n < 10) : decL n = decL (n / 10) ++ [dgB (n % 10)] := by rw [decL, if_neg h]
theorem decL_len (n k : Nat) (h : n < 10 ^ (k + 1)) : (decL n).length ≤ k + 1 := by
 induction k generalizing n with
 | zero => rw [decL_lo n (by simpa using h)]; simp
 | succ k ih =>
  by_cases c : n < 10
  · rw [decL_lo n c]; simp
  · rw [decL_hi n c, List.length_append, List.length_singleton]; have := ih (n / 10) (by rw [Nat.pow_succ] at h; omega); omega
def intL (v : Int) : List UInt8 := if v < 0 then 45 :: decL v.natAbs else decL v.natAbs
theorem nt_under : Tryz.prog.underlying 99 = some (.slice 5) := by kernel_rfl
theorem nt_underStr : Tryz.prog.underlying 9 = some .string := by kernel_rfl
theorem nt_underByte : Tryz.prog.underlying 5 = some (.int .u8) := by kernel_rfl
theorem str_oneN (a : Nat) (x : Int) (hx : x = 48 + (a : Int)) (h1 : a < 10) (W : World) (g : Nat) (h : W.cell? ⟨g, 0, none⟩ = some (.int .u8 x)) :
 (convert 99 9 (.slice (some ⟨g, 0, none⟩) 1 1)).run Tryz.prog W = .ok (.string ⟨#[dgB a]⟩) W := by
 simp only [convert, Sem.run_bind, run_underlying nt_underStr, run_underlying nt_under, run_underlying nt_underByte, Result.andThen_ok]
 have e : u8V (dgB a) = .int .u8 x := by
  rw [hx]; simp only [u8V, dgB, UInt8.toNat_ofNat']; rw [show (48 + a) % 2 ^ 8 = 48 + a by omega]; rfl
 exact bytesToString_T Tryz.prog W ⟨g, 0, none⟩ [dgB a] 1 (fun i hi => by
  obtain rfl : i = 0 := by simpa using hi
  rw [add_z, h]; simp only [List.getElem_cons_zero, e])
theorem app_lst (s t : ByteArray) : (s ++ t).toList = s.toList ++ t.toList := by
 rw [ByteArray.toList_eq, ByteArray.toList_eq, ByteArray.toList_eq, ByteArray.data_append]; simp
theorem one_lst (x : UInt8) : (⟨#[x]⟩ : ByteArray).toList = [x] := by rw [ByteArray.toList_eq]
theorem arr_lst (l : List UInt8) : (⟨l.toArray⟩ : ByteArray).toList = l := by rw [ByteArray.toList_eq]
theorem lst_inj {s t : ByteArray} (h : s.toList = t.toList) : s = t := by
 rw [ByteArray.toList_eq, ByteArray.toList_eq] at h; exact ByteArray.ext (Array.toList_inj.1 h)
set_option maxRecDepth 100000 in
set_option maxHeartbeats 400000 in
theorem decimal_any (n : Nat) (hn : n ≤ 100000000000000) (w : World) :
 Calls Tryz.prog 150 #[.int .u64 n] w fun r w' => r = .returned (.string ⟨(decL n).toArray⟩) ∧ Chg NoB w w' := by
 go_enter Tryz.func150, Tryz.ntmps150
 go_wp2_with fail
 go_loopw [0, 3] (fun nv sv wr => ∃ (m : Nat) (S : ByteArray), m ≤ n ∧ nv = .int .u64 m ∧ sv = .string S ∧ decL n = decL m ++ S.toList ∧ Chg NoB w wr) (fun nv _ _ => (intOf nv).toNat)
 case atStart => exact ⟨n, ⟨#[]⟩, Nat.le_refl _, rfl, rfl, by rw [ByteArray.toList_eq]; simp, Chg.refl _ _⟩
 case round =>
  obtain ⟨m, S, hm, rfl, rfl, hD, X⟩ := hrel
  have hS : S.size ≤ 15 := by
   have h1 := decL_len n 14 (by omega); rw [hD, List.length_append, size_lst] at h1; omega
  have hone := str_oneN (m % 10) (48 + (m : Int) % 10) (by omega) (by omega)
  have hm0 : (0 : Int) ≤ m := by omega
  have hml : (m : Int) ≤ 100000000000000 := by omega
  have q0 : 0 ≤ (m : Int) % 10 := by omega
  have q1 : (m : Int) % 10 < 10 := by omega
  have HD := hid' hD; have HX := hid' X; clear hD
  by_cases c : m < 10
  · have c' : ((m : Int) / 10 == 0) = true := by simp only [beq_iff_eq]; omega
    have HE := hid' (decL_lo m c); have HM := hid' (show m % 10 = m by omega); go_wp2_with fail
    go_ret; refine ⟨congrArg (fun s => Ending.returned (.string s)) (lst_inj ?_), X.alloc _⟩; refine Eq.trans ?_ (arr_lst _).symm; rw [app_lst, one_lst, HD.out, HE.out, HM.out]
  · have c' : ((m : Int) / 10 == 0) = false := by simp only [beq_eq_false_iff_ne, ne_eq]; omega
    have HE := hid' (decL_hi m c); go_wp2_with fail
    go_roundw
    case rel => exact ⟨m / 10, _, by omega, by first | rfl | go_num, rfl, by rw [HD.out, HE.out, app_lst, one_lst, List.append_assoc], X.alloc _⟩
    case measure => simp [intOf]; omega
set_option maxRecDepth 100000 in
set_option maxHeartbeats 400000 in
theorem nint_any (v : Int) (h0 : -10000000000000 ≤ v) (h1 : v ≤ 10000000000000) (w : World) :
 Calls Tryz.prog 131 #[.int .i64 v] w fun r w' => r = .returned (.string ⟨(intL v).toArray⟩) ∧ Chg NoB w w' := by
 by_cases c : v < 0
 · have hd := fun w => decimal_any v.natAbs (by omega) w; have hl := decL_len v.natAbs 14 (by omega)
   have e : -(v + 1) + 1 = (v.natAbs : Int) := by omega
   have HI := hid' (show intL v = 45 :: decL v.natAbs from if_pos c); have hz : (⟨(decL v.natAbs).toArray⟩ : ByteArray).size ≤ 15 := hl; rw [← e] at hd; have HL := hid' (arr_lst (decL v.natAbs)); generalize (⟨(decL v.natAbs).toArray⟩ : ByteArray) = S at *; have HD := hid' hd; clear hd e; go_enter Tryz.func131, Tryz.ntmps131
   go_wp2_with fail
   refine (HD.out _).mono ?_; rintro r w1 ⟨rfl, X⟩; go_wp2_with fail
   go_ret; refine ⟨congrArg (fun s => Ending.returned (.string s)) (lst_inj ?_), X⟩; refine Eq.trans ?_ (arr_lst _).symm; rw [app_lst, one_lst, HI.out, HL.out]; rfl
 · have hd := fun w => decimal_any v.natAbs (by omega) w
   have e : v = (v.natAbs : Int) := by omega
   have HI := hid' (show intL v = decL v.natAbs from if_neg c); rw [← e] at hd; have HD := hid' hd
   have c' : 0 ≤ v := by omega
   clear hd e; go_enter Tryz.func131, Tryz.ntmps131
   go_wp2_with fail
   refine (HD.out _).mono ?_; rintro r w1 ⟨rfl, X⟩; go_wp2_with fail
   go_ret; exact ⟨by rw [HI.out]; rfl, X⟩
def plainB (o : O) : ByteArray :=
 if o.kind = 1 then ⟨#[110, 117, 108, 108]⟩ else if o.kind = 3 then ⟨(intL o.n).toArray⟩ else if o.kind = 5 then o.s else if o.kind = 6 then ⟨#[45, 109, 97, 114, 107, 45]⟩ else ⟨#[45, 97, 114, 114, 97, 121, 45]⟩
def plainK (o : O) : Prop := o.kind = 1 ∨ o.kind = 3 ∨ o.kind = 5 ∨ o.kind = 6 ∨ o.kind = 9
theorem mayP_int {ex : Bool} {n a l : Int} {s : ByteArray} (h : mayO ⟨3, ex, n, a, l, s⟩ = true) : -2147483647 ≤ n ∧ n ≤ 2147483647 := by
 unfold mayO at h; rw [Bool.and_eq_true] at h; have := h.2; rw [if_neg (by simp), if_neg (by simp), if_pos rfl] at this
 simpa using this
set_option maxRecDepth 100000 in
set_option maxHeartbeats 1000000 in
theorem plain_any (o : O) (hp : Nat) (hm : mayO o = true) (hk : plainK o) (w : World) :
 Calls Tryz.prog 96 #[ptr hp, o.val] w fun r w' => r = .returned (.string (plainB o)) ∧ Chg NoB w w' := by
 have HM := may_any o; rw [hm] at HM; have HM2 := hid' HM; obtain ⟨k, ex, n, a, l, s⟩ := o
 rcases hk with hk | hk | hk | hk | hk
 all_goals
  simp only at hk; subst hk
 · clear HM; go_enter Tryz.func96, Tryz.ntmps96
   go_wp2_with fail
   go_ret; exact ⟨rfl, (Chg.refl NoB w).alloc _⟩
 · have HN := hid' (nint_any n (by have := mayP_int hm; omega) (by have := mayP_int hm; omega)); clear HM; go_enter Tryz.func96, Tryz.ntmps96
   go_wp2_with fail
   have hb := blk_new w (.cells #[.int .i64 3, .bool ex, .int .i64 n, .int .i64 a, .int .i64 l, .string s] 39); have X := (Chg.refl NoB w).alloc (.cells #[.int .i64 3, .bool ex, .int .i64 n, .int .i64 a, .int .i64 l, .string s] 39); generalize w.alloc (.cells #[.int .i64 3, .bool ex, .int .i64 n, .int .i64 a, .int .i64 l, .string s] 39) = w1 at *; refine (HM2.out _).mono ?_; rintro r w2 ⟨rfl, X2⟩; have R2 := cells_of (X2.blk hb id); have l2 := blk_lt (X2.blk hb id); clear hb; go_wp2_with fail
   refine (HN.out _).mono ?_; rintro r w3 ⟨rfl, X3⟩; go_wp2_with fail
   go_ret; exact ⟨rfl, (X.trans X2).trans X3⟩
 all_goals
  clear HM; go_enter Tryz.func96, Tryz.ntmps96
  go_wp2_with fail
  go_ret; exact ⟨rfl, (Chg.refl NoB w).alloc _⟩
def eightyW (l : List UInt8) (i : Nat) (g b : List UInt8) : Int × List UInt8 × Nat :=
 match l with
 | [] => (4, [], 0)
 | c :: t =>
  if kindI c.toNat = 1 then eightyW t (i + 1) g b
  else if c = 126 then if t = [] then (4, [], 0) else if ¬ t.head? = some 62 then (3, [], 0) else if (lastF g b).1 = true then (0, (lastF g b).2.2, i + 2) else if (lastF g b).2.1 = 0 then (3, [], 0) else ((lastF g b).2.1, [], 0)
  else if c = 122 ∧ g.length = 0 then if 4000 < b.length + 4 then (5, [], 0) else eightyW t (i + 1) [] (b ++ [0, 0, 0, 0])
  else if 33 ≤ (c.toNat : Int) ∧ (c.toNat : Int) ≤ 117 then
   if g.length < 4 then eightyW t (i + 1) (g ++ [c]) b else if 4294967296 ≤ numV (g ++ [c]) then (3, [], 0) else if 4000 < b.length + 4 then (5, [], 0) else eightyW t (i + 1) [] (b ++ four (numV (g ++ [c])))
  else (3, [], 0)
theorem tk_underStr : Tryz.prog.underlying 9 = some .string := by kernel_rfl
theorem tk_underByte : Tryz.prog.underlying 5 = some (.int .u8) := by kernel_rfl
theorem own_str {b : List UInt8} (h : w.ownsRow B 5 1 v b.length (u8L b)) (W : World) (hW : Chg NoB w W) : (convert 99 9 v).run Tryz.prog W = .ok (.string ⟨b.toArray⟩) W := by
 have hc : (convert 99 9 v).run Tryz.prog W = (Conv.bytesToString v).run Tryz.prog W := by
  obtain ⟨a, c, rfl, -⟩ := own_val h
  cases a <;> simp only [convert, Sem.run_bind, run_underlying tk_underStr, run_underlying tq_under, run_underlying tk_underByte, Result.andThen_ok]
 rw [hc]
 rcases h.2 with ⟨rfl, h0⟩ | ⟨g, cap, cur, rfl, h1, h2, h3, h4, h5, h6⟩
 · obtain rfl : b = [] := List.eq_nil_of_length_eq_zero h0; simp [Conv.bytesToString]; rfl
 · exact bytesToString_T Tryz.prog W ⟨g, 0, none⟩ b cap (fun i hi => by
    rw [add_z, cells_of (hW.blk h2 id) i, ← Array.getElem?_toList]
    have : cur.toList[i]? = (cur.toList.take (b.length * 1))[i]? := by rw [List.getElem?_take, if_pos (by omega)]
    rw [this, h6]
    simp [u8L, hi])
def takeW (l : List UInt8) : Int × List UInt8 × Nat :=
 if l.head? = some 40 then parenW (l.drop 1) 1 1 []
 else if l.head? = some 60 ∧ (l.drop 1).head? = some 126 then eightyW (l.drop 2) 2 [] []
 else if l.head? = some 60 then hexW (l.drop 1) 1 (-1) []
 else (3, [], 0)
def takeF (l : List UInt8) : Int × List UInt8 × Nat := if (takeW l).1 = 0 then takeW l else ((takeW l).1, [], 0)
end Go.Proofs.YtoogmimbmgdflaaGreat
