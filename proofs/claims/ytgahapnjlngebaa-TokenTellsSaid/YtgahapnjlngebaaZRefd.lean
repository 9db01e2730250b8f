/- Rb7, Rc7, Rd7, Re7 -/
import Derived.Test.YtgahapnjlngebaaZRefb
import Derived.Test.YtgahapnjlngebaaZTokb
/- Walk: layer 7's reference: put, eight, escape. -/
namespace Go.Proofs.Ytgahapnjlngebaa
open Go.RowKit

abbrev trBox (v : Value) (e : Int) : Obj := .cells #[v, .int .i64 e] 78 (0, 0)
/-- What was taken so far: its box, its bytes in a row of its own, behind the box; since w0 there are only new blocks. -/
structure Tr (w0 w : World) (bt : Nat) (v : Value) (b : List UInt8) (e : Int) : Prop where
  chg : Chg NoB w0 w
  ge : w0.heap.size ≤ bt
  box : w.heap[bt]? = some (trBox v e)
  own : w.ownsRow (bt + 1) 5 1 v b.length (u8L b)
theorem Tr.pure {w0 w w' : World} {bt : Nat} {v : Value} {b : List UInt8} {e : Int} (A : Tr w0 w bt v b e) (X : Chg NoB w w') : Tr w0 w' bt v b e :=
  ⟨A.chg.trans X, A.ge, X.blk A.box id, ownB A.own X (fun _ _ e => e)⟩
theorem Tr.fail {w0 w : World} {bt : Nat} {v : Value} {b : List UInt8} {e : Int} (A : Tr w0 w bt v b e) (e' : Int) : Tr w0 (w.setCell ⟨bt, 1, none⟩ (.int .i64 e')) bt v b e' := by
  refine ⟨A.chg.setCell (.inr A.ge) _, A.ge, ?_, ownB A.own ((Chg.refl (· = bt) w).setCell (p := ⟨bt, 1, none⟩) (.inl rfl) _) (fun g hg e => by have := (own_ge A.own g hg).1; omega)⟩
  have := blk_set A.box 1 (.int .i64 e')
  simpa using this
theorem Tr.more {w0 w w1 : World} {bt : Nat} {v v' : Value} {b b' : List UInt8} {e : Int} (A : Tr w0 w bt v b e) (hown : w1.ownsRow (bt + 1) 5 1 v' b'.length (u8L b')) (hgr : w.grownBy w1 v.ownBlock) :
    w1.heap[bt]? = some (trBox v e) ∧ Tr w0 (w1.setCell ⟨bt, 0, none⟩ v') bt v' b' e := by
  have C : Chg (fun k => v.ownBlock = some k) w w1 := Chg.grown (Chg.refl _ w) hgr (fun k hk => .inl hk)
  have hn : ∀ k, v.ownBlock = some k → bt + 1 ≤ k := fun k hk => (own_ge A.own k (by simp [hk])).1
  have hb : w1.heap[bt]? = some (trBox v e) := C.blk A.box (fun h => by have := hn bt h; omega)
  have hge := A.ge
  refine ⟨hb, (A.chg.trans' C (fun i hi h => by have := hn i h; omega)).setCell (.inr A.ge) _, A.ge, ?_, ownB hown ((Chg.refl (· = bt) w1).setCell (p := ⟨bt, 0, none⟩) (.inl rfl) _) (fun g hg e => by have := (own_ge hown g hg).1; omega)⟩
  have := blk_set hb 0 v'
  simpa using this


/-- The error behind a byte more. -/
def putE (n : Nat) (e : Int) : Int := if 4000 ≤ n ∧ e = 0 then 5 else e
theorem Tr.put {w0 w w1 : World} {bt : Nat} {v v' : Value} {b : List UInt8} {e : Int} (A : Tr w0 w bt v b e) (c : Int) (c0 : 0 ≤ c) (c1 : c < 256)
    (hown : w1.ownsRow (bt + 1) 5 1 v' (b.length + 1) (u8L b ++ [.int .u8 c])) (hgr : (w.alloc (.cells #[.int .u8 c] 5)).grownBy w1 v.ownBlock) :
    w1.heap[bt]? = some (trBox v e) ∧ Tr w0 (w1.setCell ⟨bt, 0, none⟩ v') bt v' (b ++ [u8of c]) e := by
  have h := (A.pure ((Chg.refl NoB w).alloc (.cells #[.int .u8 c] 5))).more (b' := b ++ [u8of c]) (v' := v') (w1 := w1) (by
    rw [List.length_append]
    have e : u8L (b ++ [u8of c]) = u8L b ++ [.int .u8 c] := by
      have := u8of_val c c0 c1
      simp only [u8L, List.map_append, List.map_cons, List.map_nil]
      rw [this]
    rw [e]; exact hown) hgr
  exact h
set_option maxRecDepth 100000 in
set_option maxHeartbeats 1000000 in
theorem rtput_any {w0 w : World} {bt : Nat} {v : Value} {b : List UInt8} {e : Int} (A : Tr w0 w bt v b e) (c : Int) (c0 : 0 ≤ c) (c1 : c < 256) (hb : b.length ≤ 5000) :
    Calls Try.prog 79 #[.pointer (some ⟨bt, 0, none⟩), .int .u8 c] w fun r w' => r = .returned (.tuple #[]) ∧ ∃ v', Tr w0 w' bt v' (b ++ [u8of c]) (putE b.length e) := by
  obtain ⟨i0, hi0, hz0, hz1, hz2⟩ := info_parts tq_info
  have hp : putE b.length e = if 4000 ≤ b.length ∧ e = 0 then 5 else e := rfl
  obtain ⟨ga, gc, rfl, -⟩ := own_val A.own
  have ge := A.ge
  have R := cells_of A.box
  have Z := free_of A.box
  have l := blk_lt A.box
  by_cases h4 : 4000 ≤ b.length
  · have h4' : 4000 ≤ (b.length : Int) := by omega
    by_cases he : e = 0
    · subst he
      rw [if_pos ⟨h4, rfl⟩] at hp
      rw [hp]
      have H5 := A.fail 5
      have hb5 := blk_set A.box 1 (.int .i64 5)
      simp only [List.setIfInBounds_toArray, List.set_cons_zero, List.set_cons_succ] at hb5
      clear A hp
      go_enter Try.func79, Try.ntmps79
      go_upto_region 2 with (fail)
      generalize w.setCell ⟨bt, 1, none⟩ (.int .i64 5) = w5 at *
      clear R Z l
      have R := cells_of hb5
      have Z := free_of hb5
      have l := blk_lt hb5
      have X1 := (Chg.refl NoB w5).alloc (.cells #[.int .u8 c] 5)
      have hownA := ownB H5.own X1 (fun _ _ e => e)
      have HA := hid' H5
      clear H5 X1
      go_wp2_with (at_builtin; refine wpList_append_own_at _ rfl _ _ 35 rfl (bt + 1) 5 i0 (.int .u8 0) 1 1 tq_under hi0 hz0 hz1 hz2 rfl (by decide) _ _ _ rfl hownA _ 1 1 [.int .u8 c] rfl rfl (fun j u hj => cells_new _ _ _ j u hj) (fun u hu => by simp only [List.mem_singleton] at hu; subst hu; rfl) (by unfold maxLen; omega) (by omega) (by simp; omega) ?_)
      intro v' w1 hown hgr _ _
      obtain ⟨a', k', rfl, -⟩ := own_val hown
      obtain ⟨hb1, B⟩ := HA.out.put c c0 c1 hown hgr
      have HB := hid' B
      clear B hown hgr hownA R Z l
      have R := cells_of hb1
      have Z := free_of hb1
      have l := blk_lt hb1
      clear hb1
      go_wp2_with fail
      go_end0
      exact ⟨rfl, _, HB.out⟩
    · have he' : (e == 0) = false := by simpa using he
      rw [if_neg (fun h => he h.2)] at hp
      rw [hp]
      have X1 := (Chg.refl NoB w).alloc (.cells #[.int .u8 c] 5)
      have hownA := ownB A.own X1 (fun _ _ e => e)
      have HA := hid' A
      clear A hp X1
      go_enter Try.func79, Try.ntmps79
      go_wp2_with (at_builtin; refine wpList_append_own_at _ rfl _ _ 35 rfl (bt + 1) 5 i0 (.int .u8 0) 1 1 tq_under hi0 hz0 hz1 hz2 rfl (by decide) _ _ _ rfl hownA _ 1 1 [.int .u8 c] rfl rfl (fun j u hj => cells_new _ _ _ j u hj) (fun u hu => by simp only [List.mem_singleton] at hu; subst hu; rfl) (by unfold maxLen; omega) (by omega) (by simp; omega) ?_)
      intro v' w1 hown hgr _ _
      obtain ⟨a', k', rfl, -⟩ := own_val hown
      obtain ⟨hb1, B⟩ := HA.out.put c c0 c1 hown hgr
      have HB := hid' B
      clear B hown hgr hownA R Z l
      have R := cells_of hb1
      have Z := free_of hb1
      have l := blk_lt hb1
      clear hb1
      go_wp2_with fail
      go_end0
      exact ⟨rfl, _, HB.out⟩
  · have h4' : ¬ 4000 ≤ (b.length : Int) := by omega
    rw [if_neg (fun h => h4 h.1)] at hp
    rw [hp]
    have X1 := (Chg.refl NoB w).alloc (.cells #[.int .u8 c] 5)
    have hownA := ownB A.own X1 (fun _ _ e => e)
    have HA := hid' A
    clear A hp X1
    go_enter Try.func79, Try.ntmps79
    go_wp2_with (at_builtin; refine wpList_append_own_at _ rfl _ _ 35 rfl (bt + 1) 5 i0 (.int .u8 0) 1 1 tq_under hi0 hz0 hz1 hz2 rfl (by decide) _ _ _ rfl hownA _ 1 1 [.int .u8 c] rfl rfl (fun j u hj => cells_new _ _ _ j u hj) (fun u hu => by simp only [List.mem_singleton] at hu; subst hu; rfl) (by unfold maxLen; omega) (by omega) (by simp; omega) ?_)
    intro v' w1 hown hgr _ _
    obtain ⟨a', k', rfl, -⟩ := own_val hown
    obtain ⟨hb1, B⟩ := HA.out.put c c0 c1 hown hgr
    have HB := hid' B
    clear B hown hgr hownA R Z l
    have R := cells_of hb1
    have Z := free_of hb1
    have l := blk_lt hb1
    clear hb1
    go_wp2_with fail
    go_end0
    exact ⟨rfl, _, HB.out⟩
set_option maxRecDepth 100000 in
theorem reight_any (c : Int) (w : World) : Calls Try.prog 84 #[.int .u8 c] w fun e w' => e = .returned (.bool (decide (48 ≤ c) && decide (c ≤ 55))) ∧ w = w' := by
  by_cases a1 : 48 ≤ c
  all_goals by_cases a2 : c ≤ 55
  all_goals
    go_enter Try.func84, Try.ntmps84
    go_wp2
    go_ret
    simp [a1, a2]
end Go.Proofs.Ytgahapnjlngebaa
/- Walk: layer 7's reference: escape. -/
namespace Go.Proofs.Ytgahapnjlngebaa
open Go.RowKit

theorem rs8 (w : World) : Calls Try.prog 83 #[.int .u8 8] w fun e w' => e = .returned (.int .u8 98) ∧ w = w' := rshort_any 8 w
theorem rs9 (w : World) : Calls Try.prog 83 #[.int .u8 9] w fun e w' => e = .returned (.int .u8 116) ∧ w = w' := rshort_any 9 w
theorem rs10 (w : World) : Calls Try.prog 83 #[.int .u8 10] w fun e w' => e = .returned (.int .u8 110) ∧ w = w' := rshort_any 10 w
theorem rs12 (w : World) : Calls Try.prog 83 #[.int .u8 12] w fun e w' => e = .returned (.int .u8 102) ∧ w = w' := rshort_any 12 w
theorem rs13 (w : World) : Calls Try.prog 83 #[.int .u8 13] w fun e w' => e = .returned (.int .u8 114) ∧ w = w' := rshort_any 13 w
theorem rix0 : ∀ W, (Instr.index 104 (.agg #[.int .u8 8, .int .u8 9, .int .u8 10, .int .u8 12, .int .u8 13]) (.int .i64 0)).run Try.prog W = .ok (.int .u8 8) W := fun W => by kernel_rfl
theorem rix1 : ∀ W, (Instr.index 104 (.agg #[.int .u8 8, .int .u8 9, .int .u8 10, .int .u8 12, .int .u8 13]) (.int .i64 1)).run Try.prog W = .ok (.int .u8 9) W := fun W => by kernel_rfl
theorem rix2 : ∀ W, (Instr.index 104 (.agg #[.int .u8 8, .int .u8 9, .int .u8 10, .int .u8 12, .int .u8 13]) (.int .i64 2)).run Try.prog W = .ok (.int .u8 10) W := fun W => by kernel_rfl
theorem rix3 : ∀ W, (Instr.index 104 (.agg #[.int .u8 8, .int .u8 9, .int .u8 10, .int .u8 12, .int .u8 13]) (.int .i64 3)).run Try.prog W = .ok (.int .u8 12) W := fun W => by kernel_rfl
theorem rix4 : ∀ W, (Instr.index 104 (.agg #[.int .u8 8, .int .u8 9, .int .u8 10, .int .u8 12, .int .u8 13]) (.int .i64 4)).run Try.prog W = .ok (.int .u8 13) W := fun W => by kernel_rfl
/-- What escape leaves. -/
def EscEnd (w0 : World) (bt : Nat) (b : List UInt8) (E : Int × Nat × Bool) (r : Ending) (w' : World) : Prop :=
  r = .returned (.int .i64 (E.2.1 : Nat)) ∧ ∃ v', Tr w0 w' bt v' (if E.2.2 = true then b ++ [u8of E.1] else b) (if E.2.2 = true then putE b.length 0 else 0)
theorem eightC (c : UInt8) (v : Bool) (h : (decide (48 ≤ (c.toNat : Int)) && decide ((c.toNat : Int) ≤ 55)) = v) (w : World) : Calls Try.prog 84 #[.int .u8 c.toNat] w fun e w' => e = .returned (.bool v) ∧ w = w' := by
  have := reight_any c.toNat w
  rwa [h] at this
set_option maxRecDepth 100000 in
set_option maxHeartbeats 2000000 in
theorem rescape_any {w0 w : World} {bt : Nat} {v : Value} {b : List UInt8} (A : Tr w0 w bt v b 0) (s : ByteArray) (k : Nat) (hs : s.size ≤ 1000000) (hk : k ≤ s.size) (hb : b.length ≤ 5000) :
    Calls Try.prog 78 #[.pointer (some ⟨bt, 0, none⟩), .string s, .int .i64 k] w (EscEnd w0 bt b (escF (s.toList.drop k))) := by
  obtain ⟨E, hEE⟩ : ∃ E, escF (s.toList.drop k) = E := ⟨_, rfl⟩
  rw [hEE]
  have HA := hid' A
  clear A
  have h0 : (0 : Int) ≤ k := by omega
  by_cases hlt : k < s.size
  rotate_left
  · have hlt' : ¬ (k : Int) < s.size := by omega
    have HR := hid' (show E = (0, 0, false) by rw [← hEE, drop_end s k (by omega)]; rfl)
    clear hEE
    go_enter Try.func78, Try.ntmps78
    go_wp2_with fail
    go_ret
    unfold EscEnd
    rw [HR.out]
    exact ⟨rfl, v, HA.out⟩
  have hlt' : (k : Int) < s.size := by omega
  have hE := hEE.symm.trans (escF_at s k hlt)
  have HEE := hid' hEE
  clear hEE
  have hcb : (s[k].toNat : Int) < 256 := by have := s[k].toNat_lt; omega
  by_cases e98 : s[k] = 98
  · have HR := hid' (hE.trans (if_pos e98))
    have u98 := u8Tr 98 e98 (98 : Int)
    have g13 := u8F 13 (show ¬ s[k] = 13 by rw [e98]; decide) (13 : Int)
    have g10 := u8F 10 (show ¬ s[k] = 10 by rw [e98]; decide) (10 : Int)
    have H8 := hid' (fun w => eightC s[k] false (by rw [e98]; rfl) w)
    have i0 := rix0
    clear hE e98
    go_enter Try.func78, Try.ntmps78
    go_wp2_with fail
    refine (H8.out _).mono ?_
    rintro e w' ⟨rfl, rfl⟩
    go_wp2_with fail
    refine wp_loop_rounds 6 ?_
    rw [rounds_succ]
    go_wp2_with fail
    refine (rs8 _).mono ?_
    rintro e w' ⟨rfl, rfl⟩
    go_wp2_with fail
    refine (rtput_any HA.out 8 (by decide) (by decide) hb).mono ?_
    rintro r w2 ⟨rfl, v', B⟩
    have HB := hid' B
    clear B
    go_wp2_with fail
    go_ret
    unfold EscEnd
    rw [HR.out]
    exact ⟨rfl, v', HB.out⟩
  have n98 : ¬ s[k] = 98 := e98
  by_cases e116 : s[k] = 116
  · have HR := hid' (hE.trans ((if_neg n98).trans (if_pos e116)))
    have u98 := u8Fr 98 n98 (98 : Int)
    have u116 := u8Tr 116 e116 (116 : Int)
    have g13 := u8F 13 (show ¬ s[k] = 13 by rw [e116]; decide) (13 : Int)
    have g10 := u8F 10 (show ¬ s[k] = 10 by rw [e116]; decide) (10 : Int)
    have H8 := hid' (fun w => eightC s[k] false (by rw [e116]; rfl) w)
    have i0 := rix0
    have i1 := rix1
    clear hE e116 n98
    go_enter Try.func78, Try.ntmps78
    go_wp2_with fail
    refine (H8.out _).mono ?_
    rintro e w' ⟨rfl, rfl⟩
    go_wp2_with fail
    refine wp_loop_rounds 6 ?_
    rw [rounds_succ]
    go_wp2_with fail
    refine (rs8 _).mono ?_
    rintro e w' ⟨rfl, rfl⟩
    go_wp2_with fail
    rw [rounds_succ]
    go_wp2_with fail
    refine (rs9 _).mono ?_
    rintro e w' ⟨rfl, rfl⟩
    go_wp2_with fail
    refine (rtput_any HA.out 9 (by decide) (by decide) hb).mono ?_
    rintro r w2 ⟨rfl, v', B⟩
    have HB := hid' B
    clear B
    go_wp2_with fail
    go_ret
    unfold EscEnd
    rw [HR.out]
    exact ⟨rfl, v', HB.out⟩
  have n116 : ¬ s[k] = 116 := e116
  by_cases e110 : s[k] = 110
  · have HR := hid' (hE.trans ((if_neg n98).trans ((if_neg n116).trans (if_pos e110))))
    have u98 := u8Fr 98 n98 (98 : Int)
    have u116 := u8Fr 116 n116 (116 : Int)
    have u110 := u8Tr 110 e110 (110 : Int)
    have g13 := u8F 13 (show ¬ s[k] = 13 by rw [e110]; decide) (13 : Int)
    have g10 := u8F 10 (show ¬ s[k] = 10 by rw [e110]; decide) (10 : Int)
    have H8 := hid' (fun w => eightC s[k] false (by rw [e110]; rfl) w)
    have i0 := rix0
    have i1 := rix1
    have i2 := rix2
    clear hE e110 n98 n116
    go_enter Try.func78, Try.ntmps78
    go_wp2_with fail
    refine (H8.out _).mono ?_
    rintro e w' ⟨rfl, rfl⟩
    go_wp2_with fail
    refine wp_loop_rounds 6 ?_
    rw [rounds_succ]
    go_wp2_with fail
    refine (rs8 _).mono ?_
    rintro e w' ⟨rfl, rfl⟩
    go_wp2_with fail
    rw [rounds_succ]
    go_wp2_with fail
    refine (rs9 _).mono ?_
    rintro e w' ⟨rfl, rfl⟩
    go_wp2_with fail
    rw [rounds_succ]
    go_wp2_with fail
    refine (rs10 _).mono ?_
    rintro e w' ⟨rfl, rfl⟩
    go_wp2_with fail
    refine (rtput_any HA.out 10 (by decide) (by decide) hb).mono ?_
    rintro r w2 ⟨rfl, v', B⟩
    have HB := hid' B
    clear B
    go_wp2_with fail
    go_ret
    unfold EscEnd
    rw [HR.out]
    exact ⟨rfl, v', HB.out⟩
  have n110 : ¬ s[k] = 110 := e110
  by_cases e102 : s[k] = 102
  · have HR := hid' (hE.trans ((if_neg n98).trans ((if_neg n116).trans ((if_neg n110).trans (if_pos e102)))))
    have u98 := u8Fr 98 n98 (98 : Int)
    have u116 := u8Fr 116 n116 (116 : Int)
    have u110 := u8Fr 110 n110 (110 : Int)
    have u102 := u8Tr 102 e102 (102 : Int)
    have g13 := u8F 13 (show ¬ s[k] = 13 by rw [e102]; decide) (13 : Int)
    have g10 := u8F 10 (show ¬ s[k] = 10 by rw [e102]; decide) (10 : Int)
    have H8 := hid' (fun w => eightC s[k] false (by rw [e102]; rfl) w)
    have i0 := rix0
    have i1 := rix1
    have i2 := rix2
    have i3 := rix3
    clear hE e102 n98 n116 n110
    go_enter Try.func78, Try.ntmps78
    go_wp2_with fail
    refine (H8.out _).mono ?_
    rintro e w' ⟨rfl, rfl⟩
    go_wp2_with fail
    refine wp_loop_rounds 6 ?_
    rw [rounds_succ]
    go_wp2_with fail
    refine (rs8 _).mono ?_
    rintro e w' ⟨rfl, rfl⟩
    go_wp2_with fail
    rw [rounds_succ]
    go_wp2_with fail
    refine (rs9 _).mono ?_
    rintro e w' ⟨rfl, rfl⟩
    go_wp2_with fail
    rw [rounds_succ]
    go_wp2_with fail
    refine (rs10 _).mono ?_
    rintro e w' ⟨rfl, rfl⟩
    go_wp2_with fail
    rw [rounds_succ]
    go_wp2_with fail
    refine (rs12 _).mono ?_
    rintro e w' ⟨rfl, rfl⟩
    go_wp2_with fail
    refine (rtput_any HA.out 12 (by decide) (by decide) hb).mono ?_
    rintro r w2 ⟨rfl, v', B⟩
    have HB := hid' B
    clear B
    go_wp2_with fail
    go_ret
    unfold EscEnd
    rw [HR.out]
    exact ⟨rfl, v', HB.out⟩
  have n102 : ¬ s[k] = 102 := e102
  by_cases e114 : s[k] = 114
  · have HR := hid' (hE.trans ((if_neg n98).trans ((if_neg n116).trans ((if_neg n110).trans ((if_neg n102).trans (if_pos e114))))))
    have u98 := u8Fr 98 n98 (98 : Int)
    have u116 := u8Fr 116 n116 (116 : Int)
    have u110 := u8Fr 110 n110 (110 : Int)
    have u102 := u8Fr 102 n102 (102 : Int)
    have u114 := u8Tr 114 e114 (114 : Int)
    have g13 := u8F 13 (show ¬ s[k] = 13 by rw [e114]; decide) (13 : Int)
    have g10 := u8F 10 (show ¬ s[k] = 10 by rw [e114]; decide) (10 : Int)
    have H8 := hid' (fun w => eightC s[k] false (by rw [e114]; rfl) w)
    have i0 := rix0
    have i1 := rix1
    have i2 := rix2
    have i3 := rix3
    have i4 := rix4
    clear hE e114 n98 n116 n110 n102
    go_enter Try.func78, Try.ntmps78
    go_wp2_with fail
    refine (H8.out _).mono ?_
    rintro e w' ⟨rfl, rfl⟩
    go_wp2_with fail
    refine wp_loop_rounds 6 ?_
    rw [rounds_succ]
    go_wp2_with fail
    refine (rs8 _).mono ?_
    rintro e w' ⟨rfl, rfl⟩
    go_wp2_with fail
    rw [rounds_succ]
    go_wp2_with fail
    refine (rs9 _).mono ?_
    rintro e w' ⟨rfl, rfl⟩
    go_wp2_with fail
    rw [rounds_succ]
    go_wp2_with fail
    refine (rs10 _).mono ?_
    rintro e w' ⟨rfl, rfl⟩
    go_wp2_with fail
    rw [rounds_succ]
    go_wp2_with fail
    refine (rs12 _).mono ?_
    rintro e w' ⟨rfl, rfl⟩
    go_wp2_with fail
    rw [rounds_succ]
    go_wp2_with fail
    refine (rs13 _).mono ?_
    rintro e w' ⟨rfl, rfl⟩
    go_wp2_with fail
    refine (rtput_any HA.out 13 (by decide) (by decide) hb).mono ?_
    rintro r w2 ⟨rfl, v', B⟩
    have HB := hid' B
    clear B
    go_wp2_with fail
    go_ret
    unfold EscEnd
    rw [HR.out]
    exact ⟨rfl, v', HB.out⟩
  have n114 : ¬ s[k] = 114 := e114
  have hE2 := hE.trans ((if_neg n98).trans ((if_neg n116).trans ((if_neg n110).trans ((if_neg n102).trans ((if_neg n114).trans (rfl))))))
  clear hE
  by_cases e13 : s[k] = 13
  · have g13 := u8T 13 e13 (13 : Int)
    have g10 := u8F 10 (show ¬ s[k] = 10 by rw [e13]; decide) (10 : Int)
    by_cases hk1 : k + 1 < s.size
    · have hk1' : (k : Int) + 1 < s.size := by omega
      have hk2 : ((k : Int) + 1).toNat = k + 1 := by omega
      have hk3 : (0 : Int) ≤ (k : Int) + 1 := by omega
      have hh : (s.toList.drop (k + 1)).head? = some s[k + 1] := by rw [drop_at s (k + 1) hk1]; rfl
      by_cases en : s[k + 1] = 10
      · have un := u8T 10 en (10 : Int)
        have HR := hid' (hE2.trans (if_pos ⟨e13, by rw [hh, en]⟩))
        clear hE2 e13 en hh n98 n116 n110 n102 n114 e98 e116 e110 e102 e114
        go_enter Try.func78, Try.ntmps78
        go_wp2_with fail
        go_ret
        unfold EscEnd
        rw [HR.out]
        exact ⟨rfl, v, HA.out⟩
      · have un := u8F 10 en (10 : Int)
        have HR := hid' (hE2.trans ((if_neg (fun h => en (by rw [hh] at h; exact Option.some.inj h.2))).trans (if_pos (.inr e13))))
        clear hE2 e13 en hh n98 n116 n110 n102 n114 e98 e116 e110 e102 e114
        go_enter Try.func78, Try.ntmps78
        go_wp2_with fail
        go_ret
        unfold EscEnd
        rw [HR.out]
        exact ⟨rfl, v, HA.out⟩
    · have hk1' : ¬ (k : Int) + 1 < s.size := by omega
      have HR := hid' (hE2.trans ((if_neg (fun h => by rw [drop_end s (k + 1) (by omega)] at h; simp at h)).trans (if_pos (.inr e13))))
      clear hE2 e13 n98 n116 n110 n102 n114 e98 e116 e110 e102 e114
      go_enter Try.func78, Try.ntmps78
      go_wp2_with fail
      go_ret
      unfold EscEnd
      rw [HR.out]
      exact ⟨rfl, v, HA.out⟩
  have g13 := u8F 13 e13 (13 : Int)
  have hE3 := hE2.trans (if_neg (fun h => e13 h.1))
  clear hE2
  by_cases e10 : s[k] = 10
  · have g10 := u8T 10 e10 (10 : Int)
    have HR := hid' (hE3.trans (if_pos (.inl e10)))
    clear hE3 e13 e10 n98 n116 n110 n102 n114 e98 e116 e110 e102 e114
    go_enter Try.func78, Try.ntmps78
    go_wp2_with fail
    go_ret
    unfold EscEnd
    rw [HR.out]
    exact ⟨rfl, v, HA.out⟩
  have g10 := u8F 10 e10 (10 : Int)
  have hE4 := hE3.trans (if_neg (fun h => h.elim e10 e13))
  clear hE3
  by_cases eo : (s[k].toNat : Int) < 48 ∨ 55 < (s[k].toNat : Int)
  · have HR := hid' (hE4.trans (if_pos eo))
    have H8 := hid' (fun w => eightC s[k] false (by
      rcases eo with h | h
      · rw [decide_eq_false (by omega)]; rfl
      · rw [decide_eq_false (show ¬ (s[k].toNat : Int) ≤ 55 by omega), Bool.and_false]) w)
    have u98 := u8Fr 98 n98 (98 : Int)
    have u116 := u8Fr 116 n116 (116 : Int)
    have u110 := u8Fr 110 n110 (110 : Int)
    have u102 := u8Fr 102 n102 (102 : Int)
    have u114 := u8Fr 114 n114 (114 : Int)
    have i0 := rix0
    have i1 := rix1
    have i2 := rix2
    have i3 := rix3
    have i4 := rix4
    clear hE4 eo n98 n116 n110 n102 n114 e98 e116 e110 e102 e114 e13 e10
    go_enter Try.func78, Try.ntmps78
    go_wp2_with fail
    refine (H8.out _).mono ?_
    rintro e w' ⟨rfl, rfl⟩
    go_wp2_with fail
    refine wp_loop_rounds 6 ?_
    rw [rounds_succ]
    go_wp2_with fail
    refine (rs8 _).mono ?_
    rintro e w' ⟨rfl, rfl⟩
    go_wp2_with fail
    rw [rounds_succ]
    go_wp2_with fail
    refine (rs9 _).mono ?_
    rintro e w' ⟨rfl, rfl⟩
    go_wp2_with fail
    rw [rounds_succ]
    go_wp2_with fail
    refine (rs10 _).mono ?_
    rintro e w' ⟨rfl, rfl⟩
    go_wp2_with fail
    rw [rounds_succ]
    go_wp2_with fail
    refine (rs12 _).mono ?_
    rintro e w' ⟨rfl, rfl⟩
    go_wp2_with fail
    rw [rounds_succ]
    go_wp2_with fail
    refine (rs13 _).mono ?_
    rintro e w' ⟨rfl, rfl⟩
    go_wp2_with fail
    rw [rounds_succ]
    go_wp2_with fail
    refine (rtput_any HA.out s[k].toNat (by omega) hcb hb).mono ?_
    rintro r w2 ⟨rfl, v', B⟩
    have HB := hid' B
    clear B
    go_wp2_with fail
    go_ret
    unfold EscEnd
    rw [HR.out]
    exact ⟨rfl, v', HB.out⟩
  have HR := hid' (hE4.trans (if_neg eo))
  have H8 := hid' (fun w => eightC s[k] true (by rw [decide_eq_true (show 48 ≤ (s[k].toNat : Int) by omega), decide_eq_true (show (s[k].toNat : Int) ≤ 55 by omega)]; rfl) w)
  have HN := hid' (show octR s k (k + 0) = octL (s.toList.drop k) from octR_start s k)
  clear hE4 eo n98 n116 n110 n102 n114 e98 e116 e110 e102 e114 e13 e10
  go_enter Try.func78, Try.ntmps78
  go_wp2_with fail
  refine (H8.out _).mono ?_
  rintro e w' ⟨rfl, rfl⟩
  go_wp2_with fail
  go_loop [8, 9] (fun xv mv => ∃ (m : Nat) (x : Int), m ≤ 3 ∧ k + m ≤ s.size ∧ mv = .int .i64 m ∧ xv = .int .i64 x ∧ 0 ≤ x ∧ x < 8 ^ m ∧ octV 0 (octL (s.toList.drop k)) = octV x (octR s k (k + m)) ∧ (octL (s.toList.drop k)).length = m + (octR s k (k + m)).length) (fun _ mv => 4 - (intOf mv).toNat)
  case atStart => exact ⟨0, 0, by omega, by omega, rfl, rfl, by omega, by decide, by rw [HN.out], by rw [HN.out]; omega⟩
  case round =>
    obtain ⟨m, x, hm3, hms, rfl, rfl, x0, x1, hV, hLn⟩ := hrel
    have hx512 : x < 512 := Int.lt_of_lt_of_le x1 (by
      have : (8 : Nat) ^ m ≤ 8 ^ 3 := Nat.pow_le_pow_right (by decide) hm3
      have e : ((8 ^ m : Nat) : Int) = (8 : Int) ^ m := by simp
      omega)
    have HV := hid' hV
    have HLn := hid' hLn
    have hkm : ((k : Int) + (m : Int)).toNat = k + m := by omega
    have hkm0 : (0 : Int) ≤ (k : Int) + m := by omega
    clear hV hLn
    by_cases c3 : m < 3
    rotate_left
    · obtain rfl : m = 3 := by omega
      have hz := octR_no s k (k + 3) (.inr (.inl (by omega)))
      have HF := hid' (show E = (x % 256, 3, true) by
        rw [HR.out]
        have h1 := HV.out
        have h2 := HLn.out
        rw [hz] at h1 h2
        rw [h1, h2]; rfl)
      have wx : IntKind.u8.wrap x = x % 256 := by rw [IntKind.wrap_u8]
      clear hz
      go_wp2_with fail
      refine (rtput_any HA.out (x % 256) (by omega) (by omega) hb).mono ?_
      rintro r w2 ⟨rfl, v', B⟩
      have HB := hid' B
      clear B
      go_wp2_with fail
      go_ret
      unfold EscEnd
      rw [HF.out]
      exact ⟨rfl, v', HB.out⟩
    have c3' : (m : Int) < 3 := by omega
    by_cases hc : k + m < s.size
    rotate_left
    · have hc' : ¬ (k : Int) + m < s.size := by omega
      have hz := octR_no s k (k + m) (.inl (by omega))
      have HF := hid' (show E = (x % 256, m, true) by
        rw [HR.out]
        have h1 := HV.out
        have h2 := HLn.out
        rw [hz] at h1 h2
        rw [h1, h2]; rfl)
      have wx : IntKind.u8.wrap x = x % 256 := by rw [IntKind.wrap_u8]
      clear hz
      go_wp2_with fail
      refine (rtput_any HA.out (x % 256) (by omega) (by omega) hb).mono ?_
      rintro r w2 ⟨rfl, v', B⟩
      have HB := hid' B
      clear B
      go_wp2_with fail
      go_ret
      unfold EscEnd
      rw [HF.out]
      exact ⟨rfl, v', HB.out⟩
    have hc' : (k : Int) + m < s.size := by omega
    by_cases eo2 : 48 ≤ (s[k + m].toNat : Int) ∧ (s[k + m].toNat : Int) ≤ 55
    · have H9 := hid' (fun w => eightC s[k + m] true (by rw [decide_eq_true eo2.1, decide_eq_true eo2.2]; rfl) w)
      have hz := octR_yes s k (k + m) hc (by omega) eo2.1 eo2.2
      have HZ := hid' hz
      have wx : IntKind.u8.wrap ((s[k + m].toNat : Int) - 48) = (s[k + m].toNat : Int) - 48 := by rw [IntKind.wrap_u8]; omega
      have hp : (8 : Int) ^ (m + 1) = 8 ^ m * 8 := Int.pow_succ 8 m
      obtain ⟨q, hq⟩ : ∃ q : Int, (s[k + m].toNat : Int) - 48 = q := ⟨_, rfl⟩
      have q0 : 0 ≤ q ∧ q ≤ 7 := by omega
      have HQ := hid' hq
      clear hz
      go_wp2_with fail
      refine (H9.out _).mono ?_
      rintro e w' ⟨rfl, rfl⟩
      go_wp2_with fail
      go_round
      case rel => exact ⟨m + 1, x * 8 + q, by omega, by omega, by go_num, by rw [← HQ.out]; go_num, by omega, by rw [hp]; omega, by rw [HV.out, HZ.out, octV_at, HQ.out]; rfl, by rw [HLn.out, HZ.out, List.length_cons]; show _ = m + 1 + (octR s k (k + m + 1)).length; omega⟩
      case measure => simp [intOf]; omega
    · have H9 := hid' (fun w => eightC s[k + m] false (by
        by_cases h : 48 ≤ (s[k + m].toNat : Int)
        · rw [decide_eq_false (show ¬ (s[k + m].toNat : Int) ≤ 55 by omega), Bool.and_false]
        · rw [decide_eq_false h]; rfl) w)
      have hz := octR_no s k (k + m) (.inr (.inr ⟨hc, by omega⟩))
      have HF := hid' (show E = (x % 256, m, true) by
        rw [HR.out]
        have h1 := HV.out
        have h2 := HLn.out
        rw [hz] at h1 h2
        rw [h1, h2]; rfl)
      have wx : IntKind.u8.wrap x = x % 256 := by rw [IntKind.wrap_u8]
      clear hz
      go_wp2_with fail
      refine (H9.out _).mono ?_
      rintro e w' ⟨rfl, rfl⟩
      go_wp2_with fail
      refine (rtput_any HA.out (x % 256) (by omega) (by omega) hb).mono ?_
      rintro r w2 ⟨rfl, v', B⟩
      have HB := hid' B
      clear B
      go_wp2_with fail
      go_ret
      unfold EscEnd
      rw [HF.out]
      exact ⟨rfl, v', HB.out⟩
end Go.Proofs.Ytgahapnjlngebaa
/- Walk: layer 7's reference: paren, hex. -/
namespace Go.Proofs.Ytgahapnjlngebaa
open Go.RowKit

/-- What a way of reading a string leaves, in the reference. -/
def TrEnd (w0 : World) (bt : Nat) (R : Int × List UInt8 × Nat) (r : Ending) (w' : World) : Prop :=
  ∃ v b n, r = .returned (.int .i64 ((n : Nat) : Int)) ∧ Tr w0 w' bt v b R.1 ∧ (R.1 = 0 → b = R.2.1 ∧ n = R.2.2) ∧ b.length ≤ 4100
theorem esc_pos (c : UInt8) (t : List UInt8) : 1 ≤ (escF (c :: t)).2.1 := by
  rw [escF_cons]
  split; · exact Nat.le_refl _
  split; · exact Nat.le_refl _
  split; · exact Nat.le_refl _
  split; · exact Nat.le_refl _
  split; · exact Nat.le_refl _
  split; · exact Nat.le_succ _
  split; · exact Nat.le_refl _
  split
  · exact Nat.le_refl _
  · rename_i h
    have ho : isOct c = true := by simp [isOct]; omega
    show 1 ≤ (octL (c :: t)).length
    unfold octL
    rw [List.take_succ_cons, List.takeWhile_cons, if_pos ho, List.length_cons]
    omega
theorem putE_hi (n : Nat) (h : 4000 ≤ n) : putE n 0 = 5 := if_pos ⟨h, rfl⟩
theorem putE_lo (n : Nat) (e : Int) (h : ¬ 4000 ≤ n) : putE n e = e := if_neg (fun k => h k.1)
theorem u8_back (c : UInt8) : u8of (c.toNat : Int) = c := by simp [u8of]
set_option maxRecDepth 100000 in
set_option maxHeartbeats 4000000 in
theorem rtparen_any {w0 w : World} {bt : Nat} {v0 : Value} (A : Tr w0 w bt v0 [] 0) (s : ByteArray) (hs : s.size ≤ 1000000) (h1 : 1 ≤ s.size) :
    Calls Try.prog 58 #[.pointer (some ⟨bt, 0, none⟩), .string s] w (TrEnd w0 bt (parenW (s.toList.drop 1) 1 1 [])) := by
  go_enter Try.func58, Try.ntmps58
  go_wp2_with fail
  go_loopw [5, 6] (fun dv iv wr => ∃ (j d : Nat) (b : List UInt8) (v : Value), 1 ≤ j ∧ j ≤ s.size ∧ 1 ≤ d ∧ d ≤ j ∧ iv = .int .i64 j ∧ dv = .int .i64 d ∧ b.length ≤ 4000 ∧ Tr w0 wr bt v b 0 ∧ parenW (s.toList.drop 1) 1 1 [] = parenW (s.toList.drop j) j d b) (fun _ i _ => s.size - (intOf i).toNat)
  case atStart => exact ⟨1, 1, [], v0, Nat.le_refl _, h1, Nat.le_refl _, Nat.le_refl _, rfl, rfl, Nat.zero_le _, A, rfl⟩
  case round =>
    obtain ⟨j, d, b, v, hj1, hj2, hd1, hd2, rfl, rfl, hbl, A1, hW⟩ := hrel
    clear A
    have HA := hid' A1
    have R := cells_of A1.box
    have Z := free_of A1.box
    have bl := blk_lt A1.box
    by_cases hlt : j < s.size
    rotate_left
    · obtain rfl : j = s.size := by omega
      have HW := hid' (hW.trans (parenW_end s s.size _ (Nat.le_refl _) d b))
      have HF := hid' (A1.fail 4)
      clear hW A1
      go_wp2_with fail
      go_ret
      unfold TrEnd
      rw [HW.out]
      exact ⟨v, b, 0, rfl, HF.out, fun h => absurd h (by decide), by omega⟩
    have hlt' : (j : Int) < s.size := by omega
    have h0j : (0 : Int) ≤ j := by omega
    have hcb : (s[j].toNat : Int) < 256 := by have := s[j].toNat_lt; omega
    have hE := hW.trans (parenW_at s j hlt d b)
    clear hW A1
    by_cases e92 : s[j] = 92
    · have u92 := u8T 92 e92 (92 : Int)
      have hE4 := hE.trans ((if_neg (show ¬ s[j] = 40 by rw [e92]; decide)).trans ((if_neg (show ¬ s[j] = 41 by rw [e92]; decide)).trans ((if_neg (show ¬ s[j] = 13 by rw [e92]; decide)).trans (if_pos e92))))
      clear hE
      have hsc := rescape_any HA.out s (j + 1) hs (by omega) (by omega)
      have ej : ((j + 1 : Nat) : Int) = (j : Int) + 1 := by omega
      rw [ej] at hsc
      by_cases hk : j + 1 < s.size
      rotate_left
      · have hk' : (j : Int) + 1 = s.size := by omega
        have HC := hid' (hE4.trans (if_pos (drop_end s (j + 1) (by omega))))
        rw [show escF (s.toList.drop (j + 1)) = (0, 0, false) by rw [drop_end s (j + 1) (by omega)]; rfl] at hsc
        have HX := hid' hsc
        clear hE4 e92 hk' hsc R Z bl
        go_wp2_with fail
        refine HX.out.mono ?_
        rintro r w1 ⟨rfl, v', A2⟩
        have A2 : Tr w0 w1 bt v' b 0 := A2
        have HF := hid' (A2.fail 4)
        have hb4 := blk_set A2.box 1 (.int .i64 4)
        simp only [List.setIfInBounds_toArray, List.set_cons_zero, List.set_cons_succ] at hb4
        have R := cells_of A2.box
        have Z := free_of A2.box
        have bl := blk_lt A2.box
        clear A2
        go_upto_region 12 with (fail)
        generalize w1.setCell ⟨bt, 1, none⟩ (.int .i64 4) = w2 at *
        clear R Z bl
        have R := cells_of hb4
        have bl := blk_lt hb4
        go_wp2_with fail
        go_ret
        unfold TrEnd
        rw [HC.out]
        exact ⟨v', b, 0, rfl, HF.out, fun h => absurd h (by decide), by omega⟩
      have hE5 := hE4.trans (if_neg (by rw [drop_at s (j + 1) hk]; simp))
      clear hE4
      obtain ⟨x0, x1, x2⟩ := escF_le (s.toList.drop (j + 1))
      have x3 := esc_pos s[j + 1] (s.toList.drop (j + 1 + 1))
      rw [← drop_at s (j + 1) hk] at x3
      rw [List.length_drop, size_lst] at x2
      generalize escF (s.toList.drop (j + 1)) = X at *
      obtain ⟨xc, xn, xb⟩ := X
      simp only at x0 x1 x2 x3 hsc hE5
      have HX := hid' hsc
      have xn0 : ((xn : Int) == 0) = false := by simp; omega
      have xs : (j : Int) + 1 + (xn : Int) ≤ s.size := by omega
      clear hsc
      cases xb with
      | false =>
        have HC := hid' (hE5.trans (if_neg (by simp)))
        clear hE5 e92 R Z bl
        go_wp2_with fail
        refine HX.out.mono ?_
        rintro r w1 ⟨rfl, v', A2⟩
        have A2 : Tr w0 w1 bt v' b 0 := A2
        have HB := hid' A2
        have R := cells_of A2.box
        have bl := blk_lt A2.box
        clear A2
        go_wp2_with fail
        go_roundw
        case rel => exact ⟨j + 1 + xn, d, b, v', by omega, by omega, by omega, by omega, by first | rfl | go_num, rfl, hbl, HB.out, HC.out⟩
        case measure => simp [intOf]; omega
      | true =>
        by_cases hf : 4000 ≤ b.length
        · have HC := hid' (hE5.trans ((if_pos rfl).trans (if_pos hf)))
          clear hE5 e92 R Z bl
          go_wp2_with fail
          refine HX.out.mono ?_
          rintro r w1 ⟨rfl, v', A2⟩
          have A2 : Tr w0 w1 bt v' (b ++ [u8of xc]) (putE b.length 0) := A2
          rw [putE_hi _ hf] at A2
          have HB := hid' A2
          have R := cells_of A2.box
          have bl := blk_lt A2.box
          clear A2
          go_wp2_with fail
          go_ret
          unfold TrEnd
          rw [HC.out]
          exact ⟨v', _, 0, rfl, HB.out, fun h => absurd h (by decide), by simp; omega⟩
        · have HC := hid' (hE5.trans ((if_pos rfl).trans (if_neg hf)))
          clear hE5 e92 R Z bl
          go_wp2_with fail
          refine HX.out.mono ?_
          rintro r w1 ⟨rfl, v', A2⟩
          have A2 : Tr w0 w1 bt v' (b ++ [u8of xc]) (putE b.length 0) := A2
          rw [putE_lo _ _ hf] at A2
          have HB := hid' A2
          have R := cells_of A2.box
          have bl := blk_lt A2.box
          clear A2
          go_wp2_with fail
          go_roundw
          case rel => exact ⟨j + 1 + xn, d, _, v', by omega, by omega, by omega, by omega, by first | rfl | go_num, rfl, by simp; omega, HB.out, HC.out⟩
          case measure => simp [intOf]; omega
    have u92 := u8F 92 e92 (92 : Int)
    by_cases e13 : s[j] = 13
    · have u13 := u8T 13 e13 (13 : Int)
      have hE3 := hE.trans ((if_neg (show ¬ s[j] = 40 by rw [e13]; decide)).trans ((if_neg (show ¬ s[j] = 41 by rw [e13]; decide)).trans (if_pos e13)))
      clear hE
      by_cases hk : j + 1 < s.size
      · have hk' : (j : Int) + 1 < s.size := by omega
        have hk2 : ((j : Int) + 1).toNat = j + 1 := by omega
        have hk3 : (0 : Int) ≤ (j : Int) + 1 := by omega
        have hh : (s.toList.drop (j + 1)).head? = some s[j + 1] := by rw [drop_at s (j + 1) hk]; rfl
        by_cases en : s[j + 1] = 10
        · have v10 := u8T 10 en (10 : Int)
          have hn : (s.toList.drop (j + 1)).head? = some 10 := by rw [hh, en]
          by_cases hf : 4000 ≤ b.length
          · have HC := hid' (hE3.trans (if_pos hf))
            clear hE3 e13 e92 hh en hn
            clear R Z bl
            go_wp2_with fail
            refine (rtput_any HA.out 10 (by decide) (by decide) (by omega)).mono ?_
            rintro r w1 ⟨rfl, v', A2⟩
            rw [putE_hi _ hf] at A2
            have HB := hid' A2
            have R := cells_of A2.box
            have bl := blk_lt A2.box
            clear A2
            go_wp2_with fail
            go_ret
            unfold TrEnd
            rw [HC.out]
            exact ⟨v', _, 0, rfl, HB.out, fun h => absurd h (by decide), by simp; omega⟩
          · have HC := hid' (hE3.trans ((if_neg hf).trans (if_pos hn)))
            clear hE3 e13 e92 hh en hn
            clear R Z bl
            go_wp2_with fail
            refine (rtput_any HA.out 10 (by decide) (by decide) (by omega)).mono ?_
            rintro r w1 ⟨rfl, v', A2⟩
            rw [putE_lo _ _ hf] at A2
            have HB := hid' A2
            have R := cells_of A2.box
            have bl := blk_lt A2.box
            clear A2
            go_wp2_with fail
            go_roundw
            case rel => exact ⟨j + 2, d, _, v', by omega, by omega, by omega, by omega, by first | rfl | go_num, by first | rfl | go_num, by simp; omega, HB.out, HC.out⟩
            case measure => simp [intOf]; omega
        · have v10 := u8F 10 en (10 : Int)
          have hn : ¬ (s.toList.drop (j + 1)).head? = some 10 := by rw [hh]; simpa using en
          by_cases hf : 4000 ≤ b.length
          · have HC := hid' (hE3.trans (if_pos hf))
            clear hE3 e13 e92 hh en hn
            clear R Z bl
            go_wp2_with fail
            refine (rtput_any HA.out 10 (by decide) (by decide) (by omega)).mono ?_
            rintro r w1 ⟨rfl, v', A2⟩
            rw [putE_hi _ hf] at A2
            have HB := hid' A2
            have R := cells_of A2.box
            have bl := blk_lt A2.box
            clear A2
            go_wp2_with fail
            go_ret
            unfold TrEnd
            rw [HC.out]
            exact ⟨v', _, 0, rfl, HB.out, fun h => absurd h (by decide), by simp; omega⟩
          · have HC := hid' (hE3.trans ((if_neg hf).trans (if_neg hn)))
            clear hE3 e13 e92 hh en hn
            clear R Z bl
            go_wp2_with fail
            refine (rtput_any HA.out 10 (by decide) (by decide) (by omega)).mono ?_
            rintro r w1 ⟨rfl, v', A2⟩
            rw [putE_lo _ _ hf] at A2
            have HB := hid' A2
            have R := cells_of A2.box
            have bl := blk_lt A2.box
            clear A2
            go_wp2_with fail
            go_roundw
            case rel => exact ⟨j + 1, d, _, v', by omega, by omega, by omega, by omega, by first | rfl | go_num, by first | rfl | go_num, by simp; omega, HB.out, HC.out⟩
            case measure => simp [intOf]; omega
      · have hk' : (s.size : Int) ≤ (j : Int) + 1 := by omega
        have hn : ¬ (s.toList.drop (j + 1)).head? = some 10 := by rw [drop_end s (j + 1) (by omega)]; simp
        by_cases hf : 4000 ≤ b.length
        · have HC := hid' (hE3.trans (if_pos hf))
          clear hE3 e13 e92 hn
          clear R Z bl
          go_wp2_with fail
          refine (rtput_any HA.out 10 (by decide) (by decide) (by omega)).mono ?_
          rintro r w1 ⟨rfl, v', A2⟩
          rw [putE_hi _ hf] at A2
          have HB := hid' A2
          have R := cells_of A2.box
          have bl := blk_lt A2.box
          clear A2
          go_wp2_with fail
          go_ret
          unfold TrEnd
          rw [HC.out]
          exact ⟨v', _, 0, rfl, HB.out, fun h => absurd h (by decide), by simp; omega⟩
        · have HC := hid' (hE3.trans ((if_neg hf).trans (if_neg hn)))
          clear hE3 e13 e92 hn
          clear R Z bl
          go_wp2_with fail
          refine (rtput_any HA.out 10 (by decide) (by decide) (by omega)).mono ?_
          rintro r w1 ⟨rfl, v', A2⟩
          rw [putE_lo _ _ hf] at A2
          have HB := hid' A2
          have R := cells_of A2.box
          have bl := blk_lt A2.box
          clear A2
          go_wp2_with fail
          go_roundw
          case rel => exact ⟨j + 1, d, _, v', by omega, by omega, by omega, by omega, by first | rfl | go_num, by first | rfl | go_num, by simp; omega, HB.out, HC.out⟩
          case measure => simp [intOf]; omega
    have u13 := u8F 13 e13 (13 : Int)
    by_cases e40 : s[j] = 40
    · have u40 := u8T 40 e40 (40 : Int)
      have hE2 := hE.trans (if_pos e40)
      clear hE
      by_cases hf : 4000 ≤ b.length
      · have HC := hid' (hE2.trans ((if_pos hf)))
        clear hE2 e40 e13 e92
        clear R Z bl
        go_wp2_with fail
        refine (rtput_any HA.out s[j].toNat (by omega) hcb (by omega)).mono ?_
        rintro r w1 ⟨rfl, v', A2⟩
        rw [putE_hi _ hf] at A2
        have HB := hid' A2
        have R := cells_of A2.box
        have bl := blk_lt A2.box
        clear A2
        go_wp2_with fail
        go_ret
        unfold TrEnd
        rw [HC.out]
        exact ⟨v', _, 0, rfl, HB.out, fun h => absurd h (by decide), by simp; omega⟩
      · have HC := hid' (hE2.trans ((if_neg hf)))
        rw [← u8_back s[j]] at HC
        clear hE2 e40 e13 e92
        clear R Z bl
        go_wp2_with fail
        refine (rtput_any HA.out s[j].toNat (by omega) hcb (by omega)).mono ?_
        rintro r w1 ⟨rfl, v', A2⟩
        rw [putE_lo _ _ hf] at A2
        have HB := hid' A2
        have R := cells_of A2.box
        have bl := blk_lt A2.box
        clear A2
        go_wp2_with fail
        go_roundw
        case rel => exact ⟨j + 1, d + 1, _, v', by omega, by omega, by omega, by omega, by first | rfl | go_num, by first | rfl | go_num, by simp; omega, HB.out, HC.out⟩
        case measure => simp [intOf]; omega
    have u40 := u8F 40 e40 (40 : Int)
    have hE1 := hE.trans (if_neg e40)
    clear hE
    by_cases e41 : s[j] = 41
    · have u41 := u8T 41 e41 (41 : Int)
      by_cases hd : d = 1
      · have HC := hid' (hE1.trans ((if_pos e41).trans (if_pos hd)))
        subst hd
        clear hE1 e41 e40 e13 e92
        go_wp2_with fail
        go_ret
        unfold TrEnd
        rw [HC.out]
        exact ⟨v, b, j + 1, by first | rfl | go_num, HA.out, fun _ => ⟨rfl, rfl⟩, by omega⟩
      have hd' : ((d : Int) - 1 == 0) = false := by simp; omega
      have hE2 := hE1.trans ((if_pos e41).trans (if_neg hd))
      have hd2 : 2 ≤ d := by omega
      clear hE1 hd
      by_cases hf : 4000 ≤ b.length
      · have HC := hid' (hE2.trans ((if_pos hf)))
        clear hE2 e40 e41 e13 e92
        clear R Z bl
        go_wp2_with fail
        refine (rtput_any HA.out s[j].toNat (by omega) hcb (by omega)).mono ?_
        rintro r w1 ⟨rfl, v', A2⟩
        rw [putE_hi _ hf] at A2
        have HB := hid' A2
        have R := cells_of A2.box
        have bl := blk_lt A2.box
        clear A2
        go_wp2_with fail
        go_ret
        unfold TrEnd
        rw [HC.out]
        exact ⟨v', _, 0, rfl, HB.out, fun h => absurd h (by decide), by simp; omega⟩
      · have HC := hid' (hE2.trans ((if_neg hf)))
        rw [← u8_back s[j]] at HC
        clear hE2 e40 e41 e13 e92
        clear R Z bl
        go_wp2_with fail
        refine (rtput_any HA.out s[j].toNat (by omega) hcb (by omega)).mono ?_
        rintro r w1 ⟨rfl, v', A2⟩
        rw [putE_lo _ _ hf] at A2
        have HB := hid' A2
        have R := cells_of A2.box
        have bl := blk_lt A2.box
        clear A2
        go_wp2_with fail
        go_roundw
        case rel => exact ⟨j + 1, d - 1, _, v', by omega, by omega, by omega, by omega, by first | rfl | go_num, by first | rfl | go_num, by simp; omega, HB.out, HC.out⟩
        case measure => simp [intOf]; omega
    have u41 := u8F 41 e41 (41 : Int)
    have hE2 := hE1.trans ((if_neg e41).trans ((if_neg e13).trans (if_neg e92)))
    clear hE1
    by_cases hf : 4000 ≤ b.length
    · have HC := hid' (hE2.trans ((if_pos hf)))
      clear hE2 e40 e41 e13 e92
      clear R Z bl
      go_wp2_with fail
      refine (rtput_any HA.out s[j].toNat (by omega) hcb (by omega)).mono ?_
      rintro r w1 ⟨rfl, v', A2⟩
      rw [putE_hi _ hf] at A2
      have HB := hid' A2
      have R := cells_of A2.box
      have bl := blk_lt A2.box
      clear A2
      go_wp2_with fail
      go_ret
      unfold TrEnd
      rw [HC.out]
      exact ⟨v', _, 0, rfl, HB.out, fun h => absurd h (by decide), by simp; omega⟩
    · have HC := hid' (hE2.trans ((if_neg hf)))
      rw [← u8_back s[j]] at HC
      clear hE2 e40 e41 e13 e92
      clear R Z bl
      go_wp2_with fail
      refine (rtput_any HA.out s[j].toNat (by omega) hcb (by omega)).mono ?_
      rintro r w1 ⟨rfl, v', A2⟩
      rw [putE_lo _ _ hf] at A2
      have HB := hid' A2
      have R := cells_of A2.box
      have bl := blk_lt A2.box
      clear A2
      go_wp2_with fail
      go_roundw
      case rel => exact ⟨j + 1, d, _, v', by omega, by omega, by omega, by omega, by first | rfl | go_num, by first | rfl | go_num, by simp; omega, HB.out, HC.out⟩
      case measure => simp [intOf]; omega
end Go.Proofs.Ytgahapnjlngebaa
/- Walk: layer 7's reference: hex. -/
namespace Go.Proofs.Ytgahapnjlngebaa
open Go.RowKit

set_option maxRecDepth 100000 in
set_option maxHeartbeats 4000000 in
theorem rthex_any {w0 w : World} {bt : Nat} {v0 : Value} (A : Tr w0 w bt v0 [] 0) (s : ByteArray) (hs : s.size ≤ 1000000) (h1 : 1 ≤ s.size) :
    Calls Try.prog 60 #[.pointer (some ⟨bt, 0, none⟩), .string s] w (TrEnd w0 bt (hexW (s.toList.drop 1) 1 (-1) [])) := by
  obtain ⟨R0, hR0⟩ : ∃ R0, hexW (s.toList.drop 1) 1 (-1) [] = R0 := ⟨_, rfl⟩
  rw [hR0]
  go_enter Try.func60, Try.ntmps60
  go_wp2_with fail
  go_loopw [5, 6] (fun hv iv wr => ∃ (j : Nat) (half : Int) (b : List UInt8) (v : Value) (e : Int), 1 ≤ j ∧ j ≤ s.size ∧ -1 ≤ half ∧ half ≤ 15 ∧ iv = .int .i64 j ∧ hv = .int .i64 half ∧ b.length ≤ 4001 ∧ Tr w0 wr bt v b e ∧ (e = 0 → b.length ≤ 4000 ∧ R0 = hexW (s.toList.drop j) j half b) ∧ (e ≠ 0 → R0 = (e, [], 0))) (fun _ i _ => s.size - (intOf i).toNat)
  case atStart => exact ⟨1, -1, [], v0, 0, Nat.le_refl _, h1, by omega, by omega, rfl, rfl, by simp, A, fun _ => ⟨by simp, hR0.symm⟩, fun h => absurd rfl h⟩
  case round =>
    clear hR0
    obtain ⟨j, half, b, v, e, hj1, hj2, hf0, hf1, rfl, rfl, hbl, A1, hW, hW0⟩ := hrel
    clear A
    have HA := hid' A1
    have R := cells_of A1.box
    have Z := free_of A1.box
    have bl := blk_lt A1.box
    by_cases he : e = 0
    rotate_left
    · have he' : (e == 0) = false := by simpa using he
      have HC := hid' (hW0 he)
      have HN := hid' he
      clear hW hW0 he A1
      by_cases hlt : j < s.size
      · have hlt' : (j : Int) < s.size := by omega
        go_wp2_with fail
        go_ret
        unfold TrEnd
        rw [HC.out]
        exact ⟨v, b, 0, rfl, HA.out, fun h => absurd h HN.out, by omega⟩
      · have hlt' : ¬ (j : Int) < s.size := by omega
        go_wp2_with fail
        go_ret
        unfold TrEnd
        rw [HC.out]
        exact ⟨v, b, 0, rfl, HA.out, fun h => absurd h HN.out, by omega⟩
    subst he
    have hW1 := hW rfl
    clear hW0 hW
    obtain ⟨hbl2, hW⟩ := hW1
    by_cases hlt : j < s.size
    rotate_left
    · obtain rfl : j = s.size := by omega
      have HW := hid' (hW.trans (hexW_end s s.size _ (Nat.le_refl _) half b))
      have HF := hid' (A1.fail 4)
      clear hW A1
      go_wp2_with fail
      go_ret
      unfold TrEnd
      rw [HW.out]
      exact ⟨v, b, 0, rfl, HF.out, fun h => absurd h (by decide), by omega⟩
    have hlt' : (j : Int) < s.size := by omega
    have h0j : (0 : Int) ≤ j := by omega
    have hE := hW.trans (hexW_at s j hlt half b)
    have HV := hid' (fun w => rvalue_any s[j].toNat (by omega) (by have := s[j].toNat_lt; omega) w)
    have HK := hid' (fun w => rkind_any s[j].toNat w)
    obtain ⟨q1, q2⟩ := valueI_le' s[j].toNat
    clear hW
    by_cases e62 : s[j] = 62
    · have u62 := u8T 62 e62 (62 : Int)
      have hE2 := hE.trans ((if_neg (show ¬ kindI s[j].toNat = 1 by rw [e62]; decide)).trans (if_pos e62))
      clear hE A1
      generalize valueI (s[j].toNat : Int) = q at *
      generalize kindI (s[j].toNat : Int) = kd at *
      by_cases hh : 0 ≤ half
      · have wx : IntKind.u8.wrap (16 * half) = half * 16 := by rw [IntKind.wrap_u8]; omega
        by_cases hf : 4000 ≤ b.length
        · have HC := hid' (hE2.trans ((if_pos hh).trans (if_pos hf)))
          clear hE2 e62
          go_wp2_with fail
          refine (HV.out _).mono ?_
          rintro r w1 ⟨rfl, rfl⟩
          go_wp2_with fail
          refine (rtput_any HA.out (half * 16) (by omega) (by omega) (by omega)).mono ?_
          rintro r w1 ⟨rfl, v', A2⟩
          rw [putE_hi _ hf] at A2
          have HB := hid' A2
          clear A2
          go_wp2_with fail
          go_ret
          unfold TrEnd
          rw [HC.out]
          exact ⟨v', _, j + 1, by first | rfl | go_num, HB.out, fun h => absurd h (by decide), by simp; omega⟩
        · have HC := hid' (hE2.trans ((if_pos hh).trans (if_neg hf)))
          clear hE2 e62
          go_wp2_with fail
          refine (HV.out _).mono ?_
          rintro r w1 ⟨rfl, rfl⟩
          go_wp2_with fail
          refine (rtput_any HA.out (half * 16) (by omega) (by omega) (by omega)).mono ?_
          rintro r w1 ⟨rfl, v', A2⟩
          rw [putE_lo _ _ hf] at A2
          have HB := hid' A2
          clear A2
          go_wp2_with fail
          go_ret
          unfold TrEnd
          rw [HC.out]
          exact ⟨v', _, j + 1, by first | rfl | go_num, HB.out, fun _ => ⟨rfl, rfl⟩, by simp; omega⟩
      · have HC := hid' (hE2.trans (if_neg hh))
        have hh' : half < 0 := by omega
        clear hE2 e62
        go_wp2_with fail
        refine (HV.out _).mono ?_
        rintro r w1 ⟨rfl, rfl⟩
        go_wp2_with fail
        go_ret
        unfold TrEnd
        rw [HC.out]
        exact ⟨v, _, j + 1, by first | rfl | go_num, HA.out, fun _ => ⟨rfl, rfl⟩, by omega⟩
    have u62 := u8F 62 e62 (62 : Int)
    by_cases ek : kindI s[j].toNat = 1
    · have hk' : (kindI s[j].toNat == 1) = true := by simpa using ek
      have HC := hid' (hE.trans (if_pos ek))
      clear hE ek e62 A1
      generalize valueI (s[j].toNat : Int) = q at *
      generalize kindI (s[j].toNat : Int) = kd at *
      go_wp2_with fail
      refine (HV.out _).mono ?_
      rintro r w1 ⟨rfl, rfl⟩
      go_wp2_with fail
      refine (HK.out _).mono ?_
      rintro r w1 ⟨rfl, rfl⟩
      go_wp2_with fail
      go_roundw
      case rel => exact ⟨j + 1, half, b, v, 0, by omega, by omega, hf0, hf1, by first | rfl | go_num, rfl, hbl, HA.out, fun _ => ⟨hbl2, HC.out⟩, fun h => absurd rfl h⟩
      case measure => simp [intOf]; omega
    have hk' : (kindI s[j].toNat == 1) = false := by simpa using ek
    have hE2 := hE.trans ((if_neg ek).trans (if_neg e62))
    clear hE ek e62
    generalize valueI (s[j].toNat : Int) = q at *
    generalize kindI (s[j].toNat : Int) = kd at *
    by_cases hv : q < 0 ∨ 15 < q
    · have HC := hid' (hE2.trans (if_pos hv))
      have hvd : (decide (q < 0) = true) ∨ (decide (q < 0) = false ∧ decide (15 < q) = true) := by
        by_cases h : q < 0
        · left; simpa using h
        · right; simp; omega
      have HF := hid' (A1.fail 3)
      have hb3 := blk_set A1.box 1 (.int .i64 3)
      simp only [List.setIfInBounds_toArray, List.set_cons_zero, List.set_cons_succ] at hb3
      clear hE2 hv A1
      rcases hvd with d1 | ⟨d1, d2⟩
      all_goals
        go_wp2_with fail
        refine (HV.out _).mono ?_
        rintro r w1 ⟨rfl, rfl⟩
        go_wp2_with fail
        refine (HK.out _).mono ?_
        rintro r w1 ⟨rfl, rfl⟩
        go_wp2_with fail
        go_roundw
        case rel => exact ⟨j + 1, half, b, v, 3, by omega, by omega, hf0, hf1, by first | rfl | go_num, rfl, hbl, HF.out, fun h => absurd h (by decide), fun _ => HC.out⟩
        case measure => simp [intOf]; omega
    have hE3 := hE2.trans (if_neg hv)
    have d1 : 0 ≤ q := by omega
    have d2 : q ≤ 15 := by omega
    clear hE2 hv A1
    by_cases hh : half < 0
    · have HC := hid' (hE3.trans (if_pos hh))
      clear hE3
      go_wp2_with fail
      refine (HV.out _).mono ?_
      rintro r w1 ⟨rfl, rfl⟩
      go_wp2_with fail
      refine (HK.out _).mono ?_
      rintro r w1 ⟨rfl, rfl⟩
      go_wp2_with fail
      go_roundw
      case rel => exact ⟨j + 1, q, b, v, 0, by omega, by omega, by omega, by omega, by first | rfl | go_num, rfl, hbl, HA.out, fun _ => ⟨hbl2, HC.out⟩, fun h => absurd rfl h⟩
      case measure => simp [intOf]; omega
    have hh' : 0 ≤ half := by omega
    have wx : IntKind.u8.wrap (16 * half + q) = half * 16 + q := by rw [IntKind.wrap_u8]; omega
    by_cases hf : 4000 ≤ b.length
    · have HC := hid' (hE3.trans ((if_neg hh).trans (if_pos hf)))
      clear hE3 hh
      go_wp2_with fail
      refine (HV.out _).mono ?_
      rintro r w1 ⟨rfl, rfl⟩
      go_wp2_with fail
      refine (HK.out _).mono ?_
      rintro r w1 ⟨rfl, rfl⟩
      go_wp2_with fail
      refine (rtput_any HA.out (half * 16 + q) (by omega) (by omega) (by omega)).mono ?_
      rintro r w1 ⟨rfl, v', A2⟩
      rw [putE_hi _ hf] at A2
      have HB := hid' A2
      clear A2
      go_wp2_with fail
      go_roundw
      case rel => exact ⟨j + 1, -1, _, v', 5, by omega, by omega, by omega, by omega, by first | rfl | go_num, rfl, by simp; omega, HB.out, fun h => absurd h (by decide), fun _ => HC.out⟩
      case measure => simp [intOf]; omega
    · have HC := hid' (hE3.trans ((if_neg hh).trans (if_neg hf)))
      clear hE3 hh
      go_wp2_with fail
      refine (HV.out _).mono ?_
      rintro r w1 ⟨rfl, rfl⟩
      go_wp2_with fail
      refine (HK.out _).mono ?_
      rintro r w1 ⟨rfl, rfl⟩
      go_wp2_with fail
      refine (rtput_any HA.out (half * 16 + q) (by omega) (by omega) (by omega)).mono ?_
      rintro r w1 ⟨rfl, v', A2⟩
      rw [putE_lo _ _ hf] at A2
      have HB := hid' A2
      clear A2
      go_wp2_with fail
      go_roundw
      case rel => exact ⟨j + 1, -1, _, v', 0, by omega, by omega, by omega, by omega, by first | rfl | go_num, rfl, by simp; omega, HB.out, fun _ => ⟨by simp; omega, HC.out⟩, fun h => absurd rfl h⟩
      case measure => simp [intOf]; omega
end Go.Proofs.Ytgahapnjlngebaa
