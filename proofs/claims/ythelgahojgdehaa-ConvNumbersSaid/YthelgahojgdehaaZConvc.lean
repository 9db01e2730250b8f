/- Cvg, Cvo, Cl, Ckn, Czb -/
import Derived.Test.YthelgahojgdehaaZConvb
import Derived.Test.YthelgahojgdehaaZChar
import Derived.Test.YthelgahojgdehaaZOpsb
import Derived.Test.YthelgahojgdehaaZSaya
import Derived.Deep.OwnRows
/- Walks: the functions that conv.Do hands to conv.do: cvs, cvrs; conv.digits. -/
namespace Go.Proofs.Ythelgahojgdehaa
open Go.RowKit

/-- A box of the call's own, over boxes that stay; the heaps hold something. -/
def AnyS (w0 : World) (B : Nat) (KL : List (Nat × Obj)) (sp : Nat) (l : List O) (W : World) : Prop := ∃ o M', StkAt w0 W M' ((B, o) :: KL) sp l
theorem AnyS.drew {w0 W : World} {B : Nat} {KL : List (Nat × Obj)} {sp : Nat} {l : List O} (h : AnyS w0 B KL sp l W) : AnyS w0 B KL sp l W.drew := by
  obtain ⟨o, M', S⟩ := h; exact ⟨o, M', S.drew⟩
theorem AnyS.pure {w0 W W' : World} {B : Nat} {KL : List (Nat × Obj)} {sp : Nat} {l : List O} (h : AnyS w0 B KL sp l W) (X : Chg NoB W W') : AnyS w0 B KL sp l W' := by
  obtain ⟨o, M', S⟩ := h; exact ⟨o, M', S.pure X⟩
theorem AnyS.of {w0 W : World} {B : Nat} {o : Obj} {M : List (Nat × List C)} {KL : List (Nat × Obj)} {sp : Nat} {l : List O} (h : StkAt w0 W M ((B, o) :: KL) sp l) : AnyS w0 B KL sp l W := ⟨o, M, h⟩
theorem AnyS.cells {w0 : World} {B g : Nat} {KL : List (Nat × Obj)} {sp : Nat} {l : List O} {cs : Array Value} {T : TypeId} {fz : Nat × Nat} (hm : (g, Obj.cells cs T fz) ∈ KL) : ∀ W, AnyS w0 B KL sp l W → ∀ i, W.cell? ⟨g, i, none⟩ = cs[i]? := by
  rintro W ⟨o, M', S⟩ i
  exact cells_of (S.box _ (List.mem_cons_of_mem _ hm)) i
theorem AnyS.o1 {w0 w : World} {M : List (Nat × List C)} {KL : List (Nat × Obj)} {sp : Nat} {l : List O} {b : Nat} {c0 c1 c2 c3 c4 c5 : Value} {T : TypeId} (S : StkAt w0 w M ((b, .cells #[c0, c1, c2, c3, c4, c5] T) :: KL) sp l) (kk : Int) (kx : Bool) (kn kp kl : Int) (ks : ByteArray) :
    AnyS w0 b KL sp l ((((((w.setCell ⟨b, 0, none⟩ (.int .i64 kk)).setCell ⟨b, 1, none⟩ (.bool kx)).setCell ⟨b, 2, none⟩ (.int .i64 kn)).setCell ⟨b, 3, none⟩ (.int .i64 kp)).setCell ⟨b, 4, none⟩ (.int .i64 kl)).setCell ⟨b, 5, none⟩ (.string ks)) := ⟨_, _, S.putO kk kx kn kp kl ks⟩
set_option maxRecDepth 100000 in
set_option maxHeartbeats 4000000 in
theorem cv7_any {w0 w : World} {M M' : List (Nat × List C)} {K : List (Nat × Obj)} {sp hp hb g : Nat} {l ops : List O} {cur : Array Value} (S : StkAt w0 w M ((g, .cells cur 29) :: K) sp l) (hh : (hb, hBox hp) ∈ K) (o o2 x : O) (e : Int) (ho : ops = [o, o2]) (hc : cur.toList = ops.flatMap O.cells) (t : ByteArray)
    (HP' : ∀ w' K', Ats w0 w' M K' → Calls Try.prog 14 #[ptr hp, o.val] w' fun e w2 => e = .returned (.string t) ∧ Ats w0 w2 M K')
    (HW' : ∀ w' K', Ats w0 w' M K' → Calls Try.prog 48 #[ptr hp, .string t, o2.val] w' fun r w2 => r = .returned (.tuple #[x.val, .int .i64 e]) ∧ Ats w0 w2 M' K') :
    Calls Try.prog 47 #[.slice (some ⟨g, 0, none⟩) 2 2, ptr hb] w fun r w2 => r = .returned (.tuple #[x.val, .int .i64 e]) ∧ StkAt w0 w2 M' K sp l := by
  have HP := hid' (fun (w' : World) (K' : List (Nat × Obj)) (S' : StkAt w0 w' M K' sp l) => S'.ask (r := .string t) (fun K2 A => HP' w' K2 A))
  have HW := hid' (fun (w' : World) (K' : List (Nat × Obj)) (S' : StkAt w0 w' M K' sp l) => S'.ask (r := .tuple #[x.val, .int .i64 e]) (fun K2 A => HW' w' K2 A))
  clear HP' HW'
  subst ho
  obtain ⟨q0, q1, q2, q3, q4, q5⟩ := at6 hc (m := 0) (o := o) rfl
  obtain ⟨p0, p1, p2, p3, p4, p5⟩ := at6 hc (m := 1) (o := o2) rfl
  simp only [Nat.zero_mul, Nat.zero_add, Nat.one_mul, Nat.reduceAdd] at q0 q1 q2 q3 q4 q5 p0 p1 p2 p3 p4 p5
  clear hc
  obtain ⟨kk, kx, kn, kp, kl, ks⟩ := o
  obtain ⟨jk, jx, jn, jp, jl, js⟩ := o2
  obtain ⟨xk, xx, xn, xp, xl, xs⟩ := x
  have S1 := S.alloc (Obj.cells #[.int .i64 0, .bool false, .int .i64 0, .int .i64 0, .int .i64 0, .string ⟨#[]⟩] 29)
  simp only at q0 q1 q2 q3 q4 q5 p0 p1 p2 p3 p4 p5 ⊢
  have mG : (g, Obj.cells cur 29) ∈ ((g, Obj.cells cur 29) :: K) := m0
  have mH : (hb, hBox hp) ∈ ((g, Obj.cells cur 29) :: K) := List.mem_cons_of_mem _ hh
  have RG := AnyS.cells (w0 := w0) (B := w.heap.size) (sp := sp) (l := l) mG
  have RH := AnyS.cells (w0 := w0) (B := w.heap.size) (sp := sp) (l := l) mH
  have hS1 := AnyS.of S1
  have HS := hid' S1
  clear S mG mH S1
  go_enter Try.func47, Try.ntmps47
  go_wp2_with fail
  generalize hW : w.alloc _ = w1 at *
  clear hW
  go_region_held3 (fun W' => AnyS w0 w.heap.size ((g, .cells cur 29) :: K) sp l W') (first | (with_reducible assumption) | (with_reducible exact AnyS.o1 S5 _ _ _ _ _ _) | (with_reducible exact AnyS.of S5) | (with_reducible exact AnyS.of S4) | (with_reducible exact AnyS.drew (by with_reducible assumption)))
    (first | (go_at_call 14; refine (HP.out _ _ (by first | exact HS.out | exact HS.out.drew)).mono ?_; rintro r w4 ⟨rfl, S4⟩) | (go_at_call 48; refine (HW.out _ _ (by first | exact S4 | exact S4.drew)).mono ?_; rintro r w5 ⟨rfl, S5⟩; have R5 := cells_of (S5.box _ m0); have Z5 := free_of (S5.box _ m0); have y5 := blk_lt (S5.box _ m0)))
  have S6 := S5.putO xk xx xn xp xl xs
  clear hS1 RG RH S4 S5
  generalize (((((w5.setCell _ _).setCell _ _).setCell _ _).setCell _ _).setCell _ _).setCell _ _ = w6 at *
  go_wp2_with fail
  have R5 := cells_of (S6.box _ m0)
  refine bodyPost_ret (v := .tuple #[O.val ⟨xk, xx, xn, xp, xl, xs⟩, .int .i64 e]) ?_ rfl ⟨rfl, S6.keep ((List.sublist_cons_self _ _).trans (List.sublist_cons_self _ _))⟩
  simp [results, Try.results47, go_sem, R5]
/-- A digit to a base. -/
def dgA (n : Nat) : UInt8 := if n < 10 then UInt8.ofNat (48 + n) else UInt8.ofNat (55 + n)
/-- The digits of a number to a base, the least one last. -/
def digB (b : Nat) (n : Nat) : List UInt8 := if h : n < b ∨ b < 2 then [dgA n] else digB b (n / b) ++ [dgA (n % b)]
termination_by n
decreasing_by
  exact Nat.div_lt_self (by omega) (by omega)
theorem digB_lo (b n : Nat) (h : n < b) : digB b n = [dgA n] := by rw [digB, dif_pos (.inl h)]
theorem digB_hi (b n : Nat) (h : ¬ n < b) (hb : 2 ≤ b) : digB b n = digB b (n / b) ++ [dgA (n % b)] := by rw [digB, dif_neg (by omega)]
theorem digB_len (b n : Nat) (hb : 2 ≤ b) (k : Nat) (h : n < 2 ^ (k + 1)) : (digB b n).length ≤ k + 1 := by
  induction k generalizing n with
  | zero => rw [digB_lo b n (by simp at h; omega)]; simp
  | succ k ih =>
    by_cases c : n < b
    · rw [digB_lo b n c]; simp
    · rw [digB_hi b n c hb, List.length_append, List.length_singleton]
      have h2 : n / b < 2 ^ (k + 1) := by
        rw [Nat.pow_succ] at h
        exact Nat.div_lt_of_lt_mul (Nat.lt_of_lt_of_le h (by rw [Nat.mul_comm]; exact Nat.mul_le_mul_right _ hb))
      have := ih (n / b) h2
      omega
abbrev allD : ByteArray := ⟨#[48, 49, 50, 51, 52, 53, 54, 55, 56, 57, 65, 66, 67, 68, 69, 70, 71, 72, 73, 74, 75, 76, 77, 78, 79, 80, 81, 82, 83, 84, 85, 86, 87, 88, 89, 90]⟩
theorem one_dig (d : Nat) (h : d < 36) : allD.extract d (d + 1) = ⟨#[dgA d]⟩ := by
  have : ∀ d : Fin 36, allD.extract d (d + 1) = ⟨#[dgA d]⟩ := by decide +kernel
  exact this ⟨d, h⟩
set_option maxRecDepth 100000 in
set_option maxHeartbeats 1000000 in
theorem cdigits_any (n b : Nat) (hn : n < 2 ^ 31) (hb : 2 ≤ b) (hb2 : b ≤ 36) (w : World) :
    Calls Try.prog 50 #[.int .i64 n, .int .i64 b] w fun r w' => r = .returned (.string ⟨(digB b n).toArray⟩) ∧ Chg NoB w w' := by
  have hb0 : (2 : Int) ≤ b := by omega
  have hb1 : (b : Int) ≤ 36 := by omega
  go_enter Try.func50, Try.ntmps50
  go_wp2_with fail
  go_loopw [0, 5] (fun nv sv wr => ∃ (m : Nat) (S : ByteArray), m ≤ n ∧ nv = .int .i64 m ∧ sv = .string S ∧ digB b n = digB b m ++ S.toList ∧ Chg NoB w wr) (fun nv _ _ => (intOf nv).toNat)
  case atStart => exact ⟨n, ⟨#[]⟩, Nat.le_refl _, rfl, rfl, by rw [ByteArray.toList_eq]; simp, Chg.refl _ _⟩
  case round =>
    obtain ⟨m, S, hm, rfl, rfl, hD, X⟩ := hrel
    have hS : S.size ≤ 31 := by
      have h1 := digB_len b n hb 30 (by omega)
      rw [hD, List.length_append, size_lst] at h1
      omega
    have hm0 : (0 : Int) ≤ m := by omega
    have hml : (m : Int) < 2147483648 := by omega
    obtain ⟨d, hd, hd2⟩ : ∃ d : Nat, (m : Int) % b = d ∧ d = m % b := ⟨m % b, by omega, rfl⟩
    obtain ⟨q, hq, hq2⟩ : ∃ q : Nat, (m : Int) / b = q ∧ q = m / b := ⟨m / b, by omega, rfl⟩
    have hdb : d < b := by rw [hd2]; exact Nat.mod_lt _ (by omega)
    have hone := one_dig d (by omega)
    have d1 : (d : Int) < 36 := by omega
    have tm : (m : Int).tmod b = d := by rw [Int.tmod_eq_emod_of_nonneg hm0, hd]
    have td : (m : Int).tdiv b = q := by rw [Int.tdiv_eq_ediv_of_nonneg hm0, hq]
    have HD := hid' hD
    have HX := hid' X
    clear hD hdb hn
    by_cases c : m < b
    · have hq0 : q = 0 := by rw [hq2]; exact Nat.div_eq_of_lt c
      subst hq0
      have HE := hid' (digB_lo b m c)
      have HM := hid' (show d = m by rw [hd2]; exact Nat.mod_eq_of_lt c)
      clear hd2 hq2
      go_wp2_with fail
      go_quiet (fail)
      go_wp2_with fail
      go_ret
      refine ⟨congrArg (fun s => Ending.returned (.string s)) (lst_inj ?_), HX.out.drewN _⟩
      refine Eq.trans ?_ (arr_lst _).symm
      rw [app_lst, one_lst, HD.out, HE.out, HM.out]
    · obtain ⟨z, hz⟩ : ∃ z : Int, (q : Int) = z := ⟨_, rfl⟩
      have hzp : 0 < q := by rw [hq2]; exact Nat.div_pos (by omega) (by omega)
      have hz1 : 1 ≤ z := by omega
      have hqm : q ≤ m := by rw [hq2]; exact Nat.div_le_self _ _
      have hzz : z < 2147483648 := by omega
      have hz0 : (z == 0) = false := by simp only [beq_eq_false_iff_ne, ne_eq]; omega
      rw [hz] at hq td
      have HZ := hid' hz
      have HE := hid' (digB_hi b m c hb)
      have HM := hid' hd2
      have HQ := hid' hq2
      have HC := hid' c
      clear hd2 hq2 hz hzp hqm c
      go_wp2_with fail
      go_quiet (fail)
      go_wp2_with fail
      clear hone tm td hq hd d1 hm0 hml hS
      go_roundw
      case rel => exact ⟨q, _, by rw [HQ.out]; exact Nat.le_trans (Nat.div_le_self _ _) hm, by rw [HZ.out], rfl, by rw [HD.out, HE.out, app_lst, one_lst, List.append_assoc, ← HM.out, ← HQ.out], HX.out.drewN _⟩
      case measure => simp [intOf]; have := Nat.div_lt_self (n := m) (k := b) (by have := HC.out; omega) (by omega); rw [← HQ.out] at this; have := HZ.out; omega
end Go.Proofs.Ythelgahojgdehaa
/- Walks: conv.Do at each of its operators (printed by gencv.py). -/
namespace Go.Proofs.Ythelgahojgdehaa
open Go.RowKit

theorem heldAll_one {L : List C} {o : O} (h : mayH L o = true) : HeldAll L [o] := fun x hx _ => by rw [List.mem_singleton.1 hx]; exact h
theorem fam_of {i f : Nat} (h : (opT[i]?).map Prod.fst = some f) : ∃ bs, opT[i]? = some (f, bs) := by
  cases e : opT[i]? with
  | none => simp [e] at h
  | some p => simp [e] at h; exact ⟨p.2, by rw [← h]⟩
theorem isK_any (k : Int) (h0 : 0 ≤ k) (h1 : k ≤ 12) : isK (-1) k = true := by
  have : ∀ k : Fin 13, isK (-1) (k.val : Int) = true := by decide +kernel
  obtain ⟨n, rfl⟩ : ∃ n : Nat, k = n := ⟨k.toNat, by omega⟩
  exact this ⟨n, by omega⟩
theorem isK_280 (k : Int) (h : k = 3 ∨ k = 4 ∨ k = 8) : isK 280 k = true := by rcases h with rfl | rfl | rfl <;> decide +kernel
theorem isK_str (k : Int) (h : k = 8) : isK 256 k = true := by subst h; decide +kernel
theorem isK_num (k : Int) (h : k = 3 ∨ k = 4) : isK 24 k = true := by rcases h with rfl | rfl <;> decide +kernel
theorem isK_int (k : Int) (h : k = 3) : isK 8 k = true := by subst h; decide +kernel
set_option maxRecDepth 100000 in
set_option maxHeartbeats 2000000 in
theorem conv_cvi {w0 w : World} {M M' : List (Nat × List C)} {K : List (Nat × Obj)} {sp hp : Nat} {l : List O} {L : List C} {o x : O} (S : StkAt w0 w M K sp (l ++ [o])) (hm : (hp, L) ∈ M) (hk0 : isK 280 o.kind = true) (hH : HeldAll L [o]) (hx : mayO x = true) (HW : ∀ w' K', Ats w0 w' M K' → Calls Try.prog 43 #[ptr hp, o.val] w' fun e w2 => e = .returned (.tuple #[x.val, .int .i64 0]) ∧ Ats w0 w2 M K') :
    Calls Try.prog 24 #[ptr hp, ptr sp, .int .i64 76] w fun r w' => r = .returned (.int .i64 0) ∧ StkAt w0 w' M K sp (didL l [o] x 0) := by
  obtain ⟨bs, hbs⟩ := fam_of (i := 75) (f := 4) (by decide +kernel)
  have HF := hid' (fun w' => family_at 75 4 bs hbs w')
  have S1 := (S.alloc (hBox hp)).alloc (.cells #[.int .i64 76] 3)
  simp only [World.size_alloc] at S1
  have HD := hid' (fun (w' : World) (kb b1 : Nat) (S' : StkAt w0 w' M ((kb, .cells #[.int .i64 280] 3) :: (b1, .cells #[.int .i64 76] 3) :: (w.heap.size, hBox hp) :: K) sp (l ++ [o])) =>
    conv_do S' hm [280] kb m0 rfl (fun i k o' h1 h2 => by
    rcases i with _ | i
    · simp at h1 h2; subst h1 h2; exact hk0
    · simp at h1) hH 1 rfl (by decide) 42 #[ptr w.heap.size] (fun _ _ => by kernel_rfl) x 0 (fun _ => hx) (M' := M) (fun w2 g cur hc S2 => cv4_any S2 (List.mem_cons_of_mem _ (List.mem_cons_of_mem _ m0)) o x rfl hc HW))
  clear hbs S
  go_enter Try.func24, Try.ntmps24
  go_wp2_with fail
  refine (HF.out _).mono ?_
  rintro r w2 ⟨rfl, X2⟩
  have S2 := S1.pure X2
  (try clear Rn); (try clear yn); (try clear Zn)
  have Rn := cells_of (S2.box _ m0)
  have yn := blk_lt (S2.box _ m0)
  (try clear Rh); (try clear yh); (try clear Zh)
  have Rh := cells_of (S2.box _ m1)
  have yh := blk_lt (S2.box _ m1)
  (try simp only at Rn yn Rh yh)
  clear S1 X2
  go_wp2_with fail
  refine (HD.out _ _ _ (S2.alloc (.cells #[.int .i64 280] 3))).mono ?_
  rintro r w3 ⟨rfl, S3⟩
  go_wp2_with fail
  go_ret
  exact ⟨rfl, S3.keep ((List.sublist_cons_self _ _).trans ((List.sublist_cons_self _ _).trans (List.sublist_cons_self _ _)))⟩
set_option maxRecDepth 100000 in
set_option maxHeartbeats 2000000 in
theorem conv_cvr {w0 w : World} {M M' : List (Nat × List C)} {K : List (Nat × Obj)} {sp hp : Nat} {l : List O} {L : List C} {o x : O} (S : StkAt w0 w M K sp (l ++ [o])) (hm : (hp, L) ∈ M) (hk0 : isK 280 o.kind = true) (hH : HeldAll L [o]) (hx : mayO x = true) (HW : ∀ w' K', Ats w0 w' M K' → Calls Try.prog 45 #[ptr hp, o.val] w' fun e w2 => e = .returned (.tuple #[x.val, .int .i64 0]) ∧ Ats w0 w2 M K') :
    Calls Try.prog 24 #[ptr hp, ptr sp, .int .i64 77] w fun r w' => r = .returned (.int .i64 0) ∧ StkAt w0 w' M K sp (didL l [o] x 0) := by
  obtain ⟨bs, hbs⟩ := fam_of (i := 76) (f := 4) (by decide +kernel)
  have HF := hid' (fun w' => family_at 76 4 bs hbs w')
  have S1 := (S.alloc (hBox hp)).alloc (.cells #[.int .i64 77] 3)
  simp only [World.size_alloc] at S1
  have HD := hid' (fun (w' : World) (kb b1 : Nat) (S' : StkAt w0 w' M ((kb, .cells #[.int .i64 280] 3) :: (b1, .cells #[.int .i64 77] 3) :: (w.heap.size, hBox hp) :: K) sp (l ++ [o])) =>
    conv_do S' hm [280] kb m0 rfl (fun i k o' h1 h2 => by
    rcases i with _ | i
    · simp at h1 h2; subst h1 h2; exact hk0
    · simp at h1) hH 1 rfl (by decide) 44 #[ptr w.heap.size] (fun _ _ => by kernel_rfl) x 0 (fun _ => hx) (M' := M) (fun w2 g cur hc S2 => cv5_any S2 (List.mem_cons_of_mem _ (List.mem_cons_of_mem _ m0)) o x rfl hc HW))
  clear hbs S
  go_enter Try.func24, Try.ntmps24
  go_wp2_with fail
  refine (HF.out _).mono ?_
  rintro r w2 ⟨rfl, X2⟩
  have S2 := S1.pure X2
  (try clear Rn); (try clear yn); (try clear Zn)
  have Rn := cells_of (S2.box _ m0)
  have yn := blk_lt (S2.box _ m0)
  (try clear Rh); (try clear yh); (try clear Zh)
  have Rh := cells_of (S2.box _ m1)
  have yh := blk_lt (S2.box _ m1)
  (try simp only at Rn yn Rh yh)
  clear S1 X2
  go_wp2_with fail
  refine (HD.out _ _ _ (S2.alloc (.cells #[.int .i64 280] 3))).mono ?_
  rintro r w3 ⟨rfl, S3⟩
  go_wp2_with fail
  go_ret
  exact ⟨rfl, S3.keep ((List.sublist_cons_self _ _).trans ((List.sublist_cons_self _ _).trans (List.sublist_cons_self _ _)))⟩
set_option maxRecDepth 100000 in
set_option maxHeartbeats 2000000 in
theorem conv_type {w0 w : World} {M M' : List (Nat × List C)} {K : List (Nat × Obj)} {sp hp : Nat} {l : List O} {L : List C} {o : O} (S : StkAt w0 w M K sp (l ++ [o])) (hm : (hp, L) ∈ M) (hk0 : isK (-1) o.kind = true) (hH : HeldAll L [o]) (t : ByteArray) (ht : t.size ≤ 100) (HT : ∀ w', Calls Try.prog 38 #[o.val] w' fun e w2 => e = .returned (.string t) ∧ Chg NoB w' w2) :
    Calls Try.prog 24 #[ptr hp, ptr sp, .int .i64 72] w fun r w' => r = .returned (.int .i64 0) ∧ StkAt w0 w' M K sp (didL l [o] ⟨5, true, 0, 0, 0, t⟩ 0) := by
  obtain ⟨bs, hbs⟩ := fam_of (i := 71) (f := 4) (by decide +kernel)
  have HF := hid' (fun w' => family_at 71 4 bs hbs w')
  have S1 := (S.alloc (hBox hp)).alloc (.cells #[.int .i64 72] 3)
  simp only [World.size_alloc] at S1
  have HD := hid' (fun (w' : World) (kb b1 : Nat) (S' : StkAt w0 w' M ((kb, .cells #[.int .i64 (-1)] 3) :: (b1, .cells #[.int .i64 72] 3) :: (w.heap.size, hBox hp) :: K) sp (l ++ [o])) =>
    conv_do S' hm [-1] kb m0 rfl (fun i k o' h1 h2 => by
    rcases i with _ | i
    · simp at h1 h2; subst h1 h2; exact hk0
    · simp at h1) hH 1 rfl (by decide) 37 #[] (fun _ _ => by kernel_rfl) ⟨5, true, 0, 0, 0, t⟩ 0 (fun _ => by simp [mayO, eqO, bareO, O.nil]; omega) (M' := M) (fun w2 g cur hc S2 => cv1_any S2 o rfl hc t HT))
  clear hbs S
  go_enter Try.func24, Try.ntmps24
  go_wp2_with fail
  refine (HF.out _).mono ?_
  rintro r w2 ⟨rfl, X2⟩
  have S2 := S1.pure X2
  (try clear Rn); (try clear yn); (try clear Zn)
  have Rn := cells_of (S2.box _ m0)
  have yn := blk_lt (S2.box _ m0)
  (try clear Rh); (try clear yh); (try clear Zh)
  have Rh := cells_of (S2.box _ m1)
  have yh := blk_lt (S2.box _ m1)
  (try simp only at Rn yn Rh yh)
  clear S1 X2
  go_wp2_with fail
  refine (HD.out _ _ _ (S2.alloc (.cells #[.int .i64 (-1)] 3))).mono ?_
  rintro r w3 ⟨rfl, S3⟩
  go_wp2_with fail
  go_ret
  exact ⟨rfl, S3.keep ((List.sublist_cons_self _ _).trans ((List.sublist_cons_self _ _).trans (List.sublist_cons_self _ _)))⟩
set_option maxRecDepth 100000 in
set_option maxHeartbeats 2000000 in
theorem conv_cvlit {w0 w : World} {M M' : List (Nat × List C)} {K : List (Nat × Obj)} {sp hp : Nat} {l : List O} {L : List C} {o : O} (S : StkAt w0 w M K sp (l ++ [o])) (hm : (hp, L) ∈ M) (hk0 : isK (-1) o.kind = true) (hH : HeldAll L [o]) (hx : mayO ⟨o.kind, false, o.n, o.pos, o.len, o.s⟩ = true) :
    Calls Try.prog 24 #[ptr hp, ptr sp, .int .i64 73] w fun r w' => r = .returned (.int .i64 0) ∧ StkAt w0 w' M K sp (didL l [o] ⟨o.kind, false, o.n, o.pos, o.len, o.s⟩ 0) := by
  obtain ⟨bs, hbs⟩ := fam_of (i := 72) (f := 4) (by decide +kernel)
  have HF := hid' (fun w' => family_at 72 4 bs hbs w')
  have S1 := (S.alloc (hBox hp)).alloc (.cells #[.int .i64 73] 3)
  simp only [World.size_alloc] at S1
  have HD := hid' (fun (w' : World) (kb b1 : Nat) (S' : StkAt w0 w' M ((kb, .cells #[.int .i64 (-1)] 3) :: (b1, .cells #[.int .i64 73] 3) :: (w.heap.size, hBox hp) :: K) sp (l ++ [o])) =>
    conv_do S' hm [-1] kb m0 rfl (fun i k o' h1 h2 => by
    rcases i with _ | i
    · simp at h1 h2; subst h1 h2; exact hk0
    · simp at h1) hH 1 rfl (by decide) 39 #[ptr b1] (fun _ _ => by kernel_rfl) ⟨o.kind, false, o.n, o.pos, o.len, o.s⟩ 0 (fun _ => hx) (M' := M) (fun w2 g cur hc S2 => cv2_any S2 73 (List.mem_cons_of_mem _ m0) o rfl hc))
  clear hbs S
  go_enter Try.func24, Try.ntmps24
  go_wp2_with fail
  refine (HF.out _).mono ?_
  rintro r w2 ⟨rfl, X2⟩
  have S2 := S1.pure X2
  (try clear Rn); (try clear yn); (try clear Zn)
  have Rn := cells_of (S2.box _ m0)
  have yn := blk_lt (S2.box _ m0)
  (try clear Rh); (try clear yh); (try clear Zh)
  have Rh := cells_of (S2.box _ m1)
  have yh := blk_lt (S2.box _ m1)
  (try simp only at Rn yn Rh yh)
  clear S1 X2
  go_wp2_with fail
  refine (HD.out _ _ _ (S2.alloc (.cells #[.int .i64 (-1)] 3))).mono ?_
  rintro r w3 ⟨rfl, S3⟩
  go_wp2_with fail
  go_ret
  exact ⟨rfl, S3.keep ((List.sublist_cons_self _ _).trans ((List.sublist_cons_self _ _).trans (List.sublist_cons_self _ _)))⟩
set_option maxRecDepth 100000 in
set_option maxHeartbeats 2000000 in
theorem conv_cvx {w0 w : World} {M M' : List (Nat × List C)} {K : List (Nat × Obj)} {sp hp : Nat} {l : List O} {L : List C} {o : O} (S : StkAt w0 w M K sp (l ++ [o])) (hm : (hp, L) ∈ M) (hk0 : isK (-1) o.kind = true) (hH : HeldAll L [o]) (hx : mayO ⟨o.kind, true, o.n, o.pos, o.len, o.s⟩ = true) :
    Calls Try.prog 24 #[ptr hp, ptr sp, .int .i64 74] w fun r w' => r = .returned (.int .i64 0) ∧ StkAt w0 w' M K sp (didL l [o] ⟨o.kind, true, o.n, o.pos, o.len, o.s⟩ 0) := by
  obtain ⟨bs, hbs⟩ := fam_of (i := 73) (f := 4) (by decide +kernel)
  have HF := hid' (fun w' => family_at 73 4 bs hbs w')
  have S1 := (S.alloc (hBox hp)).alloc (.cells #[.int .i64 74] 3)
  simp only [World.size_alloc] at S1
  have HD := hid' (fun (w' : World) (kb b1 : Nat) (S' : StkAt w0 w' M ((kb, .cells #[.int .i64 (-1)] 3) :: (b1, .cells #[.int .i64 74] 3) :: (w.heap.size, hBox hp) :: K) sp (l ++ [o])) =>
    conv_do S' hm [-1] kb m0 rfl (fun i k o' h1 h2 => by
    rcases i with _ | i
    · simp at h1 h2; subst h1 h2; exact hk0
    · simp at h1) hH 1 rfl (by decide) 39 #[ptr b1] (fun _ _ => by kernel_rfl) ⟨o.kind, true, o.n, o.pos, o.len, o.s⟩ 0 (fun _ => hx) (M' := M) (fun w2 g cur hc S2 => cv2_any S2 74 (List.mem_cons_of_mem _ m0) o rfl hc))
  clear hbs S
  go_enter Try.func24, Try.ntmps24
  go_wp2_with fail
  refine (HF.out _).mono ?_
  rintro r w2 ⟨rfl, X2⟩
  have S2 := S1.pure X2
  (try clear Rn); (try clear yn); (try clear Zn)
  have Rn := cells_of (S2.box _ m0)
  have yn := blk_lt (S2.box _ m0)
  (try clear Rh); (try clear yh); (try clear Zh)
  have Rh := cells_of (S2.box _ m1)
  have yh := blk_lt (S2.box _ m1)
  (try simp only at Rn yn Rh yh)
  clear S1 X2
  go_wp2_with fail
  refine (HD.out _ _ _ (S2.alloc (.cells #[.int .i64 (-1)] 3))).mono ?_
  rintro r w3 ⟨rfl, S3⟩
  go_wp2_with fail
  go_ret
  exact ⟨rfl, S3.keep ((List.sublist_cons_self _ _).trans ((List.sublist_cons_self _ _).trans (List.sublist_cons_self _ _)))⟩
set_option maxRecDepth 100000 in
set_option maxHeartbeats 2000000 in
theorem conv_xcheck {w0 w : World} {M M' : List (Nat × List C)} {K : List (Nat × Obj)} {sp hp : Nat} {l : List O} {L : List C} {o : O} (S : StkAt w0 w M K sp (l ++ [o])) (hm : (hp, L) ∈ M) (hk0 : isK (-1) o.kind = true) (hH : HeldAll L [o]) :
    Calls Try.prog 24 #[ptr hp, ptr sp, .int .i64 75] w fun r w' => r = .returned (.int .i64 0) ∧ StkAt w0 w' M K sp (didL l [o] (bO o.exec) 0) := by
  obtain ⟨bs, hbs⟩ := fam_of (i := 74) (f := 4) (by decide +kernel)
  have HF := hid' (fun w' => family_at 74 4 bs hbs w')
  have S1 := (S.alloc (hBox hp)).alloc (.cells #[.int .i64 75] 3)
  simp only [World.size_alloc] at S1
  have HD := hid' (fun (w' : World) (kb b1 : Nat) (S' : StkAt w0 w' M ((kb, .cells #[.int .i64 (-1)] 3) :: (b1, .cells #[.int .i64 75] 3) :: (w.heap.size, hBox hp) :: K) sp (l ++ [o])) =>
    conv_do S' hm [-1] kb m0 rfl (fun i k o' h1 h2 => by
    rcases i with _ | i
    · simp at h1 h2; subst h1 h2; exact hk0
    · simp at h1) hH 1 rfl (by decide) 40 #[] (fun _ _ => by kernel_rfl) (bO o.exec) 0 (fun _ => by cases o.exec <;> simp [mayO, eqO, bareO, O.nil]) (M' := M) (fun w2 g cur hc S2 => cv3_any S2 o rfl hc))
  clear hbs S
  go_enter Try.func24, Try.ntmps24
  go_wp2_with fail
  refine (HF.out _).mono ?_
  rintro r w2 ⟨rfl, X2⟩
  have S2 := S1.pure X2
  (try clear Rn); (try clear yn); (try clear Zn)
  have Rn := cells_of (S2.box _ m0)
  have yn := blk_lt (S2.box _ m0)
  (try clear Rh); (try clear yh); (try clear Zh)
  have Rh := cells_of (S2.box _ m1)
  have yh := blk_lt (S2.box _ m1)
  (try simp only at Rn yn Rh yh)
  clear S1 X2
  go_wp2_with fail
  refine (HD.out _ _ _ (S2.alloc (.cells #[.int .i64 (-1)] 3))).mono ?_
  rintro r w3 ⟨rfl, S3⟩
  go_wp2_with fail
  go_ret
  exact ⟨rfl, S3.keep ((List.sublist_cons_self _ _).trans ((List.sublist_cons_self _ _).trans (List.sublist_cons_self _ _)))⟩
set_option maxRecDepth 100000 in
set_option maxHeartbeats 2000000 in
theorem conv_cvn {w0 w : World} {M M' : List (Nat × List C)} {K : List (Nat × Obj)} {sp hp : Nat} {l : List O} {L : List C} {o : O} (S : StkAt w0 w M K sp (l ++ [o])) (hm : (hp, L) ∈ M) (hk0 : isK 256 o.kind = true) (hH : HeldAll L [o]) (b : ByteArray) (hb : bytesH L o = (b, 0)) (e : Int) (he : (if 100 < b.size then 5 else 0) = e) :
    Calls Try.prog 24 #[ptr hp, ptr sp, .int .i64 78] w fun r w' => r = .returned (.int .i64 e) ∧ StkAt w0 w' M K sp (didL l [o] ⟨5, o.exec, 0, 0, 0, b⟩ e) := by
  obtain ⟨bs, hbs⟩ := fam_of (i := 77) (f := 4) (by decide +kernel)
  have HF := hid' (fun w' => family_at 77 4 bs hbs w')
  have S1 := (S.alloc (hBox hp)).alloc (.cells #[.int .i64 78] 3)
  simp only [World.size_alloc] at S1
  have HD := hid' (fun (w' : World) (kb b1 : Nat) (S' : StkAt w0 w' M ((kb, .cells #[.int .i64 256] 3) :: (b1, .cells #[.int .i64 78] 3) :: (w.heap.size, hBox hp) :: K) sp (l ++ [o])) =>
    conv_do S' hm [256] kb m0 rfl (fun i k o' h1 h2 => by
    rcases i with _ | i
    · simp at h1 h2; subst h1 h2; exact hk0
    · simp at h1) hH 1 rfl (by decide) 46 #[ptr w.heap.size] (fun _ _ => by kernel_rfl) ⟨5, o.exec, 0, 0, 0, b⟩ e (fun h => by simp [mayO, eqO, bareO, O.nil]; split at he <;> omega) (M' := M) (fun w2 g cur hc S2 => he ▸ cv6_any S2 hm (List.mem_cons_of_mem _ (List.mem_cons_of_mem _ m0)) o rfl hc b hb))
  clear hbs S
  go_enter Try.func24, Try.ntmps24
  go_wp2_with fail
  refine (HF.out _).mono ?_
  rintro r w2 ⟨rfl, X2⟩
  have S2 := S1.pure X2
  (try clear Rn); (try clear yn); (try clear Zn)
  have Rn := cells_of (S2.box _ m0)
  have yn := blk_lt (S2.box _ m0)
  (try clear Rh); (try clear yh); (try clear Zh)
  have Rh := cells_of (S2.box _ m1)
  have yh := blk_lt (S2.box _ m1)
  (try simp only at Rn yn Rh yh)
  clear S1 X2
  go_wp2_with fail
  refine (HD.out _ _ _ (S2.alloc (.cells #[.int .i64 256] 3))).mono ?_
  rintro r w3 ⟨rfl, S3⟩
  go_wp2_with fail
  go_ret
  exact ⟨rfl, S3.keep ((List.sublist_cons_self _ _).trans ((List.sublist_cons_self _ _).trans (List.sublist_cons_self _ _)))⟩
set_option maxRecDepth 100000 in
set_option maxHeartbeats 2000000 in
theorem conv_cvs {w0 w : World} {M M' : List (Nat × List C)} {K : List (Nat × Obj)} {sp hp : Nat} {l : List O} {L : List C} {o o2 x : O} (S : StkAt w0 w M K sp (l ++ [o, o2])) (hm : (hp, L) ∈ M) (hk0 : isK (-1) o.kind = true) (hk1 : isK 256 o2.kind = true) (hH : HeldAll L [o, o2]) (e : Int) (hx : e = 0 → mayO x = true) (t : ByteArray) (HP : ∀ w' K', Ats w0 w' M K' → Calls Try.prog 14 #[ptr hp, o.val] w' fun e w2 => e = .returned (.string t) ∧ Ats w0 w2 M K') (HW : ∀ w' K', Ats w0 w' M K' → Calls Try.prog 48 #[ptr hp, .string t, o2.val] w' fun r w2 => r = .returned (.tuple #[x.val, .int .i64 e]) ∧ Ats w0 w2 M' K') :
    Calls Try.prog 24 #[ptr hp, ptr sp, .int .i64 79] w fun r w' => r = .returned (.int .i64 e) ∧ StkAt w0 w' M' K sp (didL l [o, o2] x e) := by
  obtain ⟨bs, hbs⟩ := fam_of (i := 78) (f := 4) (by decide +kernel)
  have HF := hid' (fun w' => family_at 78 4 bs hbs w')
  have S1 := (S.alloc (hBox hp)).alloc (.cells #[.int .i64 79] 3)
  simp only [World.size_alloc] at S1
  have HD := hid' (fun (w' : World) (kb b1 : Nat) (S' : StkAt w0 w' M ((kb, .cells #[.int .i64 (-1), .int .i64 256] 3) :: (b1, .cells #[.int .i64 79] 3) :: (w.heap.size, hBox hp) :: K) sp (l ++ [o, o2])) =>
    conv_do S' hm [-1, 256] kb m0 rfl (fun i k o' h1 h2 => by
    rcases i with _ | _ | i
    · simp at h1 h2; subst h1 h2; exact hk0
    · simp at h1 h2; subst h1 h2; exact hk1
    · simp at h1) hH 2 rfl (by decide) 47 #[ptr w.heap.size] (fun _ _ => by kernel_rfl) x e hx (M' := M') (fun w2 g cur hc S2 => cv7_any S2 (List.mem_cons_of_mem _ (List.mem_cons_of_mem _ m0)) o o2 x e rfl hc t HP HW))
  clear hbs S
  go_enter Try.func24, Try.ntmps24
  go_wp2_with fail
  refine (HF.out _).mono ?_
  rintro r w2 ⟨rfl, X2⟩
  have S2 := S1.pure X2
  (try clear Rn); (try clear yn); (try clear Zn)
  have Rn := cells_of (S2.box _ m0)
  have yn := blk_lt (S2.box _ m0)
  (try clear Rh); (try clear yh); (try clear Zh)
  have Rh := cells_of (S2.box _ m1)
  have yh := blk_lt (S2.box _ m1)
  (try simp only at Rn yn Rh yh)
  clear S1 X2
  go_wp2_with fail
  refine (HD.out _ _ _ (S2.alloc (.cells #[.int .i64 (-1), .int .i64 256] 3))).mono ?_
  rintro r w3 ⟨rfl, S3⟩
  go_wp2_with fail
  go_ret
  exact ⟨rfl, S3.keep ((List.sublist_cons_self _ _).trans ((List.sublist_cons_self _ _).trans (List.sublist_cons_self _ _)))⟩
end Go.Proofs.Ythelgahojgdehaa
/- Walks: the laws' own functions of layer 21: fresh, text, do, top, num. -/
namespace Go.Proofs.Ythelgahojgdehaa
open Go.RowKit

abbrev wVal (hp sp : Nat) : Value := .agg #[ptr hp, ptr sp]
abbrev wBox (hp sp : Nat) : Obj := .cells #[ptr hp, ptr sp] 26
set_option maxRecDepth 100000 in
theorem num21_any (n : Int) (w : World) : Calls Try.prog 9 #[.int .i64 n] w fun e w' => e = .returned (iO n).val ∧ Chg NoB w w' := by
  go_enter Try.func9, Try.ntmps9
  go_wp2_with fail
  refine bodyPost_ret (v := (iO n).val) ?_ rfl ⟨rfl, (Chg.refl NoB w).alloc _⟩
  simp [results, Try.results9, go_sem]
set_option maxRecDepth 100000 in
theorem fresh21_any {w0 w : World} {M : List (Nat × List C)} {K : List (Nat × Obj)} (A : Ats w0 w M K) :
    Calls Try.prog 8 #[] w fun e w' => ∃ hp sp, e = .returned (wVal hp sp) ∧ StkAt w0 w' ((hp, []) :: M) K sp [] := by
  have A1 := A.alloc (.cells #[.pointer none, .pointer none] 26)
  go_enter Try.func8, Try.ntmps8
  go_wp2_with fail
  refine (at_hnew A1).mono ?_
  rintro r w2 ⟨hp, rfl, A2⟩
  go_wp2_with fail
  refine (stk_new A2).mono ?_
  rintro r w3 ⟨sp, rfl, S3⟩
  (try clear Ra); (try clear ya); (try clear Za)
  have Ra := cells_of (S3.box _ m0)
  have ya := blk_lt (S3.box _ m0)
  have Za := free_of (S3.box _ m0)
  (try simp only at Ra ya Za)
  have S4 := ((S3.put 0 (ptr hp)).put 1 (ptr sp))
  simp only [List.setIfInBounds_toArray, List.set_cons_zero, List.set_cons_succ] at S4
  clear A1 A2 S3
  go_wp2_with fail
  have R5 := cells_of (S4.box _ m0)
  refine bodyPost_ret (v := wVal hp sp) ?_ rfl ⟨hp, sp, rfl, S4.keep (List.sublist_cons_self _ _)⟩
  simp [results, Try.results8, go_sem, R5]
set_option maxRecDepth 100000 in
theorem text21_any {w0 w : World} {M : List (Nat × List C)} {K : List (Nat × Obj)} {hp sp : Nat} {l : List O} {L : List C} (S : StkAt w0 w ((hp, L) :: M) K sp l) (s : ByteArray) (h1 : L.length < 2000) (h2 : used L + s.size ≤ 40000) (hl : l.length < 200) :
    Calls Try.prog 12 #[wVal hp sp, .string s] w fun e w' => e = .returned (.tuple #[]) ∧ StkAt w0 w' ((hp, L ++ [txt s.toList]) :: M) K sp (l ++ [strN L.length false 0 s.size]) := by
  have HST := hid' (fun (w' : World) (K' : List (Nat × Obj)) (S' : StkAt w0 w' ((hp, L) :: M) K' sp l) => S'.ask (r := .tuple #[(strN L.length false 0 s.size).val, .int .i64 0]) (fun K2 A => at_string A s (str_s L s h1 h2)))
  have HPU := hid' (fun (w' : World) (K' : List (Nat × Obj)) (S' : StkAt w0 w' ((hp, L ++ [txt s.toList]) :: M) K' sp l) => stk_push S' (strN L.length false 0 s.size) (mayO_str _ _ _ _ (by omega) (by omega) (by omega) (by omega) (by omega) (by omega)) hl)
  have S1 := S.alloc (wBox hp sp)
  (try clear Ra); (try clear ya); (try clear Za)
  have Ra := cells_of (S1.box _ m0)
  have ya := blk_lt (S1.box _ m0)
  (try simp only at Ra ya)
  clear S h1 h2 hl
  generalize (L.length : Int) = N at *
  generalize (s.size : Int) = z at *
  go_enter Try.func12, Try.ntmps12
  go_wp2_with fail
  refine (HST.out _ _ S1).mono ?_
  rintro r w2 ⟨rfl, S2⟩
  have S3 := S2.alloc (.cells #[.int .i64 8, .bool false, .int .i64 N, .int .i64 0, .int .i64 z, .string ⟨#[]⟩] 29)
  (try clear Ra); (try clear ya); (try clear Za)
  have Ra := cells_of (S2.box _ m0)
  have ya := blk_lt (S2.box _ m0)
  (try simp only at Ra ya)
  (try clear Ra); (try clear ya); (try clear Za)
  have Ra := cells_of (S3.box _ m1)
  have ya := blk_lt (S3.box _ m1)
  (try clear Rb); (try clear yb); (try clear Zb)
  have Rb := cells_of (S3.box _ m0)
  have yb := blk_lt (S3.box _ m0)
  (try simp only at Ra ya Rb yb)
  clear S1 S2
  go_wp2_with fail
  refine (HPU.out _ _ S3).mono ?_
  rintro r w4 ⟨rfl, S4⟩
  go_wp2_with fail
  go_end0
  exact ⟨rfl, S4.keep ((List.sublist_cons_self _ _).trans (List.sublist_cons_self _ _))⟩
set_option maxRecDepth 100000 in
set_option maxHeartbeats 1000000 in
theorem do21_any {w0 w : World} {M M' : List (Nat × List C)} {K : List (Nat × Obj)} {hp sp : Nat} {l l' gv : List O} (S : StkAt w0 w M K sp l) (k : Nat) (hk : gv.length = k) (hroom : l.length + k ≤ 200) (hmay : ∀ o ∈ gv, mayO o = true)
    (a : Option Addr) (cap : Nat) (hcap : k ≤ cap) (hread : ∀ m o, gv[m]? = some o → ∃ g off cur fz, a = some ⟨g, off, none⟩ ∧ (g, Obj.cells cur 29 fz) ∈ K ∧ ∀ j, j < 6 → cur[off + m * 6 + j]? = o.cells[j]?)
    (nm : ByteArray) (n e : Int) (b : Bool) (HN : ∀ w', Calls Try.prog 23 #[.string nm] w' fun r w2 => r = .returned (.tuple #[.int .i64 n, .bool b]) ∧ Chg NoB w' w2)
    (HD : ∀ w' K', StkAt w0 w' M K' sp (l ++ gv) → Calls Try.prog 24 #[ptr hp, ptr sp, .int .i64 n] w' fun r w2 => r = .returned (.int .i64 e) ∧ StkAt w0 w2 M' K' sp l') :
    Calls Try.prog 13 #[wVal hp sp, .string nm, .slice a k cap] w fun r w2 => r = .returned (.int .i64 e) ∧ StkAt w0 w2 M' K sp l' := by
  have S1 := S.alloc (wBox hp sp)
  (try clear Ra); (try clear ya); (try clear Za)
  have Ra := cells_of (S1.box _ m0)
  have ya := blk_lt (S1.box _ m0)
  (try simp only at Ra ya)
  have hread' : ∀ m o, gv[m]? = some o → ∃ g off cur fz, a = some ⟨g, off, none⟩ ∧ (g, Obj.cells cur 29 fz) ∈ (w.heap.size, wBox hp sp) :: K ∧ ∀ j, j < 6 → cur[off + m * 6 + j]? = o.cells[j]? := fun m o h => by
    obtain ⟨g, off, cur, fz, h1, h2, h3⟩ := hread m o h
    exact ⟨g, off, cur, fz, h1, List.mem_cons_of_mem _ h2, h3⟩
  have HRD := hid' hread'
  have HK := hid' hk
  have HRM := hid' hroom
  have HMY := hid' hmay
  have HN := hid' HN
  have HD := hid' HD
  have HS := hid' S1
  have hki : (k : Int) ≤ 200 := by omega
  have hkc : (k : Int) ≤ cap := by omega
  clear S hk hroom hmay hread hread' S1
  go_enter Try.func13, Try.ntmps13
  go_wp2_with fail
  generalize w.alloc (wBox hp sp) = wa at *
  go_loopw [13] (fun cv wr => ∃ (i : Nat), i ≤ k ∧ cv = .int .i64 i ∧ StkAt w0 wr M ((w.heap.size, wBox hp sp) :: K) sp (l ++ gv.take i)) (fun cv _ => k - (intOf cv).toNat)
  case atStart => exact ⟨0, Nat.zero_le _, rfl, by simpa using HS.out⟩
  case round =>
    obtain ⟨m, hm, rfl, S2⟩ := hrel
    by_cases hlt2 : m < k
    · obtain ⟨o, ho⟩ : ∃ o, gv[m]? = some o := ⟨gv[m]'(by rw [HK.out]; omega), List.getElem?_eq_getElem _⟩
      obtain ⟨g, off, cur, fz, rfl, hg, hq⟩ := HRD.out m o ho
      have HTK := hid' (show gv.take (m + 1) = gv.take m ++ [o] by rw [List.take_add_one, ho]; rfl)
      have HMO := hid' (HMY.out o (List.mem_of_getElem? ho))
      have q0 := hq 0 (by omega)
      have q1 := hq 1 (by omega)
      have q2 := hq 2 (by omega)
      have q3 := hq 3 (by omega)
      have q4 := hq 4 (by omega)
      have q5 := hq 5 (by omega)
      have e3 : (m : Int) < k := by omega
      have e4 : (0 : Int) ≤ m := by omega
      clear ho hq
      obtain ⟨kk, kx, kn, kp, kl, ks⟩ := o
      simp only [O.cells, List.getElem?_cons_zero, List.getElem?_cons_succ, Nat.add_zero] at q0 q1 q2 q3 q4 q5
      (try clear Rg); (try clear yg); (try clear Zg)
      have Rg := cells_of (S2.box _ hg)
      have yg := blk_lt (S2.box _ hg)
      (try clear Ra); (try clear ya); (try clear Za)
      have Ra := cells_of (S2.box _ m0)
      have ya := blk_lt (S2.box _ m0)
      (try simp only at Rg yg Ra ya)
      have S3 := S2.alloc (Obj.cells #[.int .i64 kk, .bool kx, .int .i64 kn, .int .i64 kp, .int .i64 kl, .string ks] 29)
      have RA3 := cells_of (S3.box _ m1)
      have yA3 := blk_lt (S3.box _ m1)
      simp only at RA3 yA3
      (try clear Rb); (try clear yb); (try clear Zb)
      have Rb := cells_of (S3.box _ m0)
      have yb := blk_lt (S3.box _ m0)
      (try simp only at Rb yb)
      have HP := hid' (stk_push S3 ⟨kk, kx, kn, kp, kl, ks⟩ HMO.out (by have := HRM.out; simp; omega))
      clear S2 S3
      go_wp2_with fail
      refine HP.out.mono ?_
      rintro e w3 ⟨rfl, S4⟩
      clear HP Rg yg Rb yb RA3 yA3
      go_wp2_with fail
      go_roundw
      case rel => exact ⟨m + 1, by omega, by go_num, by rw [HTK.out, ← List.append_assoc]; exact S4.keep (List.sublist_cons_self _ _)⟩
      case measure => simp [intOf]; omega
    · obtain rfl : m = k := by omega
      rw [List.take_of_length_le (by rw [HK.out]; exact Nat.le_refl _)] at S2
      go_wp2_with fail
      refine (HN.out _).mono ?_
      rintro r w3 ⟨rfl, X3⟩
      have S3 := S2.pure X3
      (try clear Ra); (try clear ya); (try clear Za)
      have Ra := cells_of (S3.box _ m0)
      have ya := blk_lt (S3.box _ m0)
      (try simp only at Ra ya)
      clear S2 X3
      go_wp2_with fail
      refine (HD.out _ _ S3).mono ?_
      rintro r w4 ⟨rfl, S4⟩
      go_wp2_with fail
      go_ret
      exact ⟨rfl, S4.keep (List.sublist_cons_self _ _)⟩
set_option maxRecDepth 100000 in
set_option maxHeartbeats 1000000 in
theorem top21_any {w0 w : World} {M : List (Nat × List C)} {K : List (Nat × Obj)} {hp sp : Nat} {l : List O} {L : List C} {o : O} (S : StkAt w0 w M K sp (l ++ [o])) (hm : (hp, L) ∈ M) (b : ByteArray) (e : Int) (hb : bytesH L o = (b, e)) :
    Calls Try.prog 16 #[wVal hp sp] w fun r w2 => r = .returned (.tuple #[o.val, .string b]) ∧ StkAt w0 w2 M K sp l := by
  have S1 := (S.alloc (wBox hp sp)).alloc (Obj.cells #[.int .i64 0, .bool false, .int .i64 0, .int .i64 0, .int .i64 0, .string ⟨#[]⟩] 29)
  simp only [World.size_alloc] at S1
  (try clear Ra); (try clear ya); (try clear Za)
  have Ra := cells_of (S1.box _ m1)
  have ya := blk_lt (S1.box _ m1)
  (try clear Rb); (try clear yb); (try clear Zb)
  have Rb := cells_of (S1.box _ m0)
  have yb := blk_lt (S1.box _ m0)
  have Zb := free_of (S1.box _ m0)
  (try simp only at Ra ya Rb yb Zb)
  have HP := hid' (stk_pop S1)
  have HB := hid' (fun (w' : World) (K' : List (Nat × Obj)) (S' : StkAt w0 w' M K' sp l) => S'.ask (r := .tuple #[.string b, .int .i64 e]) (fun K2 A => at_bytes A o hb hm))
  clear S S1 hb
  obtain ⟨kk, kx, kn, kp, kl, ks⟩ := o
  go_enter Try.func16, Try.ntmps16
  go_wp2_with fail
  refine HP.out.mono ?_
  rintro r w2 ⟨rfl, S2⟩
  (try clear Ra); (try clear ya); (try clear Za)
  have Ra := cells_of (S2.box _ m1)
  have ya := blk_lt (S2.box _ m1)
  (try clear Rb); (try clear yb); (try clear Zb)
  have Rb := cells_of (S2.box _ m0)
  have yb := blk_lt (S2.box _ m0)
  have Zb := free_of (S2.box _ m0)
  (try simp only at Ra ya Rb yb Zb)
  have S3 := S2.alloc (Obj.cells #[.int .i64 kk, .bool kx, .int .i64 kn, .int .i64 kp, .int .i64 kl, .string ks] 29)
  have RA3 := cells_of (S3.box _ m2)
  have yA3 := blk_lt (S3.box _ m2)
  simp only at RA3 yA3
  (try clear Rc); (try clear yc); (try clear Zc)
  have Rc := cells_of (S3.box _ m0)
  have yc := blk_lt (S3.box _ m0)
  (try simp only at Rc yc)
  clear S2
  go_wp2_with fail
  refine (HB.out _ _ S3).mono ?_
  rintro r w3 ⟨rfl, S4⟩
  clear RA3 yA3 Ra ya
  have S5 := S4.perm (List.Perm.swap _ _ _)
  (try clear Rb); (try clear yb); (try clear Zb)
  have Rb := cells_of (S5.box _ m0)
  have yb := blk_lt (S5.box _ m0)
  have Zb := free_of (S5.box _ m0)
  (try clear Rc); (try clear yc); (try clear Zc)
  have Rc := cells_of (S5.box _ m1)
  have yc := blk_lt (S5.box _ m1)
  (try simp only at Rb yb Zb Rc yc)
  have S6 := S5.putO kk kx kn kp kl ks
  clear S3 S4 S5
  go_wp2_with fail
  have R5 := cells_of (S6.box _ m0)
  refine bodyPost_ret (v := .tuple #[O.val ⟨kk, kx, kn, kp, kl, ks⟩, .string b]) ?_ rfl ⟨rfl, S6.keep ((List.sublist_cons_self _ _).trans ((List.sublist_cons_self _ _).trans (List.sublist_cons_self _ _)))⟩
  simp [results, Try.results16, go_sem, R5]
end Go.Proofs.Ythelgahojgdehaa
/- Walks: known of tympanlaw21; tympanhelp.Place. -/
namespace Go.Proofs.Ythelgahojgdehaa
open Go.RowKit

theorem op_cvi (w : World) : Calls Try.prog 23 #[.string ⟨#[99, 118, 105]⟩] w fun r w2 => r = .returned (.tuple #[.int .i64 76, .bool true]) ∧ Chg NoB w w2 := number_hit 75 4 [99, 118, 105] (by decide +kernel) w
theorem op_cvr (w : World) : Calls Try.prog 23 #[.string ⟨#[99, 118, 114]⟩] w fun r w2 => r = .returned (.tuple #[.int .i64 77, .bool true]) ∧ Chg NoB w w2 := number_hit 76 4 [99, 118, 114] (by decide +kernel) w
theorem bytes_not (L : List C) (o : O) (h : held o = false) : bytesH L o = (⟨#[]⟩, 6) := by
  simp [bytesH, findE, h]
theorem held_not {L : List C} {o : O} (h : isK 1792 o.kind = false) : HeldAll L [o] := fun x hx hk => by rw [List.mem_singleton.1 hx, h] at hk; simp at hk
theorem mayI (v : Int) (h0 : -2147483647 ≤ v) (h1 : v ≤ 2147483647) : mayO (iO v) = true := by simp [mayO, eqO, bareO, O.nil, h0, h1]
theorem mayF (v : Int) (h0 : -1073741823 ≤ v) (h1 : v ≤ 1073741823) : mayO (fO v) = true := by simp [mayO, eqO, bareO, O.nil, h0, h1]
abbrev k21s : ByteArray := ⟨#[49, 54, 35, 70, 70]⟩
theorem k21_list : k21s.toList = [49, 54, 35, 70, 70] := by rw [ByteArray.toList_eq]
theorem k21_read : readF [49, 54, 35, 70, 70] = (1, 255, 0) := by decide +kernel
theorem k21_at : ([] ++ [txt k21s.toList] : List C)[0]? = some (txt k21s.toList) := rfl
set_option maxRecDepth 100000 in
theorem known21_any (w : World) : Calls Try.prog 7 #[] w fun e w' => e = .returned (.bool true) ∧ Chg NoB w w' := by
  have hsz : k21s.toList.length = 5 := by rw [k21_list]; rfl
  have HNUM := hid' (fun (hp : Nat) (w' : World) (K' : List (Nat × Obj)) (A : Ats w w' [(hp, [] ++ [txt k21s.toList])] K') =>
    at_numT A m0 (strN 0 false 0 5) rfl ⟨((k21s.toList.drop (0 : Int).toNat).take (5 : Int).toNat).toArray⟩ (bytes_s k21_at (by decide) (by rw [hsz]; decide) false 0 5 (by decide) (by decide) (by rw [hsz]; decide)) (by rw [k21_list]; decide) (1, 255, 0) (by rw [k21_list, ByteArray.toList_eq]; exact k21_read))
  have HWH := hid' (fun (hp : Nat) (w' : World) (K' : List (Nat × Obj)) (A : Ats w w' [(hp, [] ++ [txt k21s.toList])] K') => at_whole A (strN 0 false 0 5) (iO 255) (HNUM.out hp) (fun h => by simp at h))
  have HDO := hid' (fun (hp sp : Nat) (w' : World) (K' : List (Nat × Obj)) (S' : StkAt w w' [(hp, [] ++ [txt k21s.toList])] K' sp ([] ++ [strN 0 false 0 5])) =>
    conv_cvi S' m0 (isK_280 8 (by decide)) (heldAll_one (may_s k21_at (by decide) (by rw [hsz]; decide) false 0 5 (by decide) (by decide) (by rw [hsz]; decide))) (mayI 255 (by decide) (by decide)) (HWH.out hp) (M' := []))
  clear hsz
  go_enter Try.func7, Try.ntmps7
  go_wp2_with fail
  refine (fresh21_any (Ats.start (Chg.refl NoB w))).mono ?_
  rintro r w1 ⟨hp, sp, rfl, S1⟩
  have S2 := S1.alloc (wBox hp sp)
  (try clear Ra); (try clear ya); (try clear Za)
  have Ra := cells_of (S2.box _ m0)
  have ya := blk_lt (S2.box _ m0)
  (try simp only at Ra ya)
  go_wp2_with fail
  refine (text21_any S2 k21s (by decide) (by decide) (by decide)).mono ?_
  rintro r w3 ⟨rfl, S3⟩
  (try clear Ra); (try clear ya); (try clear Za)
  have Ra := cells_of (S3.box _ m0)
  have ya := blk_lt (S3.box _ m0)
  (try simp only at Ra ya)
  clear S1 S2
  go_wp2_with fail
  refine (do21_any S3 0 (gv := []) rfl (by decide) (by simp) none 0 (by decide) (fun m o h => by simp at h) ⟨#[99, 118, 105]⟩ 76 0 true op_cvi (fun w' K' S' => HDO.out hp sp w' K' S')).mono ?_
  rintro r w4 ⟨rfl, S4⟩
  (try clear Ra); (try clear ya); (try clear Za)
  have Ra := cells_of (S4.box _ m0)
  have ya := blk_lt (S4.box _ m0)
  (try simp only at Ra ya)
  clear S3
  go_wp2_with fail
  refine (top21_any (l := []) (o := iO 255) S4 m0 ⟨#[]⟩ 6 (bytes_not _ _ rfl)).mono ?_
  rintro r w5 ⟨rfl, S5⟩
  have HX := hid' S5.chg
  have q1 : eqO ⟨3, false, 255, 0, 0, ⟨#[]⟩⟩ ⟨3, false, 255, 0, 0, ⟨#[]⟩⟩ = true := eqO_self _
  have hb := blk_new w5 (.cells #[.int .i64 3, .bool false, .int .i64 255, .int .i64 0, .int .i64 0, .string ⟨#[]⟩] 29)
  clear S4 S5 HNUM HWH HDO
  go_wp2_with fail
  generalize hW : w5.alloc _ = w6 at *
  have HX6 : Hid (Chg NoB w w6) := hid' (by rw [← hW]; exact HX.out.alloc _)
  clear hW
  have R := Chg.cells (S := NoB) hb id
  have l := blk_lt hb
  go_region_held3 (fun W' => Chg NoB w6 W') (first | (with_reducible assumption) | (with_reducible exact (Chg.refl _ _).drew) | (with_reducible exact Chg.drew (by with_reducible assumption)) | (with_reducible exact Chg.pure (by with_reducible assumption) (by with_reducible assumption)))
    ((go_at_call 9; refine (num21_any _ _).mono ?_; rintro r w7 ⟨rfl, X7⟩))
  go_wp2_with fail
  go_ret
  exact ⟨rfl, HX6.out.pure (by with_reducible assumption)⟩
/-- Some operands over a heap, and boxes that stay. -/
def WS (w0 : World) (hp sp : Nat) (KB : List (Nat × Obj)) (W : World) : Prop := ∃ L l E, StkAt w0 W [(hp, L)] (E ++ KB) sp l
theorem WS.drew {w0 W : World} {hp sp : Nat} {KB : List (Nat × Obj)} (h : WS w0 hp sp KB W) : WS w0 hp sp KB W.drew := by
  obtain ⟨L, l, E, S⟩ := h; exact ⟨L, l, E, S.drew⟩
theorem WS.pure {w0 W W' : World} {hp sp : Nat} {KB : List (Nat × Obj)} (h : WS w0 hp sp KB W) (X : Chg NoB W W') : WS w0 hp sp KB W' := by
  obtain ⟨L, l, E, S⟩ := h; exact ⟨L, l, E, S.pure X⟩
theorem WS.alloc {w0 W : World} {hp sp : Nat} {KB : List (Nat × Obj)} (h : WS w0 hp sp KB W) (o : Obj) : WS w0 hp sp KB (W.alloc o) := h.pure ((Chg.refl NoB W).alloc o)
theorem WS.of0 {w0 W : World} {hp sp : Nat} {KB : List (Nat × Obj)} {L : List C} {l : List O} (S : StkAt w0 W [(hp, L)] KB sp l) : WS w0 hp sp KB W := ⟨L, l, [], S⟩
theorem WS.of1 {w0 W : World} {hp sp : Nat} {KB : List (Nat × Obj)} {x : Nat × Obj} {L : List C} {l : List O} (S : StkAt w0 W [(hp, L)] (x :: KB) sp l) : WS w0 hp sp KB W := ⟨L, l, [x], S⟩
theorem WS.cells {w0 : World} {hp sp g : Nat} {KB : List (Nat × Obj)} {cs : Array Value} {T : TypeId} {fz : Nat × Nat} (hm : (g, Obj.cells cs T fz) ∈ KB) : ∀ W, WS w0 hp sp KB W → ∀ i, W.cell? ⟨g, i, none⟩ = cs[i]? := by
  rintro W ⟨L, l, E, S⟩ i
  exact cells_of (S.box _ (List.mem_append_right _ hm)) i
theorem WS.chg {w0 W : World} {hp sp : Nat} {KB : List (Nat × Obj)} (h : WS w0 hp sp KB W) : Chg NoB w0 W := by
  obtain ⟨L, l, E, S⟩ := h; exact S.chg
theorem read_one {K : List (Nat × Obj)} {g : Nat} (o : O) (hg : (g, obox o) ∈ K) : ∀ m o', [o][m]? = some o' → ∃ g' off cur fz, some (⟨g, 0, none⟩ : Addr) = some ⟨g', off, none⟩ ∧ (g', Obj.cells cur 29 fz) ∈ K ∧ ∀ j, j < 6 → cur[off + m * 6 + j]? = o'.cells[j]? := fun m o' ho => by
  obtain ⟨rfl, rfl⟩ : m = 0 ∧ o' = o := by cases m <;> simp_all
  exact ⟨g, 0, _, _, rfl, hg, fun j hj => by
    have : j = 0 ∨ j = 1 ∨ j = 2 ∨ j = 3 ∨ j = 4 ∨ j = 5 := by omega
    rcases this with rfl | rfl | rfl | rfl | rfl | rfl <;> rfl⟩
theorem place_any (v n : Int) (h : 0 < n) (hn : n ≤ 1000000000000) (w : World) :
    Calls Try.prog 10 #[.int .i64 v, .int .i64 n] w fun e w' => e = .returned (.int .i64 (v % n)) ∧ w = w' := by
  have h1 := Int.emod_nonneg v (show n ≠ 0 by omega)
  have h2 := Int.emod_lt_of_pos v h
  obtain ⟨r, hr⟩ : ∃ r, v % n = r := ⟨_, rfl⟩
  rw [hr] at h1 h2 ⊢
  have hn0 : (n == 0) = false := by simp; omega
  obtain ⟨t, ht⟩ : ∃ t, v.tmod n = t := ⟨_, rfl⟩
  have hrel : (0 ≤ t → t = r) ∧ (t < 0 → t + n = r) ∧ -n < t ∧ t < n := by
    have e1 := Int.tmod_def v n
    have e2 := Int.emod_def v n
    by_cases c : 0 ≤ v
    · rw [Int.tmod_eq_emod_of_nonneg c] at ht; omega
    · obtain ⟨u, rfl⟩ : ∃ u, v = -u := ⟨-v, by omega⟩
      have e3 : (-u).tmod n = -(u % n) := by rw [Int.neg_tmod, Int.tmod_eq_emod_of_nonneg (by omega)]
      have e4 := Int.emod_nonneg u (show n ≠ 0 by omega)
      have e5 := Int.emod_lt_of_pos u h
      by_cases z : u % n = 0
      · have : (-u) % n = 0 := Int.emod_eq_zero_of_dvd (Int.dvd_neg.2 (Int.dvd_of_emod_eq_zero z))
        omega
      · have : (-u) % n = n - u % n := by
          rw [Int.neg_emod, if_neg (fun d => z (Int.emod_eq_zero_of_dvd d))]; omega
        omega
  obtain ⟨r1, r2, r3, r4⟩ := hrel
  have hw := IntWalk.i64_in t (by omega)
  by_cases c : t < 0
  · have hz := r2 c
    clear r1 r2 hr
    go_enter Try.func10, Try.ntmps10
    go_wp2_with fail
    go_ret
    exact ⟨by rw [← hz]; rfl, rfl⟩
  · have hz := r1 (by omega)
    clear r1 r2 hr
    go_enter Try.func10, Try.ntmps10
    go_wp2_with fail
    go_ret
    exact ⟨by rw [← hz]; rfl, rfl⟩
end Go.Proofs.Ythelgahojgdehaa
/- A string of zero bytes, made; operators' numbers; cvs of a name. -/
namespace Go.Proofs.Ythelgahojgdehaa
open Go.RowKit

def zeroL (N : Nat) : List UInt8 := List.replicate N 0
abbrev zrowB (N : Nat) : Obj := .cells (madeCells #[.int .u8 0] N) 5
theorem z_under : Try.prog.underlying 35 = some (.slice 5) := by kernel_rfl
theorem z_underS : Try.prog.underlying 9 = some .string := by kernel_rfl
theorem z_underB : Try.prog.underlying 5 = some (.int .u8) := by kernel_rfl
theorem z_info : (Try.prog.info? 5).map (fun i => (i.zero, i.size, i.bytes)) = some (some (.int .u8 0), 1, 1) := by kernel_rfl
theorem make_z (N : Nat) (W : World) (hN : N ≤ 100000) : (Instr.makeSlice 35 (.int .i64 (N : Int)) (.int .i64 (N : Int))).run Try.prog W = .ok (.slice (some ⟨W.heap.size, 0, none⟩) N N) (W.alloc (zrowB N)) :=
  run_make_row' 35 5 (.int .u8 0) 1 z_under z_info rfl .i64 .i64 N (by omega) (by omega) W
theorem conv_z (N g : Nat) (W : World) (h : W.heap[g]? = some (zrowB N)) : (convert 35 9 (.slice (some ⟨g, 0, none⟩) N N)).run Try.prog W = .ok (.string ⟨(zeroL N).toArray⟩) W := by
  simp only [convert, Sem.run_bind, run_underlying z_underS, run_underlying z_under, run_underlying z_underB, Result.andThen_ok]
  have := bytesToString_T Try.prog W ⟨g, 0, none⟩ (zeroL N) N (fun i hi => by
    have hi' : i < N := by simpa [zeroL] using hi
    have e : (⟨g, 0, none⟩ : Addr).add i = ⟨g, i, none⟩ := by simp [Addr.add]; exact fun h => h.symm
    rw [e, cells_of h]
    simp [madeCells, hi', zeroL, u8V, Nat.mod_one])
  simpa [zeroL] using this
theorem zero_size (N : Nat) : (⟨(zeroL N).toArray⟩ : ByteArray).size = N := by simp [ByteArray.size, zeroL]
theorem zero_list (N : Nat) : (⟨(zeroL N).toArray⟩ : ByteArray).toList = zeroL N := by rw [ByteArray.toList_eq]
theorem op_cvx (w : World) : Calls Try.prog 23 #[.string ⟨#[99, 118, 120]⟩] w fun r w2 => r = .returned (.tuple #[.int .i64 74, .bool true]) ∧ Chg NoB w w2 := number_hit 73 4 [99, 118, 120] (by decide +kernel) w
theorem op_cvn (w : World) : Calls Try.prog 23 #[.string ⟨#[99, 118, 110]⟩] w fun r w2 => r = .returned (.tuple #[.int .i64 78, .bool true]) ∧ Chg NoB w w2 := number_hit 77 4 [99, 118, 110] (by decide +kernel) w
theorem op_cvs (w : World) : Calls Try.prog 23 #[.string ⟨#[99, 118, 115]⟩] w fun r w2 => r = .returned (.tuple #[.int .i64 79, .bool true]) ∧ Chg NoB w w2 := number_hit 78 4 [99, 118, 115] (by decide +kernel) w
theorem op_xcheck (w : World) : Calls Try.prog 23 #[.string ⟨#[120, 99, 104, 101, 99, 107]⟩] w fun r w2 => r = .returned (.tuple #[.int .i64 75, .bool true]) ∧ Chg NoB w w2 := number_hit 74 4 [120, 99, 104, 101, 99, 107] (by decide +kernel) w
theorem op_cvlit (w : World) : Calls Try.prog 23 #[.string ⟨#[99, 118, 108, 105, 116]⟩] w fun r w2 => r = .returned (.tuple #[.int .i64 73, .bool true]) ∧ Chg NoB w w2 := number_hit 72 4 [99, 118, 108, 105, 116] (by decide +kernel) w
theorem op_type (w : World) : Calls Try.prog 23 #[.string ⟨#[116, 121, 112, 101]⟩] w fun r w2 => r = .returned (.tuple #[.int .i64 72, .bool true]) ∧ Chg NoB w w2 := number_hit 71 4 [116, 121, 112, 101] (by decide +kernel) w
theorem bytes_whole {L : List C} {N : Nat} {s : ByteArray} (hc : L[N]? = some (txt s.toList)) (hN : N ≤ 40000) (hs : s.size ≤ 40000) (x : Bool) : bytesH L (strN N x 0 s.size) = (s, 0) := by
  have hz := size_toList s
  rw [bytes_s hc hN (by omega) x 0 s.size (by omega) (by omega) (by omega), Int.toNat_zero, List.drop_zero, Int.toNat_natCast, List.take_of_length_le (by omega), ofList]
theorem may_whole {L : List C} {N : Nat} {s : ByteArray} (hc : L[N]? = some (txt s.toList)) (hN : N ≤ 40000) (hs : s.size ≤ 40000) (x : Bool) : mayH L (strN N x 0 s.size) = true := by
  have hz := size_toList s
  exact may_s hc hN (by omega) x 0 s.size (by omega) (by omega) (by omega)
theorem heldAll_two {L : List C} {o p : O} (h : isK 1792 o.kind = true → mayH L o = true) (h2 : mayH L p = true) : HeldAll L [o, p] := fun x hx hk => by
  rcases List.mem_cons.1 hx with rfl | hx
  · exact h hk
  · rw [List.mem_singleton.1 hx]; exact h2
theorem plain_at {w0 : World} {M : List (Nat × List C)} (o : O) (hp : Nat) (hm : mayO o = true) (hk : plainK o) : ∀ w' K', Ats w0 w' M K' → Calls Try.prog 14 #[ptr hp, o.val] w' fun e w2 => e = .returned (.string (plainB o)) ∧ Ats w0 w2 M K' :=
  fun _ _ A => (plain_any o hp hm hk _).mono fun _ _ ⟨h1, h2⟩ => ⟨h1, A.pure h2⟩
end Go.Proofs.Ythelgahojgdehaa
