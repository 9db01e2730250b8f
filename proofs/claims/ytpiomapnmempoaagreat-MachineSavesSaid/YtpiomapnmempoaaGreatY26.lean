/- Parts of the proof: Who, War, Wat, Whl, Ful. -/
import Derived.Test.YtpiomapnmempoaaGreatY11
import Derived.Test.YtpiomapnmempoaaGreatY23
namespace Go.Proofs.YtpiomapnmempoaaGreat
open Go.RowKit
variable {w w0 : World} {M : List (Nat × List C)} {K : List (Nat × Obj)} {bt hp : Nat} {b : List UInt8} {v : Value} {H : List C}
theorem decL_short (v : Int) (h0 : -2147483647 ≤ v) (h1 : v ≤ 2147483647) : (intL v).length ≤ 20 := by
 unfold intL; have := decL_len v.natAbs 14 (by omega); split
 · rw [List.length_cons]; omega
 · omega
theorem mayP_name {ex : Bool} {n a l : Int} {s : ByteArray} (h : mayO ⟨5, ex, n, a, l, s⟩ = true) : s.size ≤ 100 := by
 unfold mayO at h; rw [Bool.and_eq_true] at h; have := h.2; rw [if_neg (by simp), if_neg (by simp), if_neg (by simp), if_neg (by simp), if_pos rfl] at this; have := of_decide_eq_true this; simp only at this; omega
theorem plainB_size (o : O) (hm : mayO o = true) (hk : plainK o) : (plainB o).size ≤ 1000000 := by
 obtain ⟨k, ex, n, a, l, s⟩ := o
 rcases hk with hk | hk | hk | hk | hk
 all_goals
  simp only at hk; subst hk
 · exact (by decide : (4 : Nat) ≤ 1000000)
 · have := mayP_int hm; have := decL_short n this.1 this.2; change (intL n).toArray.size ≤ _; simp only [List.size_toArray]; omega
 · have := mayP_name hm; change s.size ≤ _; omega
 · exact (by decide : (6 : Nat) ≤ 1000000)
 · exact (by decide : (7 : Nat) ≤ 1000000)
def leafT (o : O) : List UInt8 := if o.kind = 5 ∧ o.exec = false then 47 :: o.s.toList else (plainB o).toList
theorem Told.pure {w' : World} (A : Told w0 w M K hp bt b) (X : Chg NoB w w') : Told w0 w' M K hp bt b := by
 obtain ⟨v, R, h, A⟩ := A; exact ⟨v, R, h, A.pure X⟩
theorem Told.alloc (A : Told w0 w M K hp bt b) (o : Obj) : Told w0 (w.alloc o) M ((w.heap.size, o) :: K) hp bt b := by
 obtain ⟨v, R, h, A⟩ := A; exact ⟨v, R, h, (A.alloc o).perm (by rw [← List.cons_append, ← List.cons_append]; exact List.perm_middle.symm)⟩
theorem Told.box (A : Told w0 w M K hp bt b) (q : Nat × Obj) (hq : q ∈ K) : w.heap[q.1]? = some q.2 := by
 obtain ⟨v, R, h, A⟩ := A; exact A.box q (List.mem_cons_of_mem _ (List.mem_append_right _ hq))
theorem Told.tell (A : Told w0 w M K hp bt b) : w.cell? ⟨bt, 0, none⟩ = some (ptr hp) := by
 obtain ⟨v, R, h, A⟩ := A; have := cells_of (A.box _ (List.mem_cons_self ..)) 0; exact this
theorem Told.lose {q : Nat × Obj} (A : Told w0 w M (q :: K) hp bt b) : Told w0 w M K hp bt b := by
 obtain ⟨v, R, h, A⟩ := A; exact ⟨v, R, h, A.keep ((List.Sublist.append_left (List.sublist_cons_self q K) R).cons_cons _)⟩
theorem take_take_app (b s t : List UInt8) : ((b ++ s).take 1000 ++ t).take 1000 = (b ++ (s ++ t)).take 1000 := by
 rw [← List.append_assoc, List.take_append (l₁ := (b ++ s).take 1000), List.take_append (l₁ := b ++ s), List.take_take, Nat.min_self, List.length_take]
 congr 2
 omega
set_option maxRecDepth 100000 in
set_option maxHeartbeats 1000000 in
theorem whole_name (A : Told w0 w M K hp bt b) (hb : b.length ≤ 1000) (deep : Int) (n a l : Int) (s : ByteArray) (hm : mayO ⟨5, false, n, a, l, s⟩ = true) :
 Calls Tryz.prog 33 #[ptr bt, O.val ⟨5, false, n, a, l, s⟩, .int .i64 deep] w fun r w' => r = .returned (.bool (decide ((b ++ 47 :: s.toList).length < 1000))) ∧ Told w0 w' M K hp bt ((b ++ 47 :: s.toList).take 1000) := by
 have hs := mayP_name hm
 have c0 : ((⟨#[47]⟩ : ByteArray)).toList = [47] := by rw [ByteArray.toList_eq]
 go_enter Tryz.func33, Tryz.ntmps33
 go_wp2_with fail
 have A1 := A.alloc (.cells #[.int .i64 5, .bool false, .int .i64 n, .int .i64 a, .int .i64 l, .string s] 49); refine (at_tput A1 hb ⟨#[47]⟩ (by decide)).mono ?_; rintro r w1 ⟨rfl, A2⟩; rw [c0] at A2 ⊢
 have hb2 : ((b ++ [47]).take 1000).length ≤ 1000 := by rw [List.length_take]; omega
 have HA2 := hid' A2; have R2 := cells_of (A2.box _ (List.mem_cons_self ..)); have l2 := blk_lt (A2.box _ (List.mem_cons_self ..)); have AP := hid' (at_tput A2 hb2 s (by omega)); rw [take_take_app, List.singleton_append] at AP
 have ef : (b ++ 47 :: s.toList).length = (b ++ [47]).length + s.toList.length := by simp; omega
 simp only at R2 l2; clear A A1 A2 hm
 by_cases c : (b ++ [47]).length < 1000
 · have e1 : decide ((b ++ [47]).length < 1000) = true := decide_eq_true c
   have e2 : (decide (((b ++ [47]).take 1000 ++ s.toList).length < 1000)) = decide ((b ++ 47 :: s.toList).length < 1000) := by
    rw [List.take_of_length_le (by omega), List.append_assoc]; rfl
   rw [e1]; rw [e2] at AP
   obtain ⟨R, hR⟩ : ∃ R, decide ((b ++ 47 :: s.toList).length < 1000) = R := ⟨_, rfl⟩
   rw [hR] at AP; have HR := hid' hR; clear hR e2 ef; go_wp2_with fail
   refine AP.out.mono ?_; rintro r w2 ⟨rfl, A3⟩; go_wp2_with fail
   go_ret; rw [HR.out]; exact ⟨rfl, A3.lose⟩
 · have e1 : decide ((b ++ [47]).length < 1000) = false := decide_eq_false c; have e2 : decide ((b ++ 47 :: s.toList).length < 1000) = false := decide_eq_false (by omega)
   have e3 : (b ++ 47 :: s.toList).take 1000 = (b ++ [47]).take 1000 := by
    rw [show b ++ 47 :: s.toList = (b ++ [47]) ++ s.toList by simp, List.take_append_of_le_length (by omega)]
   rw [e1]; have E2 := hid' e2; have E3 := hid' e3; clear e2 e3 ef; go_wp2_with fail
   go_ret; rw [E2.out, E3.out]; exact ⟨rfl, HA2.out.lose⟩
def TellS (w0 : World) (M : List (Nat × List C)) (K : List (Nat × Obj)) (hp bt : Nat) (W : World) : Prop := ∃ b, Told w0 W M K hp bt b
theorem TellS.drew {W : World} (h : TellS w0 M K hp bt W) : TellS w0 M K hp bt W.drew := by
 obtain ⟨b, h⟩ := h; exact ⟨b, h.pure (Chg.refl NoB W).drew⟩
theorem TellS.tell (W : World) (h : TellS w0 M K hp bt W) : W.cell? ⟨bt, 0, none⟩ = some (ptr hp) := by
 obtain ⟨b, h⟩ := h; exact h.tell
theorem TellS.cells {g : Nat} {cs : Array Value} {T : TypeId} {fz : Nat × Nat} (W : World) (h : TellS w0 M ((g, .cells cs T fz) :: K) hp bt W) (i : Nat) : W.cell? ⟨g, i, none⟩ = cs[i]? := by
 obtain ⟨b, h⟩ := h; exact cells_of (h.box _ (List.mem_cons_self ..)) i
set_option maxRecDepth 100000 in
set_option maxHeartbeats 1000000 in
theorem whole_leaf (A : Told w0 w M K hp bt b) (hb : b.length ≤ 1000) (deep : Int) (o : O) (hm : mayO o = true) (hk : o.kind = 1 ∨ o.kind = 3 ∨ o.kind = 6 ∨ (o.kind = 5 ∧ o.exec = true)) :
 Calls Tryz.prog 33 #[ptr bt, o.val, .int .i64 deep] w fun r w' => r = .returned (.bool (decide ((b ++ (plainB o).toList).length < 1000))) ∧ Told w0 w' M K hp bt ((b ++ (plainB o).toList).take 1000) := by
 have hpk : plainK o := by unfold plainK; rcases hk with h | h | h | h <;> simp_all
 have hsz := plainB_size o hm hpk; have HP := fun w => plain_any o hp hm hpk w; generalize plainB o = T at *
 obtain ⟨R, hR⟩ : ∃ R, decide ((b ++ T.toList).length < 1000) = R := ⟨_, rfl⟩
 obtain ⟨k, ex, n, a, l, s⟩ := o; have HPL := hid' HP; have HR := hid' hR; clear HP hpk hm hR; have A1 := A.alloc (.cells #[.int .i64 k, .bool ex, .int .i64 n, .int .i64 a, .int .i64 l, .string s] 49); have l1 := blk_lt (A1.box _ (List.mem_cons_self ..)); have RC := fun W => TellS.cells (w0 := w0) (M := M) (K := K) (hp := hp) (bt := bt) (g := w.heap.size) (cs := #[.int .i64 k, .bool ex, .int .i64 n, .int .i64 a, .int .i64 l, .string s]) (T := 49) (fz := (0, 0)) W; have LS := hid' (fun W b => Told.lose (w0 := w0) (w := W) (M := M) (K := K) (hp := hp) (bt := bt) (b := b) (q := (w.heap.size, .cells #[.int .i64 k, .bool ex, .int .i64 n, .int .i64 a, .int .i64 l, .string s] 49))); generalize ((w.heap.size, Obj.cells #[.int .i64 k, .bool ex, .int .i64 n, .int .i64 a, .int .i64 l, .string s] 49) :: K : List (Nat × Obj)) = K' at *
 have FIN : Hid (∀ (w2 : World) (A2 : Told w0 w2 M K' hp bt b),
  Calls Tryz.prog 53 #[ptr bt, .string T] w2 fun r w' => r = .returned (.bool R) ∧ Told w0 w' M K' hp bt ((b ++ T.toList).take 1000)) := hid' (fun w2 A2 => by
  have := at_tput A2 hb T hsz
  rwa [HR.out] at this)
 have HA := hid' A1
 have S0 : TellS w0 M K' hp bt (w.alloc (.cells #[.int .i64 k, .bool ex, .int .i64 n, .int .i64 a, .int .i64 l, .string s] 49)) := ⟨_, A1⟩
 have RT := fun W => TellS.tell (w0 := w0) (M := M) (K := K') (hp := hp) (bt := bt) W; simp only at l1; clear A A1
 rcases hk with hk | hk | hk | ⟨hk, hx⟩
 all_goals
  simp only at hk; subst hk
  try (simp only at hx; subst hx)
  go_enter Tryz.func33, Tryz.ntmps33
  go_wp2_with fail
  generalize hW : w.alloc _ = w1 at *; clear hW; generalize w.heap.size = g at *
  go_region_held3 (fun W' => TellS w0 M K' hp bt W') (first | assumption | (exact TellS.drew (by assumption)) | (exact ⟨_, by assumption⟩))
   (first | (go_at_call 55; refine (HPL.out _).mono ?_; rintro r w4 ⟨rfl, X4⟩; have A4 := HA.out.pure ((Chg.refl NoB w1).drew.trans X4)) | (go_at_call 53; refine (FIN.out _ A4).mono ?_; rintro r w5 ⟨rfl, A5⟩))
  go_wp2_with fail
  go_ret; rw [HR.out]; exact ⟨rfl, LS.out _ _ A5⟩
def jn (T : O → List UInt8) (l : List O) : Nat → List UInt8
 | 0 => []
 | i + 1 => jn T l i ++ ((if i = 0 then [] else [32]) ++ T (l.getD i O.nil))
def arrT (ex : Bool) (T : O → List UInt8) (l : List O) : List UInt8 := (if ex then 123 else 91) :: (jn T l l.length ++ [if ex then 125 else 93])
theorem jn_pre (T : O → List UInt8) (l : List O) (i j : Nat) (h : i ≤ j) : ∃ r, jn T l j = jn T l i ++ r := by
 induction j with
 | zero => exact ⟨[], by rw [show i = 0 by omega]; simp⟩
 | succ j ih =>
  by_cases e : i = j + 1
  · subst e; exact ⟨[], by simp⟩
  · obtain ⟨r, hr⟩ := ih (by omega); exact ⟨_, by rw [jn, hr, List.append_assoc]⟩
theorem cut_pre (u r : List UInt8) (h : ¬ u.length < 1000) : (u ++ r).take 1000 = u.take 1000 ∧ decide ((u ++ r).length < 1000) = false := by
 refine ⟨List.take_append_of_le_length (by omega), decide_eq_false ?_⟩; rw [List.length_append]; omega
theorem Told.items_perm {q : Nat × Obj} {R : List (Nat × Obj)} (A : Ats w0 w M (q :: (bt, tlBox hp v) :: (R ++ K))) : Ats w0 w M ((bt, tlBox hp v) :: (R ++ q :: K)) :=
 A.perm ((List.Perm.swap _ _ _).trans ((List.perm_middle).symm.cons _))
theorem cell_lt' {a : Addr} (h : w.cell? a = some v) : a.block < w.heap.size := by
 apply Classical.byContradiction
 intro hn; have : w.heap[a.block]? = none := Array.getElem?_eq_none (by omega); simp [World.cell?, this] at h
theorem at_titems (A : Told w0 w M K hp bt b) {H : List C} (hm : (hp, H) ∈ M) (o : O) {l : List O} (hr : itemsH H o = (l, 0)) (hl : 0 < l.length) :
 Calls Tryz.prog 56 #[ptr hp, o.val] w fun r w' => ∃ g cap cur fz, r = .returned (.tuple #[.slice (some ⟨g, 0, none⟩) l.length cap, .int .i64 0]) ∧ l.length ≤ cap ∧ Told w0 w' M ((g, .cells cur 49 fz) :: K) hp bt b ∧
  ∀ i, i < l.length * 6 → cur[i]? = (l.flatMap O.cells)[i]? := by
 obtain ⟨v, R, h, A⟩ := A; refine (at_items A o hr hl hm).mono ?_; rintro r w' ⟨g, cap, cur, fz, rfl, hc, A', hcur⟩; exact ⟨g, cap, cur, fz, rfl, hc, ⟨v, R, h, Told.items_perm A'⟩, hcur⟩
set_option maxRecDepth 100000 in
set_option maxHeartbeats 2000000 in
theorem whole_deep (A : Told w0 w M K hp bt b) (hb : b.length ≤ 1000) {H : List C} (hM : (hp, H) ∈ M) (ex : Bool) (n a l : Int) (s : ByteArray) (hm : mayO ⟨9, ex, n, a, l, s⟩ = true)
 {it : List O} (hr : itemsH H ⟨9, ex, n, a, l, s⟩ = (it, 0)) (hl : 0 < it.length) :
 Calls Tryz.prog 33 #[ptr bt, O.val ⟨9, ex, n, a, l, s⟩, .int .i64 20] w fun r w' => r = .returned (.bool (decide ((b ++ (plainB ⟨9, ex, n, a, l, s⟩).toList).length < 1000))) ∧ Told w0 w' M K hp bt ((b ++ (plainB ⟨9, ex, n, a, l, s⟩).toList).take 1000) := by
 have hpk : plainK ⟨9, ex, n, a, l, s⟩ := by unfold plainK; simp
 have hsz := plainB_size _ hm hpk; have HP := fun w => plain_any _ hp hm hpk w; generalize plainB ⟨9, ex, n, a, l, s⟩ = T at *
 obtain ⟨R, hR⟩ : ∃ R, decide ((b ++ T.toList).length < 1000) = R := ⟨_, rfl⟩
 have HPL := hid' HP; have HR := hid' hR; clear HP hpk hm hR; have A1 := A.alloc (.cells #[.int .i64 9, .bool ex, .int .i64 n, .int .i64 a, .int .i64 l, .string s] 49); have l1 := blk_lt (A1.box _ (List.mem_cons_self ..)); have RC := fun W => TellS.cells (w0 := w0) (M := M) (K := K) (hp := hp) (bt := bt) (g := w.heap.size) (cs := #[.int .i64 9, .bool ex, .int .i64 n, .int .i64 a, .int .i64 l, .string s]) (T := 49) (fz := (0, 0)) W; have LS := hid' (fun W b => Told.lose (w0 := w0) (w := W) (M := M) (K := K) (hp := hp) (bt := bt) (b := b) (q := (w.heap.size, .cells #[.int .i64 9, .bool ex, .int .i64 n, .int .i64 a, .int .i64 l, .string s] 49))); generalize ((w.heap.size, Obj.cells #[.int .i64 9, .bool ex, .int .i64 n, .int .i64 a, .int .i64 l, .string s] 49) :: K : List (Nat × Obj)) = K' at *
 have FIN : Hid (∀ (w2 : World) (A2 : Told w0 w2 M K' hp bt b),
  Calls Tryz.prog 53 #[ptr bt, .string T] w2 fun r w' => r = .returned (.bool R) ∧ Told w0 w' M K' hp bt ((b ++ T.toList).take 1000)) := hid' (fun w2 A2 => by
  have := at_tput A2 hb T hsz
  rwa [HR.out] at this)
 have HA := hid' A1; have HIT := hid' (fun (w2 : World) (A2 : Told w0 w2 M K' hp bt b) => at_titems A2 hM ⟨9, ex, n, a, l, s⟩ hr hl)
 have S0 : TellS w0 M K' hp bt (w.alloc (.cells #[.int .i64 9, .bool ex, .int .i64 n, .int .i64 a, .int .i64 l, .string s] 49)) := ⟨_, A1⟩
 have RT := fun W => TellS.tell (w0 := w0) (M := M) (K := K') (hp := hp) (bt := bt) W; simp only at l1; clear A A1 hr hl; go_enter Tryz.func33, Tryz.ntmps33
 go_wp2_with fail
 generalize hW : w.alloc _ = w1 at *; clear hW; generalize w.heap.size = g at *
 go_region_held3 (fun W' => TellS w0 M K' hp bt W') (first | assumption | (exact TellS.drew (by assumption)) | (exact ⟨_, by assumption⟩))
  ((go_at_call 56; refine (HIT.out _ (HA.out.pure (Chg.refl NoB w1).drew)).mono ?_; rintro r w2 ⟨gi, cap, cur, fz, rfl, hcap, A2, -⟩; have A3 := A2.lose))
 have S3 : TellS w0 M K' hp bt w2 := ⟨_, A3⟩
 have HA3 := hid' A3
 have l3 : g < w2.heap.size := by
  have := RC w2 S3 0; exact cell_lt' this
 clear A2 A3 S0 l1; go_wp2_with fail
 go_region_held3 (fun W' => TellS w0 M K' hp bt W') (first | assumption | (exact TellS.drew (by assumption)) | (exact ⟨_, by assumption⟩))
  (first | (go_at_call 55; refine (HPL.out _).mono ?_; rintro r w4 ⟨rfl, X4⟩; have A4 := HA3.out.pure ((Chg.refl NoB w2).drew.trans X4)) | (go_at_call 53; refine (FIN.out _ A4).mono ?_; rintro r w5 ⟨rfl, A5⟩))
 go_wp2_with fail
 go_ret; rw [HR.out]; exact ⟨rfl, LS.out _ _ A5⟩
set_option maxRecDepth 100000 in
set_option maxHeartbeats 4000000 in
theorem whole_arr_false (A : Told w0 w M K hp bt b) (hb : b.length ≤ 1000) {H : List C} (hM : (hp, H) ∈ M) (deep : Int) (d0 : 0 ≤ deep) (d1 : deep < 20) (n a l : Int) (s : ByteArray)
 {it : List O} (hr : itemsH H ⟨9, false, n, a, l, s⟩ = (it, 0)) (hl : 0 < it.length) (hl2 : it.length ≤ 100000) (T : O → List UInt8)
 (IH : ∀ x ∈ it, ∀ (w : World) (K : List (Nat × Obj)) (b : List UInt8), Told w0 w M K hp bt b → b.length ≤ 1000 →
  Calls Tryz.prog 33 #[ptr bt, x.val, .int .i64 (deep + 1)] w fun r w' => r = .returned (.bool (decide ((b ++ T x).length < 1000))) ∧ Told w0 w' M K hp bt ((b ++ T x).take 1000)) :
 Calls Tryz.prog 33 #[ptr bt, O.val ⟨9, false, n, a, l, s⟩, .int .i64 deep] w fun r w' => r = .returned (.bool (decide ((b ++ arrT false T it).length < 1000))) ∧ Told w0 w' M K hp bt ((b ++ arrT false T it).take 1000) := by
 have hF : ∃ U : Nat → List UInt8, (∀ i, U i = b ++ 91 :: jn T it i) := ⟨_, fun _ => rfl⟩
 obtain ⟨U, hU⟩ := hF
 have hU0 : b ++ [91] = U 0 := by rw [hU]; rfl
 have hU1 : ∀ i, U (i + 1) = U i ++ ((if i = 0 then [] else [32]) ++ T (it.getD i O.nil)) := fun i => by rw [hU, hU, jn]; simp
 have hUe : b ++ arrT false T it = U it.length ++ [93] := by rw [hU]; simp [arrT]
 have hUp : ∀ i, i ≤ it.length → ∃ r, U it.length = U i ++ r := fun i hi => by
  obtain ⟨r, hr⟩ := jn_pre T it i it.length hi; exact ⟨r, by rw [hU, hU, hr]; simp⟩
 obtain ⟨F, hF⟩ : ∃ F : List UInt8, F = U it.length ++ [93] := ⟨_, rfl⟩
 rw [hUe, ← hF]; have HF := hid' hF; have HU0 := hid' hU0; have HU1 := hid' hU1; have HUp := hid' hUp; have HIH := hid' IH; clear hU hU0 hU1 hUe hUp IH hF
 have q1 : ((⟨#[91]⟩ : ByteArray)).toList = [91] := by rw [ByteArray.toList_eq]
 have q2 : ((⟨#[93]⟩ : ByteArray)).toList = [93] := by rw [ByteArray.toList_eq]
 have q3 : ((⟨#[32]⟩ : ByteArray)).toList = [32] := by rw [ByteArray.toList_eq]
 have TK : Hid (∀ (u : List UInt8), (u.take 1000).length ≤ 1000) := hid' (fun u => by rw [List.length_take]; omega); have A1 := A.alloc (.cells #[.int .i64 9, .bool false, .int .i64 n, .int .i64 a, .int .i64 l, .string s] 49); have l1 := blk_lt (A1.box _ (List.mem_cons_self ..)); have RC := fun W => TellS.cells (w0 := w0) (M := M) (K := K) (hp := hp) (bt := bt) (g := w.heap.size) (cs := #[.int .i64 9, .bool false, .int .i64 n, .int .i64 a, .int .i64 l, .string s]) (T := 49) (fz := (0, 0)) W; have LS := hid' (fun W b => Told.lose (w0 := w0) (w := W) (M := M) (K := K) (hp := hp) (bt := bt) (b := b) (q := (w.heap.size, .cells #[.int .i64 9, .bool false, .int .i64 n, .int .i64 a, .int .i64 l, .string s] 49))); generalize ((w.heap.size, Obj.cells #[.int .i64 9, .bool false, .int .i64 n, .int .i64 a, .int .i64 l, .string s] 49) :: K : List (Nat × Obj)) = K' at *; have HA := hid' A1; have HIT := hid' (fun (w2 : World) (A2 : Told w0 w2 M K' hp bt b) => at_titems A2 hM ⟨9, false, n, a, l, s⟩ hr hl)
 have S0 : TellS w0 M K' hp bt (w.alloc (.cells #[.int .i64 9, .bool false, .int .i64 n, .int .i64 a, .int .i64 l, .string s] 49)) := ⟨_, A1⟩
 have RT := fun W => TellS.tell (w0 := w0) (M := M) (K := K') (hp := hp) (bt := bt) W; simp only at l1; clear A A1 hr; go_enter Tryz.func33, Tryz.ntmps33
 go_wp2_with fail
 generalize hW : w.alloc _ = w1 at *; clear hW; generalize w.heap.size = g at *
 go_region_held3 (fun W' => TellS w0 M K' hp bt W') (first | assumption | (exact TellS.drew (by assumption)) | (exact ⟨_, by assumption⟩))
  ((go_at_call 56; refine (HIT.out _ (HA.out.pure (Chg.refl NoB w1).drew)).mono ?_; rintro r w2 ⟨gi, cap, cur, fz, rfl, hcap, A2, hcur⟩; have A3 := A2.lose))
 have S3 : TellS w0 M K' hp bt w2 := ⟨_, A3⟩
 have HA2 := hid' A2; have HCUR := hid' hcur; have R3 := RC w2 S3; have l3 : g < w2.heap.size := cell_lt' (R3 0); have P1 := hid' (at_tput A2 hb ⟨#[91]⟩ (by decide)); rw [q1, HU0.out] at P1; clear A2 A3 S0 l1 S3 hcur RT; go_wp2_with fail
 refine P1.out.mono ?_; rintro r w3 ⟨rfl, A4⟩; have HA4 := hid' A4
 obtain ⟨ok0, hk0⟩ : ∃ ok, decide ((U 0).length < 1000) = ok := ⟨_, rfl⟩
 have HK0 := hid' hk0; rw [hk0]; clear A4 hk0 R3 l3 RC
 have hcap' : (it.length : Int) ≤ cap := by omega
 have hln : (it.length : Int) ≤ 100000 := by omega
 go_wp2_with fail
 go_loopw [12, 13] (fun kv iv wr => ∃ i : Nat, i ≤ it.length ∧ iv = .int .i64 i ∧ kv = .bool (decide ((U i).length < 1000)) ∧ Told w0 wr M ((gi, .cells cur 49 fz) :: K') hp bt ((U i).take 1000)) (fun _ iv _ => it.length - (intOf iv).toNat)
 case atStart => exact ⟨0, Nat.zero_le _, rfl, by rw [HK0.out], HA4.out⟩
 case round =>
  obtain ⟨i, hi, rfl, rfl, A5⟩ := hrel; have HA5 := hid' A5
  by_cases ck : (U i).length < 1000
  rotate_left
  · have e1 : decide ((U i).length < 1000) = false := decide_eq_false ck
    have e2 : F.take 1000 = (U i).take 1000 ∧ decide (F.length < 1000) = false := by
     obtain ⟨r, hr⟩ := HUp.out i hi; rw [HF.out, hr, List.append_assoc]; exact cut_pre _ _ ck
    have HE2 := hid' e2; rw [e1]; clear e1 e2 A5 ck
    by_cases hlt : i < it.length
    · have hlt' : (i : Int) < it.length := by omega
      go_wp2_with fail
      go_ret; rw [HE2.out.1, HE2.out.2]; exact ⟨rfl, LS.out _ _ HA5.out.lose⟩
    · have hlt' : ¬ (i : Int) < it.length := by omega
      go_wp2_with fail
      go_ret; rw [HE2.out.1, HE2.out.2]; exact ⟨rfl, LS.out _ _ HA5.out.lose⟩
  have e1 : decide ((U i).length < 1000) = true := decide_eq_true ck; have e1' : (U i).take 1000 = U i := List.take_of_length_le (by omega); rw [e1]; rw [e1'] at A5 HA5
  by_cases hlt : i < it.length
  rotate_left
  · obtain rfl : i = it.length := by omega
    have P2 := at_tput A5 (by omega) ⟨#[93]⟩ (by decide); rw [q2, ← HF.out] at P2
    obtain ⟨R, hR⟩ : ∃ R, decide (F.length < 1000) = R := ⟨_, rfl⟩
    rw [hR] at P2; have HR := hid' hR; have HP2 := hid' P2; clear e1 e1' A5 hR P2 ck; go_wp2_with fail
    refine HP2.out.mono ?_; rintro r w4 ⟨rfl, A6⟩; go_wp2_with fail
    go_ret; rw [HR.out]; exact ⟨rfl, LS.out _ _ A6.lose⟩
  have hlt' : (i : Int) < it.length := by omega
  have h0i : (0 : Int) ≤ i := by omega
  obtain ⟨x, hx⟩ : ∃ x, it[i]? = some x := ⟨it[i], List.getElem?_eq_getElem hlt⟩
  have hgd : it.getD i O.nil = x := by rw [List.getD_eq_getElem?_getD, hx]; rfl
  have hxm := List.mem_of_getElem? hx; have hUx := HU1.out i; rw [hgd] at hUx; obtain ⟨m1, m2, m3, m4, m5, m6⟩ := row_item HCUR.out hx; have HI := hid' (HIH.out x hxm); obtain ⟨xk, xe, xn, xa, xl, xs⟩ := x
  by_cases i0 : i = 0
  · subst i0; rw [if_pos rfl, List.nil_append] at hUx; have P3 := HI.out wr _ (U 0) A5 (by omega); rw [← hUx] at P3
    obtain ⟨R, hR⟩ : ∃ R, decide ((U (0 + 1)).length < 1000) = R := ⟨_, rfl⟩
    rw [hR] at P3; have HR := hid' hR; have HP3 := hid' P3; have R5 := cells_of (A5.box _ (List.mem_cons_self ..)); have l5 := blk_lt (A5.box _ (List.mem_cons_self ..)); simp only [Nat.zero_mul, Nat.zero_add] at m1 m2 m3 m4 m5 m6 R5 l5; have hd := IntWalk.i64_in (deep + 1) (by omega); clear e1 e1' hx hgd hxm hUx A5 hR P3 ck; go_wp2_with fail
    refine HP3.out.mono ?_; rintro r w4 ⟨rfl, A6⟩; go_wp2_with fail
    go_roundw
    case rel => exact ⟨0 + 1, by omega, by go_num, by rw [HR.out], A6⟩
    case measure => simp [intOf]; omega
  · have hi0 : ¬ (i : Int) = 0 := by omega
    rw [if_neg i0] at hUx; have P3 := at_tput A5 (by omega) ⟨#[32]⟩ (by decide); rw [q3] at P3
    obtain ⟨V, hV⟩ : ∃ V : List UInt8, V = U i ++ [32] := ⟨_, rfl⟩
    have e3 : U (i + 1) = V ++ T ⟨xk, xe, xn, xa, xl, xs⟩ := by rw [hUx, hV, List.append_assoc]
    rw [← hV] at P3
    by_cases cv : V.length < 1000
    · have e4 : decide (V.length < 1000) = true := decide_eq_true cv; have e5 : V.take 1000 = V := List.take_of_length_le (by omega); rw [e4, e5] at P3; have HP3 := hid' P3
      obtain ⟨R, hR⟩ : ∃ R, decide ((U (i + 1)).length < 1000) = R := ⟨_, rfl⟩
      have HR := hid' hR
      have HI2 : Hid (∀ (w : World), Told w0 w M ((gi, .cells cur 49 fz) :: K') hp bt V → Calls Tryz.prog 33 #[ptr bt, O.val ⟨xk, xe, xn, xa, xl, xs⟩, .int .i64 (deep + 1)] w fun r w' => r = .returned (.bool R) ∧ Told w0 w' M ((gi, .cells cur 49 fz) :: K') hp bt ((U (i + 1)).take 1000)) := hid' (fun w h => by
       have := HI.out w _ V h (by omega)
       rwa [← e3, hR] at this)
      have l5 := blk_lt (A5.box _ (List.mem_cons_self ..)); have hd := IntWalk.i64_in (deep + 1) (by omega); simp only at l5 m1 m2 m3 m4 m5 m6; clear e1 e1' hgd hxm hUx A5 P3 hx hR e3 e4 e5 cv hV ck; go_wp2_with fail
      refine HP3.out.mono ?_; rintro r w4 ⟨rfl, A6⟩; have HA6 := hid' A6; have R5 := cells_of (A6.box _ (List.mem_cons_self ..)); have l6 := blk_lt (A6.box _ (List.mem_cons_self ..)); simp only at R5 l6; clear A6; go_wp2_with fail
      refine (HI2.out _ HA6.out).mono ?_; rintro r w5 ⟨rfl, A7⟩; go_wp2_with fail
      go_roundw
      case rel => exact ⟨i + 1, by omega, by go_num, by rw [HR.out], A7⟩
      case measure => simp [intOf]; omega
    · have e4 : decide (V.length < 1000) = false := decide_eq_false cv; have e5 := cut_pre V (T ⟨xk, xe, xn, xa, xl, xs⟩) cv; rw [← e3] at e5; rw [e4, ← e5.1] at P3; have HP3 := hid' P3; have HE5 := hid' e5.2; clear e1 e1' hgd hxm hUx A5 P3 hx e3 e4 e5 cv hV ck; go_wp2_with fail
      refine HP3.out.mono ?_; rintro r w4 ⟨rfl, A6⟩; go_wp2_with fail
      go_roundw
      case rel => exact ⟨i + 1, by omega, by go_num, by rw [HE5.out], A6⟩
      case measure => simp [intOf]; omega
set_option maxRecDepth 100000 in
set_option maxHeartbeats 4000000 in
theorem whole_arr_true (A : Told w0 w M K hp bt b) (hb : b.length ≤ 1000) {H : List C} (hM : (hp, H) ∈ M) (deep : Int) (d0 : 0 ≤ deep) (d1 : deep < 20) (n a l : Int) (s : ByteArray)
 {it : List O} (hr : itemsH H ⟨9, true, n, a, l, s⟩ = (it, 0)) (hl : 0 < it.length) (hl2 : it.length ≤ 100000) (T : O → List UInt8)
 (IH : ∀ x ∈ it, ∀ (w : World) (K : List (Nat × Obj)) (b : List UInt8), Told w0 w M K hp bt b → b.length ≤ 1000 →
  Calls Tryz.prog 33 #[ptr bt, x.val, .int .i64 (deep + 1)] w fun r w' => r = .returned (.bool (decide ((b ++ T x).length < 1000))) ∧ Told w0 w' M K hp bt ((b ++ T x).take 1000)) :
 Calls Tryz.prog 33 #[ptr bt, O.val ⟨9, true, n, a, l, s⟩, .int .i64 deep] w fun r w' => r = .returned (.bool (decide ((b ++ arrT true T it).length < 1000))) ∧ Told w0 w' M K hp bt ((b ++ arrT true T it).take 1000) := by
 have hF : ∃ U : Nat → List UInt8, (∀ i, U i = b ++ 123 :: jn T it i) := ⟨_, fun _ => rfl⟩
 obtain ⟨U, hU⟩ := hF
 have hU0 : b ++ [123] = U 0 := by rw [hU]; rfl
 have hU1 : ∀ i, U (i + 1) = U i ++ ((if i = 0 then [] else [32]) ++ T (it.getD i O.nil)) := fun i => by rw [hU, hU, jn]; simp
 have hUe : b ++ arrT true T it = U it.length ++ [125] := by rw [hU]; simp [arrT]
 have hUp : ∀ i, i ≤ it.length → ∃ r, U it.length = U i ++ r := fun i hi => by
  obtain ⟨r, hr⟩ := jn_pre T it i it.length hi; exact ⟨r, by rw [hU, hU, hr]; simp⟩
 obtain ⟨F, hF⟩ : ∃ F : List UInt8, F = U it.length ++ [125] := ⟨_, rfl⟩
 rw [hUe, ← hF]; have HF := hid' hF; have HU0 := hid' hU0; have HU1 := hid' hU1; have HUp := hid' hUp; have HIH := hid' IH; clear hU hU0 hU1 hUe hUp IH hF
 have q1 : ((⟨#[123]⟩ : ByteArray)).toList = [123] := by rw [ByteArray.toList_eq]
 have q2 : ((⟨#[125]⟩ : ByteArray)).toList = [125] := by rw [ByteArray.toList_eq]
 have q3 : ((⟨#[32]⟩ : ByteArray)).toList = [32] := by rw [ByteArray.toList_eq]
 have TK : Hid (∀ (u : List UInt8), (u.take 1000).length ≤ 1000) := hid' (fun u => by rw [List.length_take]; omega); have A1 := A.alloc (.cells #[.int .i64 9, .bool true, .int .i64 n, .int .i64 a, .int .i64 l, .string s] 49); have l1 := blk_lt (A1.box _ (List.mem_cons_self ..)); have RC := fun W => TellS.cells (w0 := w0) (M := M) (K := K) (hp := hp) (bt := bt) (g := w.heap.size) (cs := #[.int .i64 9, .bool true, .int .i64 n, .int .i64 a, .int .i64 l, .string s]) (T := 49) (fz := (0, 0)) W; have LS := hid' (fun W b => Told.lose (w0 := w0) (w := W) (M := M) (K := K) (hp := hp) (bt := bt) (b := b) (q := (w.heap.size, .cells #[.int .i64 9, .bool true, .int .i64 n, .int .i64 a, .int .i64 l, .string s] 49))); generalize ((w.heap.size, Obj.cells #[.int .i64 9, .bool true, .int .i64 n, .int .i64 a, .int .i64 l, .string s] 49) :: K : List (Nat × Obj)) = K' at *; have HA := hid' A1; have HIT := hid' (fun (w2 : World) (A2 : Told w0 w2 M K' hp bt b) => at_titems A2 hM ⟨9, true, n, a, l, s⟩ hr hl)
 have S0 : TellS w0 M K' hp bt (w.alloc (.cells #[.int .i64 9, .bool true, .int .i64 n, .int .i64 a, .int .i64 l, .string s] 49)) := ⟨_, A1⟩
 have RT := fun W => TellS.tell (w0 := w0) (M := M) (K := K') (hp := hp) (bt := bt) W; simp only at l1; clear A A1 hr; go_enter Tryz.func33, Tryz.ntmps33
 go_wp2_with fail
 generalize hW : w.alloc _ = w1 at *; clear hW; generalize w.heap.size = g at *
 go_region_held3 (fun W' => TellS w0 M K' hp bt W') (first | assumption | (exact TellS.drew (by assumption)) | (exact ⟨_, by assumption⟩))
  ((go_at_call 56; refine (HIT.out _ (HA.out.pure (Chg.refl NoB w1).drew)).mono ?_; rintro r w2 ⟨gi, cap, cur, fz, rfl, hcap, A2, hcur⟩; have A3 := A2.lose))
 have S3 : TellS w0 M K' hp bt w2 := ⟨_, A3⟩
 have HA2 := hid' A2; have HCUR := hid' hcur; have R3 := RC w2 S3; have l3 : g < w2.heap.size := cell_lt' (R3 0); have P1 := hid' (at_tput A2 hb ⟨#[123]⟩ (by decide)); rw [q1, HU0.out] at P1; clear A2 A3 S0 l1 S3 hcur RT; go_wp2_with fail
 refine P1.out.mono ?_; rintro r w3 ⟨rfl, A4⟩; have HA4 := hid' A4
 obtain ⟨ok0, hk0⟩ : ∃ ok, decide ((U 0).length < 1000) = ok := ⟨_, rfl⟩
 have HK0 := hid' hk0; rw [hk0]; clear A4 hk0 R3 l3 RC
 have hcap' : (it.length : Int) ≤ cap := by omega
 have hln : (it.length : Int) ≤ 100000 := by omega
 go_wp2_with fail
 go_loopw [12, 13] (fun kv iv wr => ∃ i : Nat, i ≤ it.length ∧ iv = .int .i64 i ∧ kv = .bool (decide ((U i).length < 1000)) ∧ Told w0 wr M ((gi, .cells cur 49 fz) :: K') hp bt ((U i).take 1000)) (fun _ iv _ => it.length - (intOf iv).toNat)
 case atStart => exact ⟨0, Nat.zero_le _, rfl, by rw [HK0.out], HA4.out⟩
 case round =>
  obtain ⟨i, hi, rfl, rfl, A5⟩ := hrel; have HA5 := hid' A5
  by_cases ck : (U i).length < 1000
  rotate_left
  · have e1 : decide ((U i).length < 1000) = false := decide_eq_false ck
    have e2 : F.take 1000 = (U i).take 1000 ∧ decide (F.length < 1000) = false := by
     obtain ⟨r, hr⟩ := HUp.out i hi; rw [HF.out, hr, List.append_assoc]; exact cut_pre _ _ ck
    have HE2 := hid' e2; rw [e1]; clear e1 e2 A5 ck
    by_cases hlt : i < it.length
    · have hlt' : (i : Int) < it.length := by omega
      go_wp2_with fail
      go_ret; rw [HE2.out.1, HE2.out.2]; exact ⟨rfl, LS.out _ _ HA5.out.lose⟩
    · have hlt' : ¬ (i : Int) < it.length := by omega
      go_wp2_with fail
      go_ret; rw [HE2.out.1, HE2.out.2]; exact ⟨rfl, LS.out _ _ HA5.out.lose⟩
  have e1 : decide ((U i).length < 1000) = true := decide_eq_true ck; have e1' : (U i).take 1000 = U i := List.take_of_length_le (by omega); rw [e1]; rw [e1'] at A5 HA5
  by_cases hlt : i < it.length
  rotate_left
  · obtain rfl : i = it.length := by omega
    have P2 := at_tput A5 (by omega) ⟨#[125]⟩ (by decide); rw [q2, ← HF.out] at P2
    obtain ⟨R, hR⟩ : ∃ R, decide (F.length < 1000) = R := ⟨_, rfl⟩
    rw [hR] at P2; have HR := hid' hR; have HP2 := hid' P2; clear e1 e1' A5 hR P2 ck; go_wp2_with fail
    refine HP2.out.mono ?_; rintro r w4 ⟨rfl, A6⟩; go_wp2_with fail
    go_ret; rw [HR.out]; exact ⟨rfl, LS.out _ _ A6.lose⟩
  have hlt' : (i : Int) < it.length := by omega
  have h0i : (0 : Int) ≤ i := by omega
  obtain ⟨x, hx⟩ : ∃ x, it[i]? = some x := ⟨it[i], List.getElem?_eq_getElem hlt⟩
  have hgd : it.getD i O.nil = x := by rw [List.getD_eq_getElem?_getD, hx]; rfl
  have hxm := List.mem_of_getElem? hx; have hUx := HU1.out i; rw [hgd] at hUx; obtain ⟨m1, m2, m3, m4, m5, m6⟩ := row_item HCUR.out hx; have HI := hid' (HIH.out x hxm); obtain ⟨xk, xe, xn, xa, xl, xs⟩ := x
  by_cases i0 : i = 0
  · subst i0; rw [if_pos rfl, List.nil_append] at hUx; have P3 := HI.out wr _ (U 0) A5 (by omega); rw [← hUx] at P3
    obtain ⟨R, hR⟩ : ∃ R, decide ((U (0 + 1)).length < 1000) = R := ⟨_, rfl⟩
    rw [hR] at P3; have HR := hid' hR; have HP3 := hid' P3; have R5 := cells_of (A5.box _ (List.mem_cons_self ..)); have l5 := blk_lt (A5.box _ (List.mem_cons_self ..)); simp only [Nat.zero_mul, Nat.zero_add] at m1 m2 m3 m4 m5 m6 R5 l5; have hd := IntWalk.i64_in (deep + 1) (by omega); clear e1 e1' hx hgd hxm hUx A5 hR P3 ck; go_wp2_with fail
    refine HP3.out.mono ?_; rintro r w4 ⟨rfl, A6⟩; go_wp2_with fail
    go_roundw
    case rel => exact ⟨0 + 1, by omega, by go_num, by rw [HR.out], A6⟩
    case measure => simp [intOf]; omega
  · have hi0 : ¬ (i : Int) = 0 := by omega
    rw [if_neg i0] at hUx; have P3 := at_tput A5 (by omega) ⟨#[32]⟩ (by decide); rw [q3] at P3
    obtain ⟨V, hV⟩ : ∃ V : List UInt8, V = U i ++ [32] := ⟨_, rfl⟩
    have e3 : U (i + 1) = V ++ T ⟨xk, xe, xn, xa, xl, xs⟩ := by rw [hUx, hV, List.append_assoc]
    rw [← hV] at P3
    by_cases cv : V.length < 1000
    · have e4 : decide (V.length < 1000) = true := decide_eq_true cv; have e5 : V.take 1000 = V := List.take_of_length_le (by omega); rw [e4, e5] at P3; have HP3 := hid' P3
      obtain ⟨R, hR⟩ : ∃ R, decide ((U (i + 1)).length < 1000) = R := ⟨_, rfl⟩
      have HR := hid' hR
      have HI2 : Hid (∀ (w : World), Told w0 w M ((gi, .cells cur 49 fz) :: K') hp bt V → Calls Tryz.prog 33 #[ptr bt, O.val ⟨xk, xe, xn, xa, xl, xs⟩, .int .i64 (deep + 1)] w fun r w' => r = .returned (.bool R) ∧ Told w0 w' M ((gi, .cells cur 49 fz) :: K') hp bt ((U (i + 1)).take 1000)) := hid' (fun w h => by
       have := HI.out w _ V h (by omega)
       rwa [← e3, hR] at this)
      have l5 := blk_lt (A5.box _ (List.mem_cons_self ..)); have hd := IntWalk.i64_in (deep + 1) (by omega); simp only at l5 m1 m2 m3 m4 m5 m6; clear e1 e1' hgd hxm hUx A5 P3 hx hR e3 e4 e5 cv hV ck; go_wp2_with fail
      refine HP3.out.mono ?_; rintro r w4 ⟨rfl, A6⟩; have HA6 := hid' A6; have R5 := cells_of (A6.box _ (List.mem_cons_self ..)); have l6 := blk_lt (A6.box _ (List.mem_cons_self ..)); simp only at R5 l6; clear A6; go_wp2_with fail
      refine (HI2.out _ HA6.out).mono ?_; rintro r w5 ⟨rfl, A7⟩; go_wp2_with fail
      go_roundw
      case rel => exact ⟨i + 1, by omega, by go_num, by rw [HR.out], A7⟩
      case measure => simp [intOf]; omega
    · have e4 : decide (V.length < 1000) = false := decide_eq_false cv; have e5 := cut_pre V (T ⟨xk, xe, xn, xa, xl, xs⟩) cv; rw [← e3] at e5; rw [e4, ← e5.1] at P3; have HP3 := hid' P3; have HE5 := hid' e5.2; clear e1 e1' hgd hxm hUx A5 P3 hx e3 e4 e5 cv hV ck; go_wp2_with fail
      refine HP3.out.mono ?_; rintro r w4 ⟨rfl, A6⟩; go_wp2_with fail
      go_roundw
      case rel => exact ⟨i + 1, by omega, by go_num, by rw [HE5.out], A6⟩
      case measure => simp [intOf]; omega
def sayT (H : List C) : Nat → O → List UInt8
 | 0, o => leafT o
 | d + 1, o => if o.kind = 9 then arrT o.exec (sayT H d) (itemsH H o).1 else leafT o
def SayG (H : List C) : Nat → O → Prop
 | 0, o => mayO o = true ∧ plainK o ∧ (o.kind = 9 → (itemsH H o).2 = 0 ∧ 0 < (itemsH H o).1.length)
 | d + 1, o => mayO o = true ∧ plainK o ∧ (o.kind = 9 → (itemsH H o).2 = 0 ∧ 0 < (itemsH H o).1.length ∧ (itemsH H o).1.length ≤ 100000 ∧ ∀ x ∈ (itemsH H o).1, SayG H d x)
theorem whole_no9 (A : Told w0 w M K hp bt b) (hb : b.length ≤ 1000) (deep : Int) (o : O) (hm : mayO o = true) (hk : plainK o) (h9 : ¬ o.kind = 9) :
 Calls Tryz.prog 33 #[ptr bt, o.val, .int .i64 deep] w fun r w' => r = .returned (.bool (decide ((b ++ leafT o).length < 1000))) ∧ Told w0 w' M K hp bt ((b ++ leafT o).take 1000) := by
 unfold leafT
 by_cases c : o.kind = 5 ∧ o.exec = false
 · rw [if_pos c]; obtain ⟨k, ex, n, a, l, s⟩ := o; obtain ⟨c1, c2⟩ := c; simp only at c1 c2; subst c1 c2; exact whole_name A hb deep n a l s hm
 · rw [if_neg c]; refine whole_leaf A hb deep o hm ?_
   rcases hk with h | h | h | h | h
   · exact .inl h
   · exact .inr (.inl h)
   · refine .inr (.inr (.inr ⟨h, ?_⟩))
     cases he : o.exec with
     | true => rfl
     | false => exact absurd ⟨h, he⟩ c
   · exact .inr (.inr (.inl h))
   · exact absurd h h9
theorem whole_any (hM : (hp, H) ∈ M) : ∀ (d : Nat), d ≤ 20 → ∀ (o : O), SayG H d o → ∀ (w : World) (K : List (Nat × Obj)) (b : List UInt8), Told w0 w M K hp bt b → b.length ≤ 1000 →
 Calls Tryz.prog 33 #[ptr bt, o.val, .int .i64 (20 - (d : Int))] w fun r w' => r = .returned (.bool (decide ((b ++ sayT H d o).length < 1000))) ∧ Told w0 w' M K hp bt ((b ++ sayT H d o).take 1000)
 | 0, _, o, hg, w, K, b, A, hb => by
  obtain ⟨hm, hk, h9⟩ := hg
  by_cases c : o.kind = 9
  · obtain ⟨e1, e2⟩ := h9 c
    have e3 : sayT H 0 o = (plainB o).toList := by
     unfold sayT leafT; rw [if_neg (fun e => by have := e.1; omega)]
    rw [e3]; obtain ⟨k, ex, n, a, l, s⟩ := o; simp only at c; subst c; exact whole_deep A hb hM ex n a l s hm (Prod.ext rfl e1) e2
  · exact whole_no9 A hb _ o hm hk c
 | d + 1, hd, o, hg, w, K, b, A, hb => by
  obtain ⟨hm, hk, h9⟩ := hg
  by_cases c : o.kind = 9
  · obtain ⟨e1, e2, e3, e4⟩ := h9 c
    have e5 : sayT H (d + 1) o = arrT o.exec (sayT H d) (itemsH H o).1 := by rw [sayT, if_pos c]
    rw [e5]; have ih := fun x hx => whole_any hM d (by omega) x (e4 x hx); rw [show (20 : Int) - (d : Int) = 20 - ((d + 1 : Nat) : Int) + 1 by omega] at ih; obtain ⟨k, ex, n, a, l, s⟩ := o; simp only at c; subst c
    cases ex with
    | true => exact whole_arr_true A hb hM _ (by omega) (by omega) n a l s (Prod.ext rfl e1) e2 e3 (sayT H d) ih
    | false => exact whole_arr_false A hb hM _ (by omega) (by omega) n a l s (Prod.ext rfl e1) e2 e3 (sayT H d) ih
  · have e5 : sayT H (d + 1) o = leafT o := by rw [sayT, if_neg c]
    rw [e5]; exact whole_no9 A hb _ o hm hk c
theorem own_strF {B : Nat} (h : w.ownsRow B 5 1 v b.length (b.map vu8)) : (convert 59 9 v).run Tryz.prog w = .ok (.string ⟨b.toArray⟩) w := by
 have hc : (convert 59 9 v).run Tryz.prog w = (Conv.bytesToString v).run Tryz.prog w := by
  obtain ⟨a, c, rfl, -⟩ := own_val h
  cases a <;> simp only [convert, Sem.run_bind, run_underlying nt_underStr, run_underlying nt_under, run_underlying nt_underByte, Result.andThen_ok]
 rw [hc]
 rcases h.2 with ⟨rfl, h0⟩ | ⟨g, cap, cur, rfl, h1, h2, h3, h4, h5, h6⟩
 · obtain rfl : b = [] := List.eq_nil_of_length_eq_zero h0; simp [Conv.bytesToString]; rfl
 · exact bytesToString_T Tryz.prog w ⟨g, 0, none⟩ b cap (fun i hi => by
    rw [add_z, cells_of h2 i, ← Array.getElem?_toList]
    have : cur.toList[i]? = (cur.toList.take (b.length * 1))[i]? := by rw [List.getElem?_take, if_pos (by omega)]
    rw [this, h6]
    simp [hi])
set_option maxRecDepth 100000 in
set_option maxHeartbeats 1000000 in
theorem at_full (A : Ats w0 w M K) (hM : (hp, H) ∈ M) (o : O) (hg : SayG H 20 o) :
 Calls Tryz.prog 18 #[ptr hp, o.val] w fun r w' => r = .returned (.string ⟨((sayT H 20 o).take 1000).toArray⟩) ∧ Ats w0 w' M K := by
 have HW := fun w K bt b (A : Told w0 w M K hp bt b) hb => whole_any (w0 := w0) (bt := bt) hM 20 (Nat.le_refl _) o hg w K b A hb; generalize sayT H 20 o = T at *; obtain ⟨k, ex, n, a, l, s⟩ := o; have A1 := A.alloc (.cells #[.int .i64 k, .bool ex, .int .i64 n, .int .i64 a, .int .i64 l, .string s] 49); have A2 := A1.alloc (.cells #[ptr hp, .slice none 0 0] 80)
 have T0 : Told w0 ((w.alloc (.cells #[.int .i64 k, .bool ex, .int .i64 n, .int .i64 a, .int .i64 l, .string s] 49)).alloc (.cells #[ptr hp, .slice none 0 0] 80)) M ((w.heap.size, .cells #[.int .i64 k, .bool ex, .int .i64 n, .int .i64 a, .int .i64 l, .string s] 49) :: K) hp (w.heap.size + 1) [] :=
  ⟨.slice none 0 0, [], .inl ⟨rfl, rfl, rfl, rfl⟩, by have h := A2; rw [show (w.alloc (.cells #[.int .i64 k, .bool ex, .int .i64 n, .int .i64 a, .int .i64 l, .string s] 49)).heap.size = w.heap.size + 1 by simp] at h; exact h⟩
 have R2 := cells_of (T0.box _ (List.mem_cons_self ..)); have l2 := blk_lt (T0.box _ (List.mem_cons_self ..)); have P := HW _ _ _ _ T0 (by simp); rw [List.nil_append, show (20 : Int) - ((20 : Nat) : Int) = 0 by omega] at P; have HP := hid' P; simp only at R2 l2; clear A A1 A2 HW T0 P; go_enter Tryz.func18, Tryz.ntmps18
 go_wp2_with fail
 refine HP.out.mono ?_; rintro r w3 ⟨rfl, A3⟩; obtain ⟨v, R, hR, A4⟩ := A3; have hv := own_strF (Ats.ownsG (A4.perm (List.perm_middle (l₁ := R) (l₂ := (w.heap.size, .cells #[.int .i64 k, .bool ex, .int .i64 n, .int .i64 a, .int .i64 l, .string s] 49) :: K) (a := (w.heap.size + 1, tlBox hp v))).symm) hR); have R4 := cells_of (A4.box _ (List.mem_cons_self ..)); have l4 := blk_lt (A4.box _ (List.mem_cons_self ..)); simp only at R4 l4; have HA := hid' A4; clear A4 hR; go_wp2_with fail
 go_ret; refine ⟨rfl, HA.out.keep ?_⟩; exact ((List.sublist_cons_self _ K).trans (List.sublist_append_right R _)).trans (List.sublist_cons_self _ _)
end Go.Proofs.YtpiomapnmempoaaGreat
