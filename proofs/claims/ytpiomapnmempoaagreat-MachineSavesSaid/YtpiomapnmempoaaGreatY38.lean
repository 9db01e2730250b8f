/- Parts of the proof: Vne, Vno, Vnj. -/
import Derived.Test.YtpiomapnmempoaaGreatY36
namespace Go.Proofs.YtpiomapnmempoaaGreat
open Go.RowKit
variable {nm : ByteArray} {e : Int} {d : O}
section
def Goes (x : MX) (F : List Fr) (z : MX) (G : List Fr) : Prop := ∀ p, ∃ k, Path p 0 20000 k x F z G
def CanS (x : MX) : Prop := x.doing = 0 ∧ 0 ≤ x.steps ∧ x.steps < x.most ∧ x.most ≤ 20000
section
variable {x y z : MX} {F G H : List Fr}
theorem Goes.nil : Goes x F x F := fun _ => ⟨0, .nil _ _⟩
theorem Goes.step (hc : CanS x) (hs : ∀ p, Mc p 29 #[ptr p.mp] (.int .i64 y.doing) x F y G) (h : Goes y G z H) : Goes x F z H := fun p => by
 obtain ⟨h0, h1, h2, h3⟩ := hc; obtain ⟨k, hk⟩ := h p; exact ⟨k + 1, .cons h0 (by omega) (by omega) (hs p) hk⟩
theorem Goes.one {F0 D : List Fr} {fr : Fr} (hc : CanS x) (hD : ∀ d ∈ D, d.done = true) (hlen : F0.length + 1 + D.length ≤ 100) (hf : fr.done = false)
 (hs : ∀ p, Mc p 45 #[ptr p.mp] (.tuple #[.string nm, .int .i64 0]) { x with steps := x.steps + 1 } (F0 ++ [fr]) y G) (h : Goes y G z H) : Goes x (F0 ++ [fr] ++ D) z H :=
 Goes.step hc (fun p => step_any (F0 ++ [fr]) D hD (by rw [List.length_append]; exact hlen) hc.1 (.inr ⟨F0, fr, nm, 0, y, G, rfl, hf, hc.2.2.1, hc.2.1, Int.le_trans hc.2.2.2 (by decide), hs p, .inl ⟨rfl, rfl, rfl⟩⟩)) h
theorem Goes.bad {F0 D G' : List Fr} {fr : Fr} {y' : MX} (hc : CanS x) (hD : ∀ d ∈ D, d.done = true) (hlen : F0.length + 1 + D.length ≤ 100) (hf : fr.done = false) (he : e ≠ 0)
 (hs : ∀ p, Mc p 45 #[ptr p.mp] (.tuple #[.string nm, .int .i64 e]) { x with steps := x.steps + 1 } (F0 ++ [fr]) y' G') (hw : ∀ p, Mc p 30 #[ptr p.mp, .int .i64 e, .string nm] (.tuple #[]) y' G' y G) (h : Goes y G z H) : Goes x (F0 ++ [fr] ++ D) z H :=
 Goes.step hc (fun p => step_any (F0 ++ [fr]) D hD (by rw [List.length_append]; exact hlen) hc.1 (.inr ⟨F0, fr, nm, e, y', G', rfl, hf, hc.2.2.1, hc.2.1, Int.le_trans hc.2.2.2 (by decide), hs p, .inr ⟨he, hw p⟩⟩)) h
theorem Goes.fin {D : List Fr} (hc : CanS x) (hD : ∀ d ∈ D, d.done = true) (hlen : D.length ≤ 100) : Goes x D { x with doing := 2, want := 0, en := 0, ew := ⟨#[]⟩ } [] :=
 Goes.step hc (fun p => step_any (z := { x with doing := 2, want := 0, en := 0, ew := ⟨#[]⟩ }) (Gz := []) [] D hD (by rw [List.length_nil, Nat.zero_add]; exact hlen) hc.1 (.inl ⟨rfl, rfl, rfl⟩)) Goes.nil
theorem Goes.lit {D : List Fr} (o : O) (i : Nat) (v : O) (hc : CanS x) (hD : ∀ d ∈ D, d.done = true) (hlen : F.length + 1 + D.length ≤ 100) (hi : (i : Int) < o.len) (hi2 : i ≤ 100000) (hg : getH x.L o i = (v, 0)) (hv : v.exec = false ∨ (v.exec = true ∧ v.kind = 9)) (hm : mayO v = true) (hl : x.l.length < 200)
 (h : Goes { x with steps := x.steps + 1, l := x.l ++ [v] } (F ++ [.body o (i + 1)]) z H) : Goes x (F ++ [.body o i] ++ D) z H :=
 Goes.one (nm := ⟨#[45]⟩) hc hD hlen (by simp [Fr.done, hi]) (fun p => one_body o v i rfl hi2 hg (.inl ⟨hv, hm, hl, rfl, rfl, rfl, rfl⟩)) h
theorem Goes.run {D : List Fr} (o : O) (i : Nat) (v : O) (hc : CanS x) (hD : ∀ d ∈ D, d.done = true) (hlen : F.length + 1 + D.length ≤ 100) (hi : (i : Int) < o.len) (hi2 : i ≤ 100000) (hg : getH x.L o i = (v, 0)) (hv : v.exec = true) (hk : v.kind ≠ 9)
 (hr : ∀ p, Mc p 73 #[ptr p.mp, v.val] (.tuple #[.string nm, .int .i64 0]) { x with steps := x.steps + 1 } (F ++ [.body o (i + 1)]) y G)
 (h : Goes y G z H) : Goes x (F ++ [.body o i] ++ D) z H :=
 Goes.one (nm := nm) hc hD hlen (by simp [Fr.done, hi]) (fun p => one_body o v i rfl hi2 hg (.inr ⟨hv, hk, hr p⟩)) h
end
section
variable {p : MP} {x y : MX} {F G : List Fr}
theorem DicAt.appX {L : List C} {N : Nat} {c : C} (D : DicAt L N c) (X : List C) : DicAt (L ++ X) N c :=
 ⟨by rw [List.getElem?_append_left D.lt]; exact D.cell, D.text, D.dict, D.free, D.room, D.place⟩
theorem x_gets (Q : List DQ) (h : OKQ Q) (n : Nat) (hn : n ≤ Q.length) (s : ByteArray) (hs : s.size ≤ 100) {w0 : World} {hp : Nat} {M : List (Nat × List C)} {X : List C} : ∀ d ∈ dsQ n, ∀ w2 K2, Ats w0 w2 ((hp, hQ Q ++ X) :: M) K2 → Calls Tryz.prog 100 #[ptr hp, d.val, (nameO s).val] w2 fun x w' => x = .returned (.tuple #[(getQ Q (nameO s) d).1.val, .int .i64 (getQ Q (nameO s) d).2]) ∧ Ats w0 w' ((hp, hQ Q ++ X) :: M) K2 := by
 intro d hd w2 K2 A; obtain ⟨i, hi, rfl⟩ := List.mem_map.1 hd; have hi2 : i < Q.length := Nat.lt_of_lt_of_le (List.mem_range.1 hi) hn; obtain ⟨D, h1, h2, h3⟩ := q_at Q h i Q[i] (List.getElem?_eq_getElem hi2)
 have e : getQ Q (nameO s) (dcn i) = match getK Q[i].1 (nameO s) with | some v => (v, 0) | none => (O.nil, 9) := by
  have hq : Q.getD i ([], 0, false) = Q[i] := by rw [List.getD_eq_getElem?_getD, List.getElem?_eq_getElem hi2]; rfl
  simp only [getQ, Int.toNat_natCast, hq]
  cases getK Q[i].1 (nameO s) <;> rfl
 rw [e]
 cases hg : getK Q[i].1 (nameO s) with
 | none => exact at_dgetK A (List.mem_cons_self ..) i _ _ (D.appX X) h1 h2 h3 (nameO s) (key_self _ s hs) O.nil 9 (.inr ⟨hg, rfl, rfl⟩)
 | some v => exact at_dgetK A (List.mem_cons_self ..) i _ _ (D.appX X) h1 h2 h3 (nameO s) (key_self _ s hs) v 0 (.inl ⟨hg, rfl⟩)
theorem ms_find {w0 w : World} {K : List (Nat × Obj)} (S : MS w0 p K x F w) (Q : List DQ) (X : List C) (n : Nat) (hL : x.L = hQ Q ++ X) (hds : x.ds = dsQ n) (h : OKQ Q) (h0 : 0 < n) (hn : n ≤ Q.length) (k : O) (s : ByteArray) (hk : keyD (hQ Q ++ X) k = (nameO s, 0)) (hs : s.size ≤ 100) {v d : O} {e : Int} (hl : lookN Q (nameO s) n = (v, d, e)) :
 Calls Tryz.prog 69 #[ptr p.cp, k.val] w fun r w' => r = .returned (.tuple #[v.val, d.val, .int .i64 e]) ∧ MS w0 p K x F w' := by
 have := S.tab (f := 69) (args := #[ptr p.cp, k.val]) (r := .tuple #[v.val, d.val, .int .i64 e]) (L' := x.L) (ds' := x.ds) (l' := x.l) fun _ K' T => T.scp fun K2 S2 => by
  rw [hL, hds] at S2 ⊢; have := scp_find S2 (List.mem_cons_self ..) (by rw [dsQ_length]; have := h.2; omega) (by rw [dsQ_length]; exact h0) k hk (getQ Q (nameO s)) (x_gets Q h n hn s hs); rw [find_look, hl] at this; exact this
 exact this
theorem run_find (Q : List DQ) (X : List C) (n : Nat) (hL : x.L = hQ Q ++ X) (hds : x.ds = dsQ n) (h : OKQ Q) (h0 : 0 < n) (hn : n ≤ Q.length) (s : ByteArray) (hs : s.size ≤ 100) {v d : O} (hl : lookN Q (nameO s) n = (v, d, 0)) {nm : ByteArray} {e : Int} (hv : v.exec = false ∨ v.kind ≠ 5)
 (HD : Mc p 101 #[ptr p.mp, v.val, .string s] (.tuple #[.string nm, .int .i64 e]) x F y G) :
 Mc p 73 #[ptr p.mp, (exeN s).val] (.tuple #[.string nm, .int .i64 e]) x F y G :=
 run_name s v d rfl hv (fun _w0 _K _w S => ms_find S Q X n hL hds h h0 hn (exeN s) s (key_name _ s true hs) hs hl) HD
theorem run_op (Q : List DQ) (X : List C) (n : Nat) (hL : x.L = hQ Q ++ X) (hds : x.ds = dsQ n) (h : OKQ Q) (h0 : 0 < n) (hn : n ≤ Q.length) (s : ByteArray) (hs : s.size ≤ 100) (k : Int) (h1 : 1 ≤ k) (h2 : k ≤ 162) {d : O} (hl : lookN Q (nameO s) n = (opO k, d, 0)) {e : Int}
 (HD : Mc p 121 #[ptr p.mp, .int .i64 k] (.int .i64 e) x F y G) :
 Mc p 73 #[ptr p.mp, (exeN s).val] (.tuple #[.string (opN k), .int .i64 e]) x F y G :=
 run_find Q X n hL hds h h0 hn s hs hl (.inr (by show (7 : Int) ≠ 5; decide)) (stands_op k e s (opN k) (fun w => name_any k h1 h2 w) HD true rfl)
end
theorem fam_of {i f : Nat} (h : (opT[i]?).map Prod.fst = some f) (w : World) : Calls Tryz.prog 131 #[.int .i64 ((i : Int) + 1)] w fun e w' => e = .returned (.int .i64 f) ∧ Chg NoB w w' := by
 cases e : opT[i]? with
 | none => simp [e] at h
 | some p => simp [e] at h; exact family_at i f p.2 (by rw [e, ← h]) w
theorem op_word (i : Nat) (fam : Nat) (bs : List UInt8) (h : opT[i]? = some (fam, bs)) : opN ((i : Int) + 1) = ⟨bs.toArray⟩ := by
 rw [opN_nat, List.getD_eq_getElem?_getD, List.getElem?_map, h]; rfl
end
section
theorem run_noV {w : World} {r : Nat} {es : Array MapEntry} {c : Nat} {k : Int} (hb : w.heap[r]? = some (.map es c)) (hf : Instr.findNow (.int .i64) (.int .i64 k) es.toList 0 = some none) :
 (Instr.lookup 243 (.map (some r)) (.int .i64 k) false).run Tryz.prog w = .ok (.slice none 0 0) w := by
 simp [Instr.lookup, run_underlying Tryz.underlying243, MapKept.run_getObj_map hb, mk_check, MapKept.run_findKey Tryz.underlying3 hf, Result.andThen, Tryz.zeroValue138]
section
variable {p : MP} {x y : MX} {F G : List Fr}
set_option maxRecDepth 100000 in
set_option maxHeartbeats 4000000 in
theorem own_save (hk : x.kp.length < 10) (h0 : 0 ≤ x.sl) (h1 : x.sl < 1000000) (hl : x.l.length < 200) :
 Mc p 136 #[ptr p.mp, .int .i64 97] (.int .i64 0) x F { x with kp := x.kp ++ [(x.sl + 1, x.L)], sl := x.sl + 1, l := x.l ++ [svO (x.sl + 1)] } F := by
 intro w0 K w S; have HKP := hid' (fun W K' (S' : MS w0 p K' x F W) => m_keep S' hk h0 h1 hl); clear hk h0 h1 hl; have S0 := S.alloc (.map #[] 0); have hmm := @run_makeMap Tryz.prog; generalize hr : w.heap.size = r at *; clear S; go_enter Tryz.func136, Tryz.ntmps136
 go_upto_region 1 with (fail)
 have hsz := size_setObj
 have z0 : (w.alloc (.map #[] 0)).heap.size = r + 1 := by rw [World.size_alloc, hr]
 have T0 := (S0.alloc (.cells #[.int .i64 (-1)] 3)).perm (List.Perm.swap _ _ _); rw [z0] at T0; have hu0 := run_insV (k := 81) (T0.box (r, .map #[] 0) m0) (by rfl) (.slice (some ⟨r + 1, 0, none⟩) 1 1); have S1 := T0.putMk (.map #[⟨.int .i64 81, .slice (some ⟨r + 1, 0, none⟩) 1 1, 0⟩] 1)
 obtain ⟨w1, hw1⟩ : ∃ wz, setObj ((w.alloc (.map #[] 0)).alloc (.cells #[.int .i64 (-1)] 3)) r (.map #[⟨.int .i64 81, .slice (some ⟨r + 1, 0, none⟩) 1 1, 0⟩] 1) = wz := ⟨_, rfl⟩
 have z1 : w1.heap.size = r + 2 := by rw [← hw1, size_setObj, World.size_alloc, z0]
 rw [hw1] at S1; go_wp2_with fail
 clear hu0 T0 S0 hw1; have T1 := (S1.alloc (.cells #[.int .i64 4, .int .i64 512] 3)).perm (List.Perm.swap _ _ _); rw [z1] at T1; have hu1 := run_insV (k := 82) (T1.box (r, .map #[⟨.int .i64 81, .slice (some ⟨r + 1, 0, none⟩) 1 1, 0⟩] 1) m0) (by rfl) (.slice (some ⟨r + 2, 0, none⟩) 2 2); have S2 := T1.putMk (.map #[⟨.int .i64 81, .slice (some ⟨r + 1, 0, none⟩) 1 1, 0⟩, ⟨.int .i64 82, .slice (some ⟨r + 2, 0, none⟩) 2 2, 1⟩] 2)
 obtain ⟨w2, hw2⟩ : ∃ wz, setObj (w1.alloc (.cells #[.int .i64 4, .int .i64 512] 3)) r (.map #[⟨.int .i64 81, .slice (some ⟨r + 1, 0, none⟩) 1 1, 0⟩, ⟨.int .i64 82, .slice (some ⟨r + 2, 0, none⟩) 2 2, 1⟩] 2) = wz := ⟨_, rfl⟩
 have z2 : w2.heap.size = r + 3 := by rw [← hw2, size_setObj, World.size_alloc, z1]
 rw [hw2] at S2; go_wp2_with fail
 clear hu1 T1 S1 hw2; have T2 := (S2.alloc (.cells #[.int .i64 4, .int .i64 512, .int .i64 512] 3)).perm (List.Perm.swap _ _ _); rw [z2] at T2; have hu2 := run_insV (k := 83) (T2.box (r, .map #[⟨.int .i64 81, .slice (some ⟨r + 1, 0, none⟩) 1 1, 0⟩, ⟨.int .i64 82, .slice (some ⟨r + 2, 0, none⟩) 2 2, 1⟩] 2) m0) (by rfl) (.slice (some ⟨r + 3, 0, none⟩) 3 3); have S3 := T2.putMk (.map #[⟨.int .i64 81, .slice (some ⟨r + 1, 0, none⟩) 1 1, 0⟩, ⟨.int .i64 82, .slice (some ⟨r + 2, 0, none⟩) 2 2, 1⟩, ⟨.int .i64 83, .slice (some ⟨r + 3, 0, none⟩) 3 3, 2⟩] 3)
 obtain ⟨w3, hw3⟩ : ∃ wz, setObj (w2.alloc (.cells #[.int .i64 4, .int .i64 512, .int .i64 512] 3)) r (.map #[⟨.int .i64 81, .slice (some ⟨r + 1, 0, none⟩) 1 1, 0⟩, ⟨.int .i64 82, .slice (some ⟨r + 2, 0, none⟩) 2 2, 1⟩, ⟨.int .i64 83, .slice (some ⟨r + 3, 0, none⟩) 3 3, 2⟩] 3) = wz := ⟨_, rfl⟩
 have z3 : w3.heap.size = r + 4 := by rw [← hw3, size_setObj, World.size_alloc, z2]
 rw [hw3] at S3; go_wp2_with fail
 clear hu2 T2 S2 hw3; have T3 := (S3.alloc (.cells #[.int .i64 24, .int .i64 24, .int .i64 24, .int .i64 512] 3)).perm (List.Perm.swap _ _ _); rw [z3] at T3; have hu3 := run_insV (k := 84) (T3.box (r, .map #[⟨.int .i64 81, .slice (some ⟨r + 1, 0, none⟩) 1 1, 0⟩, ⟨.int .i64 82, .slice (some ⟨r + 2, 0, none⟩) 2 2, 1⟩, ⟨.int .i64 83, .slice (some ⟨r + 3, 0, none⟩) 3 3, 2⟩] 3) m0) (by rfl) (.slice (some ⟨r + 4, 0, none⟩) 4 4); have S4 := T3.putMk (.map #[⟨.int .i64 81, .slice (some ⟨r + 1, 0, none⟩) 1 1, 0⟩, ⟨.int .i64 82, .slice (some ⟨r + 2, 0, none⟩) 2 2, 1⟩, ⟨.int .i64 83, .slice (some ⟨r + 3, 0, none⟩) 3 3, 2⟩, ⟨.int .i64 84, .slice (some ⟨r + 4, 0, none⟩) 4 4, 3⟩] 4)
 obtain ⟨w4, hw4⟩ : ∃ wz, setObj (w3.alloc (.cells #[.int .i64 24, .int .i64 24, .int .i64 24, .int .i64 512] 3)) r (.map #[⟨.int .i64 81, .slice (some ⟨r + 1, 0, none⟩) 1 1, 0⟩, ⟨.int .i64 82, .slice (some ⟨r + 2, 0, none⟩) 2 2, 1⟩, ⟨.int .i64 83, .slice (some ⟨r + 3, 0, none⟩) 3 3, 2⟩, ⟨.int .i64 84, .slice (some ⟨r + 4, 0, none⟩) 4 4, 3⟩] 4) = wz := ⟨_, rfl⟩
 have z4 : w4.heap.size = r + 5 := by rw [← hw4, size_setObj, World.size_alloc, z3]
 rw [hw4] at S4; go_wp2_with fail
 clear hu3 T3 S3 hw4; have T4 := (S4.alloc (.cells #[.int .i64 8, .int .i64 512] 3)).perm (List.Perm.swap _ _ _); rw [z4] at T4; have hu4 := run_insV (k := 85) (T4.box (r, .map #[⟨.int .i64 81, .slice (some ⟨r + 1, 0, none⟩) 1 1, 0⟩, ⟨.int .i64 82, .slice (some ⟨r + 2, 0, none⟩) 2 2, 1⟩, ⟨.int .i64 83, .slice (some ⟨r + 3, 0, none⟩) 3 3, 2⟩, ⟨.int .i64 84, .slice (some ⟨r + 4, 0, none⟩) 4 4, 3⟩] 4) m0) (by rfl) (.slice (some ⟨r + 5, 0, none⟩) 2 2); have S5 := T4.putMk (.map #[⟨.int .i64 81, .slice (some ⟨r + 1, 0, none⟩) 1 1, 0⟩, ⟨.int .i64 82, .slice (some ⟨r + 2, 0, none⟩) 2 2, 1⟩, ⟨.int .i64 83, .slice (some ⟨r + 3, 0, none⟩) 3 3, 2⟩, ⟨.int .i64 84, .slice (some ⟨r + 4, 0, none⟩) 4 4, 3⟩, ⟨.int .i64 85, .slice (some ⟨r + 5, 0, none⟩) 2 2, 4⟩] 5)
 obtain ⟨w5, hw5⟩ : ∃ wz, setObj (w4.alloc (.cells #[.int .i64 8, .int .i64 512] 3)) r (.map #[⟨.int .i64 81, .slice (some ⟨r + 1, 0, none⟩) 1 1, 0⟩, ⟨.int .i64 82, .slice (some ⟨r + 2, 0, none⟩) 2 2, 1⟩, ⟨.int .i64 83, .slice (some ⟨r + 3, 0, none⟩) 3 3, 2⟩, ⟨.int .i64 84, .slice (some ⟨r + 4, 0, none⟩) 4 4, 3⟩, ⟨.int .i64 85, .slice (some ⟨r + 5, 0, none⟩) 2 2, 4⟩] 5) = wz := ⟨_, rfl⟩
 have z5 : w5.heap.size = r + 6 := by rw [← hw5, size_setObj, World.size_alloc, z4]
 rw [hw5] at S5; go_wp2_with fail
 clear hu4 T4 S4 hw5; have T5 := (S5.alloc (.cells #[.int .i64 512] 3)).perm (List.Perm.swap _ _ _); rw [z5] at T5; have hu5 := run_insV (k := 86) (T5.box (r, .map #[⟨.int .i64 81, .slice (some ⟨r + 1, 0, none⟩) 1 1, 0⟩, ⟨.int .i64 82, .slice (some ⟨r + 2, 0, none⟩) 2 2, 1⟩, ⟨.int .i64 83, .slice (some ⟨r + 3, 0, none⟩) 3 3, 2⟩, ⟨.int .i64 84, .slice (some ⟨r + 4, 0, none⟩) 4 4, 3⟩, ⟨.int .i64 85, .slice (some ⟨r + 5, 0, none⟩) 2 2, 4⟩] 5) m0) (by rfl) (.slice (some ⟨r + 6, 0, none⟩) 1 1); have S6 := T5.putMk (.map #[⟨.int .i64 81, .slice (some ⟨r + 1, 0, none⟩) 1 1, 0⟩, ⟨.int .i64 82, .slice (some ⟨r + 2, 0, none⟩) 2 2, 1⟩, ⟨.int .i64 83, .slice (some ⟨r + 3, 0, none⟩) 3 3, 2⟩, ⟨.int .i64 84, .slice (some ⟨r + 4, 0, none⟩) 4 4, 3⟩, ⟨.int .i64 85, .slice (some ⟨r + 5, 0, none⟩) 2 2, 4⟩, ⟨.int .i64 86, .slice (some ⟨r + 6, 0, none⟩) 1 1, 5⟩] 6)
 obtain ⟨w6, hw6⟩ : ∃ wz, setObj (w5.alloc (.cells #[.int .i64 512] 3)) r (.map #[⟨.int .i64 81, .slice (some ⟨r + 1, 0, none⟩) 1 1, 0⟩, ⟨.int .i64 82, .slice (some ⟨r + 2, 0, none⟩) 2 2, 1⟩, ⟨.int .i64 83, .slice (some ⟨r + 3, 0, none⟩) 3 3, 2⟩, ⟨.int .i64 84, .slice (some ⟨r + 4, 0, none⟩) 4 4, 3⟩, ⟨.int .i64 85, .slice (some ⟨r + 5, 0, none⟩) 2 2, 4⟩, ⟨.int .i64 86, .slice (some ⟨r + 6, 0, none⟩) 1 1, 5⟩] 6) = wz := ⟨_, rfl⟩
 have z6 : w6.heap.size = r + 7 := by rw [← hw6, size_setObj, World.size_alloc, z5]
 rw [hw6] at S6; go_wp2_with fail
 clear hu5 T5 S5 hw6; have T6 := (S6.alloc (.cells #[.int .i64 (-1)] 3)).perm (List.Perm.swap _ _ _); rw [z6] at T6; have hu6 := run_insV (k := 89) (T6.box (r, .map #[⟨.int .i64 81, .slice (some ⟨r + 1, 0, none⟩) 1 1, 0⟩, ⟨.int .i64 82, .slice (some ⟨r + 2, 0, none⟩) 2 2, 1⟩, ⟨.int .i64 83, .slice (some ⟨r + 3, 0, none⟩) 3 3, 2⟩, ⟨.int .i64 84, .slice (some ⟨r + 4, 0, none⟩) 4 4, 3⟩, ⟨.int .i64 85, .slice (some ⟨r + 5, 0, none⟩) 2 2, 4⟩, ⟨.int .i64 86, .slice (some ⟨r + 6, 0, none⟩) 1 1, 5⟩] 6) m0) (by rfl) (.slice (some ⟨r + 7, 0, none⟩) 1 1); have S7 := T6.putMk (.map #[⟨.int .i64 81, .slice (some ⟨r + 1, 0, none⟩) 1 1, 0⟩, ⟨.int .i64 82, .slice (some ⟨r + 2, 0, none⟩) 2 2, 1⟩, ⟨.int .i64 83, .slice (some ⟨r + 3, 0, none⟩) 3 3, 2⟩, ⟨.int .i64 84, .slice (some ⟨r + 4, 0, none⟩) 4 4, 3⟩, ⟨.int .i64 85, .slice (some ⟨r + 5, 0, none⟩) 2 2, 4⟩, ⟨.int .i64 86, .slice (some ⟨r + 6, 0, none⟩) 1 1, 5⟩, ⟨.int .i64 89, .slice (some ⟨r + 7, 0, none⟩) 1 1, 6⟩] 7)
 obtain ⟨w7, hw7⟩ : ∃ wz, setObj (w6.alloc (.cells #[.int .i64 (-1)] 3)) r (.map #[⟨.int .i64 81, .slice (some ⟨r + 1, 0, none⟩) 1 1, 0⟩, ⟨.int .i64 82, .slice (some ⟨r + 2, 0, none⟩) 2 2, 1⟩, ⟨.int .i64 83, .slice (some ⟨r + 3, 0, none⟩) 3 3, 2⟩, ⟨.int .i64 84, .slice (some ⟨r + 4, 0, none⟩) 4 4, 3⟩, ⟨.int .i64 85, .slice (some ⟨r + 5, 0, none⟩) 2 2, 4⟩, ⟨.int .i64 86, .slice (some ⟨r + 6, 0, none⟩) 1 1, 5⟩, ⟨.int .i64 89, .slice (some ⟨r + 7, 0, none⟩) 1 1, 6⟩] 7) = wz := ⟨_, rfl⟩
 have z7 : w7.heap.size = r + 8 := by rw [← hw7, size_setObj, World.size_alloc, z6]
 rw [hw7] at S7; go_wp2_with fail
 clear hu6 T6 S6 hw7; have T7 := (S7.alloc (.cells #[.int .i64 1792, .int .i64 512] 3)).perm (List.Perm.swap _ _ _); rw [z7] at T7; have hu7 := run_insV (k := 90) (T7.box (r, .map #[⟨.int .i64 81, .slice (some ⟨r + 1, 0, none⟩) 1 1, 0⟩, ⟨.int .i64 82, .slice (some ⟨r + 2, 0, none⟩) 2 2, 1⟩, ⟨.int .i64 83, .slice (some ⟨r + 3, 0, none⟩) 3 3, 2⟩, ⟨.int .i64 84, .slice (some ⟨r + 4, 0, none⟩) 4 4, 3⟩, ⟨.int .i64 85, .slice (some ⟨r + 5, 0, none⟩) 2 2, 4⟩, ⟨.int .i64 86, .slice (some ⟨r + 6, 0, none⟩) 1 1, 5⟩, ⟨.int .i64 89, .slice (some ⟨r + 7, 0, none⟩) 1 1, 6⟩] 7) m0) (by rfl) (.slice (some ⟨r + 8, 0, none⟩) 2 2); have S8 := T7.putMk (.map #[⟨.int .i64 81, .slice (some ⟨r + 1, 0, none⟩) 1 1, 0⟩, ⟨.int .i64 82, .slice (some ⟨r + 2, 0, none⟩) 2 2, 1⟩, ⟨.int .i64 83, .slice (some ⟨r + 3, 0, none⟩) 3 3, 2⟩, ⟨.int .i64 84, .slice (some ⟨r + 4, 0, none⟩) 4 4, 3⟩, ⟨.int .i64 85, .slice (some ⟨r + 5, 0, none⟩) 2 2, 4⟩, ⟨.int .i64 86, .slice (some ⟨r + 6, 0, none⟩) 1 1, 5⟩, ⟨.int .i64 89, .slice (some ⟨r + 7, 0, none⟩) 1 1, 6⟩, ⟨.int .i64 90, .slice (some ⟨r + 8, 0, none⟩) 2 2, 7⟩] 8)
 obtain ⟨w8, hw8⟩ : ∃ wz, setObj (w7.alloc (.cells #[.int .i64 1792, .int .i64 512] 3)) r (.map #[⟨.int .i64 81, .slice (some ⟨r + 1, 0, none⟩) 1 1, 0⟩, ⟨.int .i64 82, .slice (some ⟨r + 2, 0, none⟩) 2 2, 1⟩, ⟨.int .i64 83, .slice (some ⟨r + 3, 0, none⟩) 3 3, 2⟩, ⟨.int .i64 84, .slice (some ⟨r + 4, 0, none⟩) 4 4, 3⟩, ⟨.int .i64 85, .slice (some ⟨r + 5, 0, none⟩) 2 2, 4⟩, ⟨.int .i64 86, .slice (some ⟨r + 6, 0, none⟩) 1 1, 5⟩, ⟨.int .i64 89, .slice (some ⟨r + 7, 0, none⟩) 1 1, 6⟩, ⟨.int .i64 90, .slice (some ⟨r + 8, 0, none⟩) 2 2, 7⟩] 8) = wz := ⟨_, rfl⟩
 have z8 : w8.heap.size = r + 9 := by rw [← hw8, size_setObj, World.size_alloc, z7]
 rw [hw8] at S8; go_wp2_with fail
 clear hu7 T7 S7 hw8; have T8 := (S8.alloc (.cells #[.int .i64 512] 3)).perm (List.Perm.swap _ _ _); rw [z8] at T8; have hu8 := run_insV (k := 92) (T8.box (r, .map #[⟨.int .i64 81, .slice (some ⟨r + 1, 0, none⟩) 1 1, 0⟩, ⟨.int .i64 82, .slice (some ⟨r + 2, 0, none⟩) 2 2, 1⟩, ⟨.int .i64 83, .slice (some ⟨r + 3, 0, none⟩) 3 3, 2⟩, ⟨.int .i64 84, .slice (some ⟨r + 4, 0, none⟩) 4 4, 3⟩, ⟨.int .i64 85, .slice (some ⟨r + 5, 0, none⟩) 2 2, 4⟩, ⟨.int .i64 86, .slice (some ⟨r + 6, 0, none⟩) 1 1, 5⟩, ⟨.int .i64 89, .slice (some ⟨r + 7, 0, none⟩) 1 1, 6⟩, ⟨.int .i64 90, .slice (some ⟨r + 8, 0, none⟩) 2 2, 7⟩] 8) m0) (by rfl) (.slice (some ⟨r + 9, 0, none⟩) 1 1); have S9 := T8.putMk (.map #[⟨.int .i64 81, .slice (some ⟨r + 1, 0, none⟩) 1 1, 0⟩, ⟨.int .i64 82, .slice (some ⟨r + 2, 0, none⟩) 2 2, 1⟩, ⟨.int .i64 83, .slice (some ⟨r + 3, 0, none⟩) 3 3, 2⟩, ⟨.int .i64 84, .slice (some ⟨r + 4, 0, none⟩) 4 4, 3⟩, ⟨.int .i64 85, .slice (some ⟨r + 5, 0, none⟩) 2 2, 4⟩, ⟨.int .i64 86, .slice (some ⟨r + 6, 0, none⟩) 1 1, 5⟩, ⟨.int .i64 89, .slice (some ⟨r + 7, 0, none⟩) 1 1, 6⟩, ⟨.int .i64 90, .slice (some ⟨r + 8, 0, none⟩) 2 2, 7⟩, ⟨.int .i64 92, .slice (some ⟨r + 9, 0, none⟩) 1 1, 8⟩] 9)
 obtain ⟨w9, hw9⟩ : ∃ wz, setObj (w8.alloc (.cells #[.int .i64 512] 3)) r (.map #[⟨.int .i64 81, .slice (some ⟨r + 1, 0, none⟩) 1 1, 0⟩, ⟨.int .i64 82, .slice (some ⟨r + 2, 0, none⟩) 2 2, 1⟩, ⟨.int .i64 83, .slice (some ⟨r + 3, 0, none⟩) 3 3, 2⟩, ⟨.int .i64 84, .slice (some ⟨r + 4, 0, none⟩) 4 4, 3⟩, ⟨.int .i64 85, .slice (some ⟨r + 5, 0, none⟩) 2 2, 4⟩, ⟨.int .i64 86, .slice (some ⟨r + 6, 0, none⟩) 1 1, 5⟩, ⟨.int .i64 89, .slice (some ⟨r + 7, 0, none⟩) 1 1, 6⟩, ⟨.int .i64 90, .slice (some ⟨r + 8, 0, none⟩) 2 2, 7⟩, ⟨.int .i64 92, .slice (some ⟨r + 9, 0, none⟩) 1 1, 8⟩] 9) = wz := ⟨_, rfl⟩
 have z9 : w9.heap.size = r + 10 := by rw [← hw9, size_setObj, World.size_alloc, z8]
 rw [hw9] at S9; go_wp2_with fail
 clear hu8 T8 S8 hw9; have T9 := (S9.alloc (.cells #[.int .i64 256] 3)).perm (List.Perm.swap _ _ _); rw [z9] at T9; have hu9 := run_insV (k := 93) (T9.box (r, .map #[⟨.int .i64 81, .slice (some ⟨r + 1, 0, none⟩) 1 1, 0⟩, ⟨.int .i64 82, .slice (some ⟨r + 2, 0, none⟩) 2 2, 1⟩, ⟨.int .i64 83, .slice (some ⟨r + 3, 0, none⟩) 3 3, 2⟩, ⟨.int .i64 84, .slice (some ⟨r + 4, 0, none⟩) 4 4, 3⟩, ⟨.int .i64 85, .slice (some ⟨r + 5, 0, none⟩) 2 2, 4⟩, ⟨.int .i64 86, .slice (some ⟨r + 6, 0, none⟩) 1 1, 5⟩, ⟨.int .i64 89, .slice (some ⟨r + 7, 0, none⟩) 1 1, 6⟩, ⟨.int .i64 90, .slice (some ⟨r + 8, 0, none⟩) 2 2, 7⟩, ⟨.int .i64 92, .slice (some ⟨r + 9, 0, none⟩) 1 1, 8⟩] 9) m0) (by rfl) (.slice (some ⟨r + 10, 0, none⟩) 1 1); have S10 := T9.putMk (.map #[⟨.int .i64 81, .slice (some ⟨r + 1, 0, none⟩) 1 1, 0⟩, ⟨.int .i64 82, .slice (some ⟨r + 2, 0, none⟩) 2 2, 1⟩, ⟨.int .i64 83, .slice (some ⟨r + 3, 0, none⟩) 3 3, 2⟩, ⟨.int .i64 84, .slice (some ⟨r + 4, 0, none⟩) 4 4, 3⟩, ⟨.int .i64 85, .slice (some ⟨r + 5, 0, none⟩) 2 2, 4⟩, ⟨.int .i64 86, .slice (some ⟨r + 6, 0, none⟩) 1 1, 5⟩, ⟨.int .i64 89, .slice (some ⟨r + 7, 0, none⟩) 1 1, 6⟩, ⟨.int .i64 90, .slice (some ⟨r + 8, 0, none⟩) 2 2, 7⟩, ⟨.int .i64 92, .slice (some ⟨r + 9, 0, none⟩) 1 1, 8⟩, ⟨.int .i64 93, .slice (some ⟨r + 10, 0, none⟩) 1 1, 9⟩] 10)
 obtain ⟨w10, hw10⟩ : ∃ wz, setObj (w9.alloc (.cells #[.int .i64 256] 3)) r (.map #[⟨.int .i64 81, .slice (some ⟨r + 1, 0, none⟩) 1 1, 0⟩, ⟨.int .i64 82, .slice (some ⟨r + 2, 0, none⟩) 2 2, 1⟩, ⟨.int .i64 83, .slice (some ⟨r + 3, 0, none⟩) 3 3, 2⟩, ⟨.int .i64 84, .slice (some ⟨r + 4, 0, none⟩) 4 4, 3⟩, ⟨.int .i64 85, .slice (some ⟨r + 5, 0, none⟩) 2 2, 4⟩, ⟨.int .i64 86, .slice (some ⟨r + 6, 0, none⟩) 1 1, 5⟩, ⟨.int .i64 89, .slice (some ⟨r + 7, 0, none⟩) 1 1, 6⟩, ⟨.int .i64 90, .slice (some ⟨r + 8, 0, none⟩) 2 2, 7⟩, ⟨.int .i64 92, .slice (some ⟨r + 9, 0, none⟩) 1 1, 8⟩, ⟨.int .i64 93, .slice (some ⟨r + 10, 0, none⟩) 1 1, 9⟩] 10) = wz := ⟨_, rfl⟩
 have z10 : w10.heap.size = r + 11 := by rw [← hw10, size_setObj, World.size_alloc, z9]
 rw [hw10] at S10; go_wp2_with fail
 clear hu9 T9 S9 hw10; have T10 := (S10.alloc (.cells #[.int .i64 (-1)] 3)).perm (List.Perm.swap _ _ _); rw [z10] at T10; have hu10 := run_insV (k := 94) (T10.box (r, .map #[⟨.int .i64 81, .slice (some ⟨r + 1, 0, none⟩) 1 1, 0⟩, ⟨.int .i64 82, .slice (some ⟨r + 2, 0, none⟩) 2 2, 1⟩, ⟨.int .i64 83, .slice (some ⟨r + 3, 0, none⟩) 3 3, 2⟩, ⟨.int .i64 84, .slice (some ⟨r + 4, 0, none⟩) 4 4, 3⟩, ⟨.int .i64 85, .slice (some ⟨r + 5, 0, none⟩) 2 2, 4⟩, ⟨.int .i64 86, .slice (some ⟨r + 6, 0, none⟩) 1 1, 5⟩, ⟨.int .i64 89, .slice (some ⟨r + 7, 0, none⟩) 1 1, 6⟩, ⟨.int .i64 90, .slice (some ⟨r + 8, 0, none⟩) 2 2, 7⟩, ⟨.int .i64 92, .slice (some ⟨r + 9, 0, none⟩) 1 1, 8⟩, ⟨.int .i64 93, .slice (some ⟨r + 10, 0, none⟩) 1 1, 9⟩] 10) m0) (by rfl) (.slice (some ⟨r + 11, 0, none⟩) 1 1); have S11 := T10.putMk (.map #[⟨.int .i64 81, .slice (some ⟨r + 1, 0, none⟩) 1 1, 0⟩, ⟨.int .i64 82, .slice (some ⟨r + 2, 0, none⟩) 2 2, 1⟩, ⟨.int .i64 83, .slice (some ⟨r + 3, 0, none⟩) 3 3, 2⟩, ⟨.int .i64 84, .slice (some ⟨r + 4, 0, none⟩) 4 4, 3⟩, ⟨.int .i64 85, .slice (some ⟨r + 5, 0, none⟩) 2 2, 4⟩, ⟨.int .i64 86, .slice (some ⟨r + 6, 0, none⟩) 1 1, 5⟩, ⟨.int .i64 89, .slice (some ⟨r + 7, 0, none⟩) 1 1, 6⟩, ⟨.int .i64 90, .slice (some ⟨r + 8, 0, none⟩) 2 2, 7⟩, ⟨.int .i64 92, .slice (some ⟨r + 9, 0, none⟩) 1 1, 8⟩, ⟨.int .i64 93, .slice (some ⟨r + 10, 0, none⟩) 1 1, 9⟩, ⟨.int .i64 94, .slice (some ⟨r + 11, 0, none⟩) 1 1, 10⟩] 11)
 obtain ⟨w11, hw11⟩ : ∃ wz, setObj (w10.alloc (.cells #[.int .i64 (-1)] 3)) r (.map #[⟨.int .i64 81, .slice (some ⟨r + 1, 0, none⟩) 1 1, 0⟩, ⟨.int .i64 82, .slice (some ⟨r + 2, 0, none⟩) 2 2, 1⟩, ⟨.int .i64 83, .slice (some ⟨r + 3, 0, none⟩) 3 3, 2⟩, ⟨.int .i64 84, .slice (some ⟨r + 4, 0, none⟩) 4 4, 3⟩, ⟨.int .i64 85, .slice (some ⟨r + 5, 0, none⟩) 2 2, 4⟩, ⟨.int .i64 86, .slice (some ⟨r + 6, 0, none⟩) 1 1, 5⟩, ⟨.int .i64 89, .slice (some ⟨r + 7, 0, none⟩) 1 1, 6⟩, ⟨.int .i64 90, .slice (some ⟨r + 8, 0, none⟩) 2 2, 7⟩, ⟨.int .i64 92, .slice (some ⟨r + 9, 0, none⟩) 1 1, 8⟩, ⟨.int .i64 93, .slice (some ⟨r + 10, 0, none⟩) 1 1, 9⟩, ⟨.int .i64 94, .slice (some ⟨r + 11, 0, none⟩) 1 1, 10⟩] 11) = wz := ⟨_, rfl⟩
 have z11 : w11.heap.size = r + 12 := by rw [← hw11, size_setObj, World.size_alloc, z10]
 rw [hw11] at S11; go_wp2_with fail
 clear hu10 T10 S10 hw11; have T11 := (S11.alloc (.cells #[.int .i64 (-1)] 3)).perm (List.Perm.swap _ _ _); rw [z11] at T11; have hu11 := run_insV (k := 95) (T11.box (r, .map #[⟨.int .i64 81, .slice (some ⟨r + 1, 0, none⟩) 1 1, 0⟩, ⟨.int .i64 82, .slice (some ⟨r + 2, 0, none⟩) 2 2, 1⟩, ⟨.int .i64 83, .slice (some ⟨r + 3, 0, none⟩) 3 3, 2⟩, ⟨.int .i64 84, .slice (some ⟨r + 4, 0, none⟩) 4 4, 3⟩, ⟨.int .i64 85, .slice (some ⟨r + 5, 0, none⟩) 2 2, 4⟩, ⟨.int .i64 86, .slice (some ⟨r + 6, 0, none⟩) 1 1, 5⟩, ⟨.int .i64 89, .slice (some ⟨r + 7, 0, none⟩) 1 1, 6⟩, ⟨.int .i64 90, .slice (some ⟨r + 8, 0, none⟩) 2 2, 7⟩, ⟨.int .i64 92, .slice (some ⟨r + 9, 0, none⟩) 1 1, 8⟩, ⟨.int .i64 93, .slice (some ⟨r + 10, 0, none⟩) 1 1, 9⟩, ⟨.int .i64 94, .slice (some ⟨r + 11, 0, none⟩) 1 1, 10⟩] 11) m0) (by rfl) (.slice (some ⟨r + 12, 0, none⟩) 1 1); have S12 := T11.putMk (.map #[⟨.int .i64 81, .slice (some ⟨r + 1, 0, none⟩) 1 1, 0⟩, ⟨.int .i64 82, .slice (some ⟨r + 2, 0, none⟩) 2 2, 1⟩, ⟨.int .i64 83, .slice (some ⟨r + 3, 0, none⟩) 3 3, 2⟩, ⟨.int .i64 84, .slice (some ⟨r + 4, 0, none⟩) 4 4, 3⟩, ⟨.int .i64 85, .slice (some ⟨r + 5, 0, none⟩) 2 2, 4⟩, ⟨.int .i64 86, .slice (some ⟨r + 6, 0, none⟩) 1 1, 5⟩, ⟨.int .i64 89, .slice (some ⟨r + 7, 0, none⟩) 1 1, 6⟩, ⟨.int .i64 90, .slice (some ⟨r + 8, 0, none⟩) 2 2, 7⟩, ⟨.int .i64 92, .slice (some ⟨r + 9, 0, none⟩) 1 1, 8⟩, ⟨.int .i64 93, .slice (some ⟨r + 10, 0, none⟩) 1 1, 9⟩, ⟨.int .i64 94, .slice (some ⟨r + 11, 0, none⟩) 1 1, 10⟩, ⟨.int .i64 95, .slice (some ⟨r + 12, 0, none⟩) 1 1, 11⟩] 12)
 obtain ⟨w12, hw12⟩ : ∃ wz, setObj (w11.alloc (.cells #[.int .i64 (-1)] 3)) r (.map #[⟨.int .i64 81, .slice (some ⟨r + 1, 0, none⟩) 1 1, 0⟩, ⟨.int .i64 82, .slice (some ⟨r + 2, 0, none⟩) 2 2, 1⟩, ⟨.int .i64 83, .slice (some ⟨r + 3, 0, none⟩) 3 3, 2⟩, ⟨.int .i64 84, .slice (some ⟨r + 4, 0, none⟩) 4 4, 3⟩, ⟨.int .i64 85, .slice (some ⟨r + 5, 0, none⟩) 2 2, 4⟩, ⟨.int .i64 86, .slice (some ⟨r + 6, 0, none⟩) 1 1, 5⟩, ⟨.int .i64 89, .slice (some ⟨r + 7, 0, none⟩) 1 1, 6⟩, ⟨.int .i64 90, .slice (some ⟨r + 8, 0, none⟩) 2 2, 7⟩, ⟨.int .i64 92, .slice (some ⟨r + 9, 0, none⟩) 1 1, 8⟩, ⟨.int .i64 93, .slice (some ⟨r + 10, 0, none⟩) 1 1, 9⟩, ⟨.int .i64 94, .slice (some ⟨r + 11, 0, none⟩) 1 1, 10⟩, ⟨.int .i64 95, .slice (some ⟨r + 12, 0, none⟩) 1 1, 11⟩] 12) = wz := ⟨_, rfl⟩
 have z12 : w12.heap.size = r + 13 := by rw [← hw12, size_setObj, World.size_alloc, z11]
 rw [hw12] at S12; go_wp2_with fail
 clear hu11 T11 S11 hw12; have T12 := (S12.alloc (.cells #[.int .i64 2048] 3)).perm (List.Perm.swap _ _ _); rw [z12] at T12; have hu12 := run_insV (k := 98) (T12.box (r, .map #[⟨.int .i64 81, .slice (some ⟨r + 1, 0, none⟩) 1 1, 0⟩, ⟨.int .i64 82, .slice (some ⟨r + 2, 0, none⟩) 2 2, 1⟩, ⟨.int .i64 83, .slice (some ⟨r + 3, 0, none⟩) 3 3, 2⟩, ⟨.int .i64 84, .slice (some ⟨r + 4, 0, none⟩) 4 4, 3⟩, ⟨.int .i64 85, .slice (some ⟨r + 5, 0, none⟩) 2 2, 4⟩, ⟨.int .i64 86, .slice (some ⟨r + 6, 0, none⟩) 1 1, 5⟩, ⟨.int .i64 89, .slice (some ⟨r + 7, 0, none⟩) 1 1, 6⟩, ⟨.int .i64 90, .slice (some ⟨r + 8, 0, none⟩) 2 2, 7⟩, ⟨.int .i64 92, .slice (some ⟨r + 9, 0, none⟩) 1 1, 8⟩, ⟨.int .i64 93, .slice (some ⟨r + 10, 0, none⟩) 1 1, 9⟩, ⟨.int .i64 94, .slice (some ⟨r + 11, 0, none⟩) 1 1, 10⟩, ⟨.int .i64 95, .slice (some ⟨r + 12, 0, none⟩) 1 1, 11⟩] 12) m0) (by rfl) (.slice (some ⟨r + 13, 0, none⟩) 1 1); have S13 := T12.putMk (.map #[⟨.int .i64 81, .slice (some ⟨r + 1, 0, none⟩) 1 1, 0⟩, ⟨.int .i64 82, .slice (some ⟨r + 2, 0, none⟩) 2 2, 1⟩, ⟨.int .i64 83, .slice (some ⟨r + 3, 0, none⟩) 3 3, 2⟩, ⟨.int .i64 84, .slice (some ⟨r + 4, 0, none⟩) 4 4, 3⟩, ⟨.int .i64 85, .slice (some ⟨r + 5, 0, none⟩) 2 2, 4⟩, ⟨.int .i64 86, .slice (some ⟨r + 6, 0, none⟩) 1 1, 5⟩, ⟨.int .i64 89, .slice (some ⟨r + 7, 0, none⟩) 1 1, 6⟩, ⟨.int .i64 90, .slice (some ⟨r + 8, 0, none⟩) 2 2, 7⟩, ⟨.int .i64 92, .slice (some ⟨r + 9, 0, none⟩) 1 1, 8⟩, ⟨.int .i64 93, .slice (some ⟨r + 10, 0, none⟩) 1 1, 9⟩, ⟨.int .i64 94, .slice (some ⟨r + 11, 0, none⟩) 1 1, 10⟩, ⟨.int .i64 95, .slice (some ⟨r + 12, 0, none⟩) 1 1, 11⟩, ⟨.int .i64 98, .slice (some ⟨r + 13, 0, none⟩) 1 1, 12⟩] 13)
 obtain ⟨w13, hw13⟩ : ∃ wz, setObj (w12.alloc (.cells #[.int .i64 2048] 3)) r (.map #[⟨.int .i64 81, .slice (some ⟨r + 1, 0, none⟩) 1 1, 0⟩, ⟨.int .i64 82, .slice (some ⟨r + 2, 0, none⟩) 2 2, 1⟩, ⟨.int .i64 83, .slice (some ⟨r + 3, 0, none⟩) 3 3, 2⟩, ⟨.int .i64 84, .slice (some ⟨r + 4, 0, none⟩) 4 4, 3⟩, ⟨.int .i64 85, .slice (some ⟨r + 5, 0, none⟩) 2 2, 4⟩, ⟨.int .i64 86, .slice (some ⟨r + 6, 0, none⟩) 1 1, 5⟩, ⟨.int .i64 89, .slice (some ⟨r + 7, 0, none⟩) 1 1, 6⟩, ⟨.int .i64 90, .slice (some ⟨r + 8, 0, none⟩) 2 2, 7⟩, ⟨.int .i64 92, .slice (some ⟨r + 9, 0, none⟩) 1 1, 8⟩, ⟨.int .i64 93, .slice (some ⟨r + 10, 0, none⟩) 1 1, 9⟩, ⟨.int .i64 94, .slice (some ⟨r + 11, 0, none⟩) 1 1, 10⟩, ⟨.int .i64 95, .slice (some ⟨r + 12, 0, none⟩) 1 1, 11⟩, ⟨.int .i64 98, .slice (some ⟨r + 13, 0, none⟩) 1 1, 12⟩] 13) = wz := ⟨_, rfl⟩
 have z13 : w13.heap.size = r + 14 := by rw [← hw13, size_setObj, World.size_alloc, z12]
 rw [hw13] at S13; go_wp2_with fail
 clear hu12 T12 S12 hw13; have T13 := (S13.alloc (.cells #[.int .i64 256] 3)).perm (List.Perm.swap _ _ _); rw [z13] at T13; have hu13 := run_insV (k := 99) (T13.box (r, .map #[⟨.int .i64 81, .slice (some ⟨r + 1, 0, none⟩) 1 1, 0⟩, ⟨.int .i64 82, .slice (some ⟨r + 2, 0, none⟩) 2 2, 1⟩, ⟨.int .i64 83, .slice (some ⟨r + 3, 0, none⟩) 3 3, 2⟩, ⟨.int .i64 84, .slice (some ⟨r + 4, 0, none⟩) 4 4, 3⟩, ⟨.int .i64 85, .slice (some ⟨r + 5, 0, none⟩) 2 2, 4⟩, ⟨.int .i64 86, .slice (some ⟨r + 6, 0, none⟩) 1 1, 5⟩, ⟨.int .i64 89, .slice (some ⟨r + 7, 0, none⟩) 1 1, 6⟩, ⟨.int .i64 90, .slice (some ⟨r + 8, 0, none⟩) 2 2, 7⟩, ⟨.int .i64 92, .slice (some ⟨r + 9, 0, none⟩) 1 1, 8⟩, ⟨.int .i64 93, .slice (some ⟨r + 10, 0, none⟩) 1 1, 9⟩, ⟨.int .i64 94, .slice (some ⟨r + 11, 0, none⟩) 1 1, 10⟩, ⟨.int .i64 95, .slice (some ⟨r + 12, 0, none⟩) 1 1, 11⟩, ⟨.int .i64 98, .slice (some ⟨r + 13, 0, none⟩) 1 1, 12⟩] 13) m0) (by rfl) (.slice (some ⟨r + 14, 0, none⟩) 1 1); have S14 := T13.putMk (.map #[⟨.int .i64 81, .slice (some ⟨r + 1, 0, none⟩) 1 1, 0⟩, ⟨.int .i64 82, .slice (some ⟨r + 2, 0, none⟩) 2 2, 1⟩, ⟨.int .i64 83, .slice (some ⟨r + 3, 0, none⟩) 3 3, 2⟩, ⟨.int .i64 84, .slice (some ⟨r + 4, 0, none⟩) 4 4, 3⟩, ⟨.int .i64 85, .slice (some ⟨r + 5, 0, none⟩) 2 2, 4⟩, ⟨.int .i64 86, .slice (some ⟨r + 6, 0, none⟩) 1 1, 5⟩, ⟨.int .i64 89, .slice (some ⟨r + 7, 0, none⟩) 1 1, 6⟩, ⟨.int .i64 90, .slice (some ⟨r + 8, 0, none⟩) 2 2, 7⟩, ⟨.int .i64 92, .slice (some ⟨r + 9, 0, none⟩) 1 1, 8⟩, ⟨.int .i64 93, .slice (some ⟨r + 10, 0, none⟩) 1 1, 9⟩, ⟨.int .i64 94, .slice (some ⟨r + 11, 0, none⟩) 1 1, 10⟩, ⟨.int .i64 95, .slice (some ⟨r + 12, 0, none⟩) 1 1, 11⟩, ⟨.int .i64 98, .slice (some ⟨r + 13, 0, none⟩) 1 1, 12⟩, ⟨.int .i64 99, .slice (some ⟨r + 14, 0, none⟩) 1 1, 13⟩] 14)
 obtain ⟨w14, hw14⟩ : ∃ wz, setObj (w13.alloc (.cells #[.int .i64 256] 3)) r (.map #[⟨.int .i64 81, .slice (some ⟨r + 1, 0, none⟩) 1 1, 0⟩, ⟨.int .i64 82, .slice (some ⟨r + 2, 0, none⟩) 2 2, 1⟩, ⟨.int .i64 83, .slice (some ⟨r + 3, 0, none⟩) 3 3, 2⟩, ⟨.int .i64 84, .slice (some ⟨r + 4, 0, none⟩) 4 4, 3⟩, ⟨.int .i64 85, .slice (some ⟨r + 5, 0, none⟩) 2 2, 4⟩, ⟨.int .i64 86, .slice (some ⟨r + 6, 0, none⟩) 1 1, 5⟩, ⟨.int .i64 89, .slice (some ⟨r + 7, 0, none⟩) 1 1, 6⟩, ⟨.int .i64 90, .slice (some ⟨r + 8, 0, none⟩) 2 2, 7⟩, ⟨.int .i64 92, .slice (some ⟨r + 9, 0, none⟩) 1 1, 8⟩, ⟨.int .i64 93, .slice (some ⟨r + 10, 0, none⟩) 1 1, 9⟩, ⟨.int .i64 94, .slice (some ⟨r + 11, 0, none⟩) 1 1, 10⟩, ⟨.int .i64 95, .slice (some ⟨r + 12, 0, none⟩) 1 1, 11⟩, ⟨.int .i64 98, .slice (some ⟨r + 13, 0, none⟩) 1 1, 12⟩, ⟨.int .i64 99, .slice (some ⟨r + 14, 0, none⟩) 1 1, 13⟩] 14) = wz := ⟨_, rfl⟩
 have z14 : w14.heap.size = r + 15 := by rw [← hw14, size_setObj, World.size_alloc, z13]
 rw [hw14] at S14; have hlk := run_noV (k := 97) (S14.box (r, .map #[⟨.int .i64 81, .slice (some ⟨r + 1, 0, none⟩) 1 1, 0⟩, ⟨.int .i64 82, .slice (some ⟨r + 2, 0, none⟩) 2 2, 1⟩, ⟨.int .i64 83, .slice (some ⟨r + 3, 0, none⟩) 3 3, 2⟩, ⟨.int .i64 84, .slice (some ⟨r + 4, 0, none⟩) 4 4, 3⟩, ⟨.int .i64 85, .slice (some ⟨r + 5, 0, none⟩) 2 2, 4⟩, ⟨.int .i64 86, .slice (some ⟨r + 6, 0, none⟩) 1 1, 5⟩, ⟨.int .i64 89, .slice (some ⟨r + 7, 0, none⟩) 1 1, 6⟩, ⟨.int .i64 90, .slice (some ⟨r + 8, 0, none⟩) 2 2, 7⟩, ⟨.int .i64 92, .slice (some ⟨r + 9, 0, none⟩) 1 1, 8⟩, ⟨.int .i64 93, .slice (some ⟨r + 10, 0, none⟩) 1 1, 9⟩, ⟨.int .i64 94, .slice (some ⟨r + 11, 0, none⟩) 1 1, 10⟩, ⟨.int .i64 95, .slice (some ⟨r + 12, 0, none⟩) 1 1, 11⟩, ⟨.int .i64 98, .slice (some ⟨r + 13, 0, none⟩) 1 1, 12⟩, ⟨.int .i64 99, .slice (some ⟨r + 14, 0, none⟩) 1 1, 13⟩] 14) m0) (by rfl)
 go_upto_region 2 with (fail)
 clear hu13 T13 S13 hw14 hlk hsz hmm
 obtain ⟨KQ, S15, hmem, hsub⟩ : ∃ KQ, MS w0 p KQ x F w14 ∧ True ∧ K.Sublist KQ := ⟨_, S14, trivial, (by repeat (first | exact List.Sublist.refl _ | apply List.Sublist.cons))⟩
 have HFR := hid' S15.hfrom0; have HFD := hid' S15.drew.hfrom0; have k14 := S15.any; have M0 := AnyM.c0 (w0 := w0) (p := p) (K := KQ); have M2 := AnyM.c2 (w0 := w0) (p := p) (K := KQ); have lt14 := AnyM.mlt _ k14; clear S14 S15 hmem z0 z1 z2 z3 z4 z5 z6 z7 z8 z9 z10 z11 z12 z13 z14
 go_region_held3 (fun W' => AnyM w0 p KQ W') (repeat' (first | (with_reducible assumption) | (with_reducible refine AnyM.drew ?_)))
  ((go_at_call 146; refine (by first | (with_reducible exact HFR.out) | (with_reducible exact HFD.out) : Calls _ _ _ _ _).mono ?_; rintro r5 w5 ⟨g, cur, rfl, hc, S5⟩; have k5 : AnyM w0 p KQ w5 := S5.more))
 have HK2 := hid' (HKP.out _ _ S5); clear S5 k5 hc k14 lt14 HFR HFD HKP; go_wp2_with fail
 refine HK2.out.mono ?_; rintro r8 w8 ⟨rfl, S8⟩; go_wp2_with fail
 go_ret; exact ⟨rfl, S8.keep (hsub.trans (List.sublist_cons_self _ _))⟩
theorem mc_save (hk : x.kp.length < 10) (h0 : 0 ≤ x.sl) (h1 : x.sl < 1000000) (hl : x.l.length < 200) :
 Mc p 121 #[ptr p.mp, .int .i64 97] (.int .i64 0) x F { x with kp := x.kp ++ [(x.sl + 1, x.L)], sl := x.sl + 1, l := x.l ++ [svO (x.sl + 1)] } F :=
 do_5 97 0 (fam_of (i := 96) (f := 5) (by decide +kernel)) (own_save hk h0 h1 hl)
end
end
section
def catT (ts : List ByteArray) : ByteArray := ts.foldl (fun s t => s ++ t ++ ⟨#[10]⟩) ⟨#[]⟩
theorem catT_snoc (ts : List ByteArray) (t : ByteArray) : catT (ts ++ [t]) = catT ts ++ t ++ ⟨#[10]⟩ := by simp [catT, List.foldl_append]
theorem catT_size (c : Nat) (ts : List ByteArray) (h : ∀ t ∈ ts, t.size ≤ c) : ∀ k, k ≤ ts.length → (catT (ts.take k)).size ≤ k * (c + 1)
 | 0, _ => by simp [catT, ByteArray.size]
 | k + 1, hk => by
  have ih := catT_size c ts h k (by omega)
  have hlt : k < ts.length := by omega
  have := h _ (List.getElem_mem hlt); rw [List.take_succ_eq_append_getElem hlt, catT_snoc, ByteArray.size_append, ByteArray.size_append, Nat.succ_mul]; show _ + _ + 1 ≤ _; omega
section
variable {w0 w w' : World} {p : MP} {K K' : List (Nat × Obj)} {x y : MX} {F G : List Fr}
set_option maxRecDepth 100000 in
set_option maxHeartbeats 2000000 in
theorem m_all (ts : List ByteArray) (n : Nat) (hn : x.l.length = n) (hts : ts.length = n) (h0 : 0 < n) (hb : ∀ t ∈ ts, t.size ≤ 10000) (hd : x.doing = 2)
 (HF : ∀ (i : Nat) (o : O) (t : ByteArray), x.l[i]? = some o → ts[i]? = some t → ∀ W K', MS w0 p K' x F W → Calls Tryz.prog 18 #[ptr p.hp, o.val] W fun r w' => r = .returned (.string t) ∧ MS w0 p K' x F w') (S : MS w0 p K x F w) :
 Calls Tryz.prog 9 #[ptr p.mp] w fun r w' => r = .returned (.tuple #[.string ⟨x.tx.toArray⟩, .string (catT ts), .int .i64 x.en, .string x.ew]) ∧ MS w0 p K x F w' := by
 have hlen := S.len; have HST := hid' (mq_stack S); have HIT := hid' (ms_items S (by omega) n hn); have HS := hid' S; have HHP := hid' (fun W K' (S' : MS w0 p K' x F W) => mq_heap S'); have HEN := hid' (fun W K' (S' : MS w0 p K' x F W) => mq_end S' hd); have HTX := hid' (fun W K' (S' : MS w0 p K' x F W) => mq_text S'); have HFF := hid' HF; have HN := hid' hn; have HTS := hid' hts
 have hni : (n : Int) ≤ 200 := by omega
 have HSZ := hid' (fun k (hk : k ≤ n) => catT_size 10000 ts hb k (by omega)); have HB := hid' hb; clear S HF hn hts hb hd hlen; go_enter Tryz.func9, Tryz.ntmps9
 go_wp2_with fail
 refine HST.out.mono ?_; rintro r w1 ⟨rfl, rfl⟩; go_wp2_with fail
 refine HIT.out.mono ?_; rintro r w2 ⟨g, cap, cur, rfl, hg, hbx, hcap, -, -, hcur, X⟩
 obtain ⟨KI, SI, hgm, hsub⟩ : ∃ KI, MS w0 p KI x F w2 ∧ (g, Obj.cells cur 49) ∈ KI ∧ K.Sublist KI := ⟨_, HS.out.got X hbx hg, m0, List.sublist_cons_self _ _⟩
 have hci : (n : Int) ≤ cap := by omega
 have hrd : ∀ k, k < n * 6 → cur[k]? = (x.l.flatMap O.cells)[k]? := fun k hk => by rw [← hcur, List.getElem?_take_of_lt hk, Array.getElem?_toList]
 have HRD := hid' hrd; clear X hbx hg hcur hcap hrd HST HIT HS; go_wp2_with fail
 go_loopw [6, 15] (fun sv cv wr => ∃ k : Nat, k ≤ n ∧ cv = .int .i64 k ∧ sv = .string (catT (ts.take k)) ∧ MS w0 p KI x F wr) (fun _ cv _ => n - (intOf cv).toNat)
 case atStart => exact ⟨0, Nat.zero_le _, rfl, rfl, SI⟩
 case round =>
  obtain ⟨k, hk, rfl, rfl, S1⟩ := hrel; clear SI
  by_cases hlt : k < n
  · obtain ⟨o, ho⟩ : ∃ o, x.l[k]? = some o := ⟨x.l[k]'(by rw [HN.out]; exact hlt), List.getElem?_eq_getElem _⟩
    obtain ⟨t, ht⟩ : ∃ t, ts[k]? = some t := ⟨ts[k]'(by rw [HTS.out]; exact hlt), List.getElem?_eq_getElem _⟩
    have HFU := hid' (HFF.out k o t ho ht); have hts := HB.out t (List.mem_of_getElem? ht); have hsz := HSZ.out k hk; have HCS := hid' (show catT (ts.take (k + 1)) = catT (ts.take k) ++ t ++ ⟨#[10]⟩ by rw [List.take_add_one, ht]; exact catT_snoc _ _); have q := fun j (hj : j < 6) => (HRD.out (k * 6 + j) (by omega)).trans (flat_at x.l k j o ho hj); have q0 := q 0 (by omega); have q1 := q 1 (by omega); have q2 := q 2 (by omega); have q3 := q 3 (by omega); have q4 := q 4 (by omega); have q5 := q 5 (by omega); generalize catT (ts.take k) = c at *
    have hc6 : c.size + t.size + 1 ≤ 4000000 := by
     have : k * (10000 + 1) ≤ 200 * 10001 := Nat.mul_le_mul (by omega) (Nat.le_refl _); omega
    have KS1 : ∀ W : World, (Op.stringOp .add c t).run Tryz.prog W = .ok (.string (c ++ t)) W := fun W => run_string_add_sum W _ _ (by omega); have KS2 : ∀ W : World, (Op.stringOp .add (c ++ t) ⟨#[10]⟩).run Tryz.prog W = .ok (.string (c ++ t ++ ⟨#[10]⟩)) W := fun W => run_string_add_sum W _ _ (by rw [ByteArray.size_append]; show _ + _ + 1 ≤ _; omega)
    have dl : (k : Int) < n := by omega
    obtain ⟨kk, kx, kn, kp, kl, ks⟩ := o; simp only [O.cells, List.getElem?_cons_zero, List.getElem?_cons_succ, Nat.add_zero] at q0 q1 q2 q3 q4 q5; have RG := cells_of (S1.box _ hgm); have lG := blk_lt (S1.box _ hgm); simp only at RG lG
    obtain ⟨KJ, SJ, hjm, hsj⟩ : ∃ KJ, MS w0 p KJ x F (wr.alloc (Obj.cells #[.int .i64 kk, .bool kx, .int .i64 kn, .int .i64 kp, .int .i64 kl, .string ks] 49)) ∧ (wr.heap.size, Obj.cells #[.int .i64 kk, .bool kx, .int .i64 kn, .int .i64 kp, .int .i64 kl, .string ks] 49) ∈ KJ ∧ KI.Sublist KJ := ⟨_, S1.alloc _, m0, List.sublist_cons_self _ _⟩
    have RJ := AnyM.cells (w0 := w0) (p := p) hjm; have kj := SJ.any; have HSJ := hid' SJ; have lj := AnyM.lt hjm _ kj; simp only at lj; clear ho ht q hsz hts hc6 SJ S1 hjm HN HTS HSZ
    go_upto_region 5 with (fail)
    clear RG lG q0 q1 q2 q3 q4 q5; generalize wr.alloc _ = w5 at *; generalize wr.heap.size = b5 at *
    go_region_held3 (fun W' => AnyM w0 p KJ W') (repeat' (first | (with_reducible assumption) | (with_reducible refine AnyM.drew ?_)))
     (first | (go_at_call 19; refine (HHP.out _ _ (by first | (with_reducible exact HSJ.out) | (with_reducible exact HSJ.out.drew))).mono ?_; rintro r6 w6 ⟨rfl, rfl⟩) | (go_at_call 18; refine (HFU.out _ _ (by first | (with_reducible exact HSJ.out) | (with_reducible exact HSJ.out.drew))).mono ?_; rintro r7 w7 ⟨rfl, S7⟩; have k7 := S7.any))
    all_goals
     go_wp2_with fail
     go_roundw
     case rel => exact ⟨k + 1, by omega, by go_num, by rw [HCS.out], S7.keep hsj⟩
     case measure => simp [intOf]; omega
  · obtain rfl : k = n := by omega
    have HAL := hid' (show ts.take k = ts from List.take_of_length_le (by rw [HTS.out]; exact Nat.le_refl _)); go_wp2_with fail
    refine (HEN.out _ _ S1).mono ?_; rintro r w3 ⟨rfl, X3⟩; have S3 := S1.pure X3; clear S1 X3; go_wp2_with fail
    refine (HTX.out _ _ S3).mono ?_; rintro r w4 ⟨rfl, rfl⟩; go_wp2_with fail
    rw [HAL.out]; refine bodyPost_ret (v := .tuple #[.string ⟨x.tx.toArray⟩, .string (catT ts), .int .i64 x.en, .string x.ew]) ?_ rfl ⟨rfl, S3.keep hsub⟩; simp [results, Tryz.results9, go_sem]
end
end
end Go.Proofs.YtpiomapnmempoaaGreat
