/- Parts of the proof: Vmh, Vmi, Vmj, Vmk, Vml. -/
import Derived.Test.YtpiomapnmempoaaGreatY16
namespace Go.Proofs.YtpiomapnmempoaaGreat
open Go.RowKit
variable {w w0 : World} {K : List (Nat × Obj)}
section
theorem as_single (v : Value) (W : World) : (Instr.typeAssert (.iface 146 v) 101 146 true).run Tryz.prog W = .ok (.tuple #[v, .bool true]) W := by kernel_rfl
theorem no_single1 (v : Value) (W : World) : (Instr.typeAssert (.iface 146 v) 101 68 true).run Tryz.prog W = .ok (.tuple #[.pointer none, .bool false]) W := by kernel_rfl
theorem no_catch1 (v : Value) (W : World) : (Instr.typeAssert (.iface 106 v) 101 68 true).run Tryz.prog W = .ok (.tuple #[.pointer none, .bool false]) W := by kernel_rfl
section
variable {p : MP} {x y : MX} {F G : List Fr}
set_option maxRecDepth 100000 in
set_option maxHeartbeats 1000000 in
theorem one_single (o : O) {r : Value} {nm : ByteArray} {e : Int} (hr : r = .tuple #[.string nm, .int .i64 e])
 (H : Mc p 73 #[ptr p.mp, o.val] r x F y G) :
 Mc p 45 #[ptr p.mp] r x (F ++ [.single o]) y G := by
 subst hr; intro w0 K w S; obtain ⟨qs, b, hq, S⟩ := S.snoc; have HT := hid' (m_top S); have HF : Hid (∀ w', Chg NoB w w' → MAt w0 p K x (qs ++ [(b, .single o)]) w') := hid' fun w' X => S.pure X; have HQ := hid' hq; have HD := hid' (fun W (S' : MAt w0 p K x (qs ++ [(b, .single o)]) W) => m_drop S'); have HP := hid' (fun W K' (S' : MS w0 p K' x F W) => H w0 K' W S'); have as1 := as_single; have as2 := no_single1; simp only [frV, Fr.pt] at HT; clear S hq H; go_enter Tryz.func45, Tryz.ntmps45
 go_wp2_with fail
 refine HT.out.mono ?_; rintro r w1 ⟨rfl, X1⟩; have S1 := HF.out _ X1; clear HT HF X1; go_wp2_with fail
 refine (HD.out _ S1).mono ?_; rintro r w2 ⟨rfl, S2⟩; have R2 := cells_of (S2.box _ (List.mem_cons_self ..)); have y2 := blk_lt (S2.box _ (List.mem_cons_self ..)); obtain ⟨ok, ox, on, op, ol, os⟩ := o; simp only [Fr.cells, O.cells] at R2 y2
 have SM : MS w0 p (frB (b, Fr.single ⟨ok, ox, on, op, ol, os⟩) :: K) x F w2 := ⟨qs, HQ.out, S2⟩
 clear S1 S2 HD; go_wp2_with fail
 refine (HP.out _ _ SM).mono ?_; rintro r w6 ⟨rfl, S6⟩; go_wp2_with fail
 refine bodyPost_ret (v := .tuple #[.string nm, .int .i64 e]) ?_ rfl ⟨rfl, ?_⟩
 · simp [results, Tryz.results45, go_sem]
 · exact S6.keep (List.sublist_cons_self _ _)
theorem may_bO (b : Bool) : mayO (bO b) = true := by cases b <;> decide +kernel
end
end
section
def Fr.done : Fr → Bool
 | .body o i => decide (o.len ≤ i)
 | _ => false
theorem not_body (fr : Fr) (h : ∀ o i, fr ≠ .body o i) (v : Value) (W : World) : (Instr.typeAssert (.iface fr.pt v) 101 68 true).run Tryz.prog W = .ok (.tuple #[.pointer none, .bool false]) W := by
 cases fr with
 | body o i => exact absurd rfl (h o i)
 | single o => exact no_single1 v W
 | stopt => exact no_catch1 v W
 | counted => unfold Fr.pt; kernel_rfl
 | again => unfold Fr.pt; kernel_rfl
 | items => unfold Fr.pt; kernel_rfl
def meas (p : MP) (w : World) : Nat := match w.cell? ⟨p.mp, 4, none⟩ with
 | some (.slice _ n _) => n
 | _ => 0
section
variable {w0 w : World} {p : MP} {K : List (Nat × Obj)} {x y z : MX} {F G : List Fr} {qs : List (Nat × Fr)}
theorem MAt.len (S : MAt w0 p K x qs w) : ∃ a c tv, w.heap[p.mp]? = some (mBox p.hp p.cp p.sp p.vp (.slice a qs.length c) tv x) := by
 obtain ⟨hb, NM, sv, hkp, R, fv, R2, tv, h1, h2, S⟩ := S; obtain ⟨a, c, rfl, -⟩ := rowG_slice h1; exact ⟨a, c, tv, S.box (p.mp, mBox p.hp p.cp p.sp p.vp (.slice a qs.length c) tv x) mem_me⟩
theorem MS.meas (S : MS w0 p K x F w) : meas p w = F.length := by
 obtain ⟨qs, e, S⟩ := S; obtain ⟨a, c, tv, h⟩ := S.len; have := cells_of h 4; unfold Proofs.YtpiomapnmempoaaGreat.meas; rw [this]; simp [← e]
end
section
variable {p : MP} {x y z : MX} {G Gz : List Fr}
theorem MAt.steps {qs : List (Nat × Fr)} (S : MAt w0 p K x qs w) (v : Int) : MAt w0 p K { x with steps := v } qs (w.setCell ⟨p.mp, 7, none⟩ (.int .i64 v)) := by
 obtain ⟨hb, NM, sv, hkp, R, fv, R2, tv, h1, h2, S⟩ := S; have S2 := S.put2 7 (.int .i64 v); simp only [List.setIfInBounds_toArray, List.set_cons_zero, List.set_cons_succ] at S2; exact ⟨hb, NM, sv, hkp, R, fv, R2, tv, h1, h2, S2⟩
theorem MS.steps {F : List Fr} (S : MS w0 p K x F w) (v : Int) : MS w0 p K { x with steps := v } F (w.setCell ⟨p.mp, 7, none⟩ (.int .i64 v)) := by
 obtain ⟨qs, e, S⟩ := S; exact ⟨qs, e, S.steps v⟩
theorem MS.lenM {F : List Fr} (S : MS w0 p K x F w) : ∃ a c tv, w.heap[p.mp]? = some (mBox p.hp p.cp p.sp p.vp (.slice a F.length c) tv x) := by
 obtain ⟨qs, e, S⟩ := S; rw [← e, List.length_map]; exact S.len
set_option maxRecDepth 100000 in
set_option maxHeartbeats 2000000 in
theorem step_any (F1 D : List Fr) (hD : ∀ d ∈ D, d.done = true) (hlen : F1.length + D.length ≤ 100) (hd : x.doing = 0)
 (H : (F1 = [] ∧ z = { x with doing := 2, want := 0, en := 0, ew := ⟨#[]⟩ } ∧ Gz = []) ∨
  (∃ F0 fr nm e y G, F1 = F0 ++ [fr] ∧ fr.done = false ∧ x.steps < x.most ∧ 0 ≤ x.steps ∧ x.most ≤ 1000000 ∧ Mc p 45 #[ptr p.mp] (.tuple #[.string nm, .int .i64 e]) { x with steps := x.steps + 1 } F1 y G ∧
   ((e = 0 ∧ z = y ∧ Gz = G) ∨ (e ≠ 0 ∧ Mc p 30 #[ptr p.mp, .int .i64 e, .string nm] (.tuple #[]) y G z Gz)))) :
 Mc p 29 #[ptr p.mp] (.int .i64 z.doing) x (F1 ++ D) z Gz := by
 intro w0 K w S; have HS := hid' S; obtain ⟨a, c, tv, h⟩ := S.lenM; have R1 := cells_of h; have y1 := blk_lt h; rw [hd] at R1; have HD := hid' hD; have HDD := hid' hd; have HH := hid' H; have HL := hid' hlen; clear S h hD H hlen hd; go_enter Tryz.func29, Tryz.ntmps29
 go_wp2_with fail
 clear R1 y1
 go_loopw [3] (fun _ wr => ∃ n, n ≤ D.length ∧ MS w0 p K x (F1 ++ D.take n) wr) (fun _ wr => meas p wr)
 case atStart => exact ⟨D.length, Nat.le_refl _, by rw [List.take_length]; exact HS.out⟩
 case round =>
  obtain ⟨n, hn, SM⟩ := hrel; obtain ⟨a2, c2, tv2, h2⟩ := SM.lenM; have hme := SM.meas
  have hlb : (F1 ++ D.take n).length ≤ 100 := by have := HL.out; simp; omega
  rcases n with _ | n
  · rw [List.take_zero, List.append_nil] at SM h2 hme hlb
    rcases HH.out with ⟨rfl, rfl, rfl⟩ | ⟨F0, fr, nm, e, y, G, rfl, hfd, hst, h0, hmx, HO, HE⟩
    · have R2 := cells_of h2; have y2 := blk_lt h2; have HSM := hid' SM; simp only [List.length_nil] at R2; clear h2 SM HH HS; go_wp2_with fail
      obtain ⟨qs, e0, S0⟩ := HSM.out; refine (m_finish S0 0 ⟨#[]⟩).mono ?_; rintro r w4 ⟨rfl, S4⟩
      have SM4 : MS w0 p K { x with doing := 2, want := 0, en := 0, ew := ⟨#[]⟩ } [] w4 := ⟨[], rfl, S4⟩
      obtain ⟨a4, c4, tv4, h4⟩ := SM4.lenM; have R4 := cells_of h4; have y4 := blk_lt h4; clear R2 y2 h4; go_wp2_with fail
      go_ret; exact ⟨rfl, SM4⟩
    · have hN1 : (F0 ++ [fr]).length = F0.length + 1 := by simp
      obtain ⟨N, hN⟩ : ∃ N, F0.length = N := ⟨_, rfl⟩
      rw [hN1, hN] at h2 hlb; obtain ⟨qs, b, hq, S⟩ := SM.snoc; have R2 := cells_of h2; have y2 := blk_lt h2; have HT := hid' (m_top S); have HS2 := hid' S; have HQ := hid' hq
      have hne : ((N : Int) + 1 == 0) = false := by simp; omega
      have hst2 : decide (x.most ≤ x.steps) = false := by simp; omega
      have HOO := hid' (fun W K' (S' : MS w0 p K' { x with steps := x.steps + 1 } (F0 ++ [fr]) W) => HO w0 K' W S'); have hw : IntKind.i64.wrap (x.steps + 1) = x.steps + 1 := IntWalk.i64_in (x.steps + 1) (by omega); have HEE := hid' HE; have HNN : Hid ((F0 ++ [fr]).length = N + 1) := hid' (by rw [hN1, hN]); clear S SM hq hN hN1 h2 HS HH HO HE hme hst h0 hmx; go_wp2_with fail
      refine HT.out.mono ?_; rintro r w2 ⟨rfl, X2⟩; have S2 := HS2.out.pure X2; clear R2 y2 HT
      by_cases hb : ∃ o i, fr = .body o i
      · obtain ⟨⟨ok, ox, on, op, ol, os⟩, i, rfl⟩ := hb; have RB := cells_of (S2.frame (q := (b, Fr.body ⟨ok, ox, on, op, ol, os⟩ i)) (by simp)); have yb : b < w2.heap.size := blk_lt (S2.frame (q := (b, Fr.body ⟨ok, ox, on, op, ol, os⟩ i)) (by simp)); simp only [Fr.cells, O.cells, List.cons_append, List.nil_append] at RB
        have hlt : decide ((i : Int) < ol) = true := by simp [Fr.done] at hfd; simp; omega
        have as1 := as_body; simp only [frV, Fr.pt]; go_wp2_with fail
        go_quiet (fail)
        have S3 := S2.pure ((Chg.refl NoB w2).drewN nq); generalize w2.drewN nq = w3 at *; clear S2 RB yb X2 HS2 hlt hfd
        have SM3 : MS w0 p K x (F0 ++ [.body ⟨ok, ox, on, op, ol, os⟩ i]) w3 := ⟨_, by simp [HQ.out], S3⟩
        obtain ⟨a3, c3, tv3, h3⟩ := SM3.lenM; rw [HNN.out] at h3; have R3 := cells_of h3; have y3 := blk_lt h3; have HS3 := hid' SM3; clear S3 SM3 h3; go_wp2_with fail
        go_quiet (fail)
        have SM4 := HS3.out.pure ((Chg.refl NoB w3).drewN nq); generalize w3.drewN nq = w4 at *; clear R3 y3 HS3; obtain ⟨a4, c4, tv4, h4⟩ := SM4.lenM; have R4 := cells_of h4; have y4 := blk_lt h4; have Z4 := free_of h4; have S5 := hid' (SM4.steps (x.steps + 1)); clear SM4 h4
        go_upto_region 16 with (fail)
        have S5 := S5.out; generalize w4.setCell _ _ = w5 at *; clear R4 y4 Z4; go_wp2_with fail
        refine (HOO.out _ _ S5).mono ?_; rintro r w6 ⟨rfl, S6⟩
        rcases HEE.out with ⟨rfl, rfl, rfl⟩ | ⟨hn0, HW⟩
        · obtain ⟨a6, c6, tv6, h6⟩ := S6.lenM; have R6 := cells_of h6; have y6 := blk_lt h6; clear h6 HEE; go_wp2_with fail
          go_ret; exact ⟨rfl, S6⟩
        · have hn1 : (e == 0) = false := by simpa using hn0
          have HWW := hid' (fun W K' (S' : MS w0 p K' y G W) => HW w0 K' W S'); clear HW hn0 HEE; go_wp2_with fail
          refine (HWW.out _ _ S6).mono ?_; rintro r w7 ⟨rfl, S7⟩; obtain ⟨a6, c6, tv6, h6⟩ := S7.lenM; have R6 := cells_of h6; have y6 := blk_lt h6; clear h6; go_wp2_with fail
          go_ret; exact ⟨rfl, S7⟩
      · have hT := not_body fr (fun o i h => hb ⟨o, i, h⟩) (ptr b); simp only [frV] at hT ⊢; generalize Fr.pt fr = T at *; go_wp2_with fail
        go_quiet (fail)
        have S3 := S2.pure ((Chg.refl NoB w2).drewN nq); generalize w2.drewN nq = w3 at *; clear S2 X2 HS2 hfd hT hb
        have SM3 : MS w0 p K x (F0 ++ [fr]) w3 := ⟨_, by simp [HQ.out], S3⟩
        obtain ⟨a3, c3, tv3, h3⟩ := SM3.lenM; rw [HNN.out] at h3; have R3 := cells_of h3; have y3 := blk_lt h3; have HS3 := hid' SM3; clear S3 SM3 h3; go_wp2_with fail
        go_quiet (fail)
        have SM4 := HS3.out.pure ((Chg.refl NoB w3).drewN nq); generalize w3.drewN nq = w4 at *; clear R3 y3 HS3; obtain ⟨a4, c4, tv4, h4⟩ := SM4.lenM; have R4 := cells_of h4; have y4 := blk_lt h4; have Z4 := free_of h4; have S5 := hid' (SM4.steps (x.steps + 1)); clear SM4 h4
        go_upto_region 16 with (fail)
        have S5 := S5.out; generalize w4.setCell _ _ = w5 at *; clear R4 y4 Z4; go_wp2_with fail
        refine (HOO.out _ _ S5).mono ?_; rintro r w6 ⟨rfl, S6⟩
        rcases HEE.out with ⟨rfl, rfl, rfl⟩ | ⟨hn0, HW⟩
        · obtain ⟨a6, c6, tv6, h6⟩ := S6.lenM; have R6 := cells_of h6; have y6 := blk_lt h6; clear h6 HEE; go_wp2_with fail
          go_ret; exact ⟨rfl, S6⟩
        · have hn1 : (e == 0) = false := by simpa using hn0
          have HWW := hid' (fun W K' (S' : MS w0 p K' y G W) => HW w0 K' W S'); clear HW hn0 HEE; go_wp2_with fail
          refine (HWW.out _ _ S6).mono ?_; rintro r w7 ⟨rfl, S7⟩; obtain ⟨a6, c6, tv6, h6⟩ := S7.lenM; have R6 := cells_of h6; have y6 := blk_lt h6; clear h6; go_wp2_with fail
          go_ret; exact ⟨rfl, S7⟩
  · obtain ⟨d, hdn⟩ : ∃ d, D[n]? = some d := ⟨D[n]'hn, List.getElem?_eq_getElem _⟩
    have hdone := HD.out d (List.mem_of_getElem? hdn)
    have htk : D.take (n + 1) = D.take n ++ [d] := by rw [List.take_add_one, hdn]; rfl
    rw [htk, ← List.append_assoc] at SM hlb hme; rw [htk, ← List.append_assoc] at h2
    obtain ⟨o, i, rfl⟩ : ∃ o i, d = .body o i := by
     cases d with
     | body o i => exact ⟨o, i, rfl⟩
     | _ => simp [Fr.done] at hdone
    simp only [Fr.done, decide_eq_true_eq] at hdone
    obtain ⟨N, hN⟩ : ∃ N, (F1 ++ D.take n).length = N := ⟨_, rfl⟩
    have hN1 : (F1 ++ D.take n ++ [Fr.body o i]).length = N + 1 := by rw [List.length_append, hN]; rfl
    rw [hN1] at h2 hme hlb; obtain ⟨qs, b, hq, S⟩ := SM.snoc; have R2 := cells_of h2; have y2 := blk_lt h2; have RB := cells_of (S.frame (q := (b, Fr.body o i)) (by simp)); have yb := blk_lt (S.frame (q := (b, Fr.body o i)) (by simp)); have HT := hid' (m_top S); have HS2 := hid' S; have HDR := hid' (fun W (S' : MAt w0 p K x (qs ++ [(b, .body o i)]) W) => m_drop S'); have HQ := hid' hq; have HNN := hid' hN; have as1 := as_body; obtain ⟨ok, ox, on, op, ol, os⟩ := o; simp only at hdone; simp only [Fr.cells, O.cells, List.cons_append, List.nil_append] at RB; simp only [frV, Fr.pt] at HT; simp only at yb
    have hlt : decide ((i : Int) < ol) = false := by simp; omega
    have hne : ((N : Int) + 1 == 0) = false := by simp; omega
    have HR := fun (W : World) (X : Chg NoB wr W) => cells_of (HS2.out.pure X |>.frame (q := (b, Fr.body ⟨ok, ox, on, op, ol, os⟩ i)) (by simp)); have HRL := fun (W : World) (X : Chg NoB wr W) => blk_lt (HS2.out.pure X |>.frame (q := (b, Fr.body ⟨ok, ox, on, op, ol, os⟩ i)) (by simp)); simp only [Fr.cells, O.cells, List.cons_append, List.nil_append] at HR; have HR := hid' HR; have HRL := hid' HRL; clear S SM hq hN h2 htk hdn hdone hN1 HS RB yb; go_wp2_with fail
    refine HT.out.mono ?_; rintro r w2 ⟨rfl, X2⟩; have RB := HR.out _ X2; have yb := HRL.out _ X2; have S2 := HS2.out.pure X2; have yb : b < w2.heap.size := yb; clear R2 y2; go_wp2_with fail
    go_quiet (fail)
    have S3 := S2.pure ((Chg.refl NoB w2).drewN nq); generalize w2.drewN nq = w3 at *; clear S2 RB yb X2 HR HRL HS2 HT; go_wp2_with fail
    refine (HDR.out _ S3).mono ?_; rintro r w4 ⟨rfl, S4⟩
    have SM4 : MS w0 p K x (F1 ++ D.take n) w4 := ⟨qs, HQ.out, S4.keep1⟩
    have hm4 := SM4.meas; go_wp2_with fail
    go_roundw
    · exact ⟨n, Nat.le_of_succ_le hn, SM4⟩
    · rw [hm4, hme, HNN.out]; omega
end
end
section
theorem as_catch (v : Value) (W : World) : (Instr.typeAssert (.iface 106 v) 101 106 true).run Tryz.prog W = .ok (.tuple #[v, .bool true]) W := by kernel_rfl
def Fr.isStop : Fr → Bool
 | .stopt => true
 | _ => false
theorem not_catch (fr : Fr) (h : fr.isStop = false) (v : Value) (W : World) : (Instr.typeAssert (.iface fr.pt v) 101 106 true).run Tryz.prog W = .ok (.tuple #[.pointer none, .bool false]) W := by
 cases fr with
 | stopt => exact absurd h (by decide)
 | body => unfold Fr.pt; kernel_rfl
 | single => unfold Fr.pt; kernel_rfl
 | counted => unfold Fr.pt; kernel_rfl
 | again => unfold Fr.pt; kernel_rfl
 | items => unfold Fr.pt; kernel_rfl
section
variable {p : MP} {x y z : MX} {G Gz : List Fr}
theorem MS.last {F : List Fr} (S : MS w0 p K x F w) (e : Int) (s : ByteArray) : MS w0 p K { x with la := e, lw := s } F ((w.setCell ⟨p.mp, 11, none⟩ (.int .i64 e)).setCell ⟨p.mp, 13, none⟩ (.string s)) := by
 obtain ⟨qs, e0, hb, NM, sv, hkp, R, fv, R2, tv, h1, h2, S⟩ := S; have S2 := (S.put2 11 (.int .i64 e)).put2 13 (.string s); simp only [List.setIfInBounds_toArray, List.set_cons_zero, List.set_cons_succ] at S2; exact ⟨qs, e0, hb, NM, sv, hkp, R, fv, R2, tv, h1, h2, S2⟩
set_option maxRecDepth 100000 in
set_option maxHeartbeats 2000000 in
theorem wrong_any (e : Int) (s : ByteArray) (F1 D : List Fr) (hD : ∀ d ∈ D, d.isStop = false) (hlen : F1.length + D.length ≤ 100)
 (H : (F1 = [] ∧ z = { x with la := e, lw := s, doing := 2, want := 0, en := e, ew := s } ∧ Gz = []) ∨
  (F1 = Gz ++ [.stopt] ∧ x.l.length < 200 ∧ z = { x with la := e, lw := s, l := x.l ++ [bO true] })) :
 Mc p 30 #[ptr p.mp, .int .i64 e, .string s] (.tuple #[]) x (F1 ++ D) z Gz := by
 intro w0 K w S; obtain ⟨a, c, tv, h⟩ := S.lenM; have R1 := cells_of h; have y1 := blk_lt h; have Z1 := free_of h; have HS := hid' (S.last e s); have HD := hid' hD; have HH := hid' H; have HL := hid' hlen; clear S h hD H hlen; go_enter Tryz.func30, Tryz.ntmps30
 go_wp2_with fail
 generalize World.setCell _ _ _ = w1 at *; clear R1 y1 Z1
 go_loopw [6] (fun _ wr => ∃ n, n ≤ D.length ∧ MS w0 p K { x with la := e, lw := s } (F1 ++ D.take n) wr) (fun _ wr => meas p wr)
 case atStart => exact ⟨D.length, Nat.le_refl _, by rw [List.take_length]; exact HS.out⟩
 case round =>
  obtain ⟨n, hn, SM⟩ := hrel; obtain ⟨a2, c2, tv2, h2⟩ := SM.lenM; have hme := SM.meas
  rcases n with _ | n
  · rw [List.take_zero, List.append_nil] at SM h2 hme
    rcases HH.out with ⟨rfl, rfl, rfl⟩ | ⟨rfl, hl, rfl⟩
    · have R2 := cells_of h2; have y2 := blk_lt h2; have HSM := hid' SM; simp only [List.length_nil] at R2; clear h2 SM HH HS; go_wp2_with fail
      obtain ⟨qs, e0, S0⟩ := HSM.out; refine (m_finish S0 e s).mono ?_; rintro r w4 ⟨rfl, S4⟩; go_wp2_with fail
      go_end0; exact ⟨rfl, [], rfl, S4⟩
    · have hN1 : (Gz ++ [Fr.stopt]).length = Gz.length + 1 := by simp
      obtain ⟨N, hN⟩ : ∃ N, Gz.length = N := ⟨_, rfl⟩
      rw [hN1, hN] at h2; obtain ⟨qs, b, hq, S⟩ := SM.snoc; have R2 := cells_of h2; have y2 := blk_lt h2; have HT := hid' (m_top S); have HS2 := hid' S; have HQ := hid' hq; have HDR := hid' (fun W (S' : MAt w0 p K { x with la := e, lw := s } (qs ++ [(b, .stopt)]) W) => m_drop S'); have HP := hid' (fun W K' (S' : MS w0 p K' { x with la := e, lw := s } Gz W) => S'.spush (bO true) (may_bO true) hl); have HTr := hid' (fun W => truth20 true W); have as1 := as_catch; simp only [frV, Fr.pt] at HT; clear S SM hq hN hN1 h2 HS HH hme hl; go_wp2_with fail
      refine HT.out.mono ?_; rintro r w2 ⟨rfl, X2⟩; have S2 := HS2.out.pure X2; clear R2 y2 HT; go_wp2_with fail
      refine (HDR.out _ S2).mono ?_; rintro r w3 ⟨rfl, S3⟩
      have SM3 : MS w0 p K { x with la := e, lw := s } Gz w3 := ⟨qs, HQ.out, S3.keep1⟩
      clear S2 S3 HS2 HDR X2; have HSM := hid' SM3; have hS1 := SM3.any; have M2 := AnyM.c2 (w0 := w0) (p := p) (K := K); have lt2 := AnyM.mlt _ hS1; clear SM3
      go_upto_region 5 with (fail)
      go_region_held3 (fun W' => AnyM w0 p K W') (repeat' (first | (with_reducible assumption) | (with_reducible refine AnyM.drew ?_)))
       (first | (go_at_call 47; refine (HTr.out _).mono ?_; rintro r w5 ⟨rfl, X5⟩; have k5 : AnyM w0 p K w5 := (by first | (with_reducible exact hS1.pure X5) | (with_reducible exact hS1.drew.pure X5))) | (go_at_call 46; refine (HP.out _ _ (by first | (with_reducible exact HSM.out.pure X5) | (with_reducible exact (HSM.out.pure X5).drew) | (with_reducible exact HSM.out.drew.pure X5))).mono ?_; rintro r w6 ⟨rfl, S6⟩; have k6 := S6.any))
      go_wp2_with fail
      refine bodyPost_ret (v := .tuple #[]) ?_ rfl ⟨rfl, S6⟩; simp [results, Tryz.results30, go_sem]
  · obtain ⟨d, hdn⟩ : ∃ d, D[n]? = some d := ⟨D[n]'hn, List.getElem?_eq_getElem _⟩
    have hstop := HD.out d (List.mem_of_getElem? hdn)
    have htk : D.take (n + 1) = D.take n ++ [d] := by rw [List.take_add_one, hdn]; rfl
    rw [htk, ← List.append_assoc] at SM hme; rw [htk, ← List.append_assoc] at h2
    obtain ⟨N, hN⟩ : ∃ N, (F1 ++ D.take n).length = N := ⟨_, rfl⟩
    have hN1 : (F1 ++ D.take n ++ [d]).length = N + 1 := by rw [List.length_append, hN]; rfl
    rw [hN1] at h2 hme; obtain ⟨qs, b, hq, S⟩ := SM.snoc; have R2 := cells_of h2; have y2 := blk_lt h2; have HT := hid' (m_top S); have HS2 := hid' S; have HDR := hid' (fun W (S' : MAt w0 p K { x with la := e, lw := s } (qs ++ [(b, d)]) W) => m_drop S'); have HQ := hid' hq; have HNN := hid' hN; have hT := not_catch d hstop (ptr b); simp only [frV] at HT; generalize Fr.pt d = T at *; clear S SM hq hN h2 htk hdn hN1 HS hstop; go_wp2_with fail
    refine HT.out.mono ?_; rintro r w2 ⟨rfl, X2⟩; have S2 := HS2.out.pure X2; clear R2 y2 HT; go_wp2_with fail
    refine (HDR.out _ S2).mono ?_; rintro r w4 ⟨rfl, S4⟩
    have SM4 : MS w0 p K { x with la := e, lw := s } (F1 ++ D.take n) w4 := ⟨qs, HQ.out, S4.keep1⟩
    have hm4 := SM4.meas; go_wp2_with fail
    go_roundw
    · exact ⟨n, Nat.le_of_succ_le hn, SM4⟩
    · rw [hm4, hme, HNN.out]; omega
end
end
section
inductive Path (p : MP) (first n : Int) : Nat → MX → List Fr → MX → List Fr → Prop
 | nil (x : MX) (F : List Fr) : Path p first n 0 x F x F
 | cons {k : Nat} {x y z : MX} {F G H : List Fr} (hd : x.doing = 0) (h0 : 0 ≤ x.steps - first) (h1 : x.steps - first < n) (hs : Mc p 29 #[ptr p.mp] (.int .i64 y.doing) x F y G) (hp : Path p first n k y G z H) : Path p first n (k + 1) x F z H
section
variable {p : MP} {x z : MX} {F H : List Fr}
set_option maxRecDepth 100000 in
set_option maxHeartbeats 1000000 in
theorem run_path {k : Nat} {n : Int} (hn : 0 ≤ n) (hn' : n ≤ 1000000) (hP : Path p x.steps n k x F z H) (hz : z.doing = 1 ∨ z.doing = 2) :
 Mc p 13 #[ptr p.mp, .int .i64 n] (.int .i64 z.doing) x F z H := by
 intro w0 K w S; obtain ⟨a, c, tv, h⟩ := S.lenM; have R1 := cells_of h; have y1 := blk_lt h; have HS := hid' S; have HP := hid' hP; have HZ := hid' hz
 generalize hfr : x.steps = first at *
 clear S h hP hz; go_enter Tryz.func13, Tryz.ntmps13
 go_wp2_with fail
 clear R1 y1
 go_loopg [27] k (fun k _ wr => ∃ y G, Path p first n k y G z H ∧ MS w0 p K y G wr)
 case atStart => exact ⟨x, F, HP.out, HS.out⟩
 case round =>
  obtain ⟨y, G, hp, SM⟩ := hrel; obtain ⟨a2, c2, tv2, h2⟩ := SM.lenM; have R2 := cells_of h2; have y2 := blk_lt h2
  cases hp with
  | nil =>
   have hz : (z.doing == 0) = false := by rcases HZ.out with h | h <;> rw [h] <;> rfl
   clear h2 HS HP; go_wp2_with fail
   go_ret; exact ⟨rfl, SM⟩
  | @cons k' _ y' _ _ G' _ hd h0 h1 hs hp =>
   rw [hd] at R2
   have hw : IntKind.i64.wrap (y.steps - first) = y.steps - first := IntWalk.i64_in (y.steps - first) (by omega)
   have hlt : decide (y.steps - first < n) = true := by simp; omega
   have HH := hid' (fun W (S' : MS w0 p K y G W) => hs w0 K W S'); have HPP := hid' hp; clear h2 HS HP hs hp hd h0 h1; go_wp2_with fail
   refine (HH.out _ SM).mono ?_; rintro r w4 ⟨rfl, S4⟩; go_wp2_with fail
   go_roundg k'
   case measure => exact Nat.lt_succ_self _
   case rel => exact ⟨y', G', HPP.out, S4⟩
end
end
section
section
variable {p : MP} {x y : MX} {F G : List Fr}
set_option maxRecDepth 100000 in
theorem do_1 (n e : Int) (hf : ∀ w, Calls Tryz.prog 131 #[.int .i64 n] w fun r w' => r = .returned (.int .i64 1) ∧ Chg NoB w w') (H : Mc p 132 #[ptr p.sp, .int .i64 n] (.int .i64 e) x F y G) :
 Mc p 121 #[ptr p.mp, .int .i64 n] (.int .i64 e) x F y G := by
 intro w0 K w S; have HF := hid' hf; have HP := hid' (fun W K' (S' : MS w0 p K' x F W) => H w0 K' W S'); have HS : Hid (∀ W, Chg NoB w W → MS w0 p K x F W) := hid' fun W X => S.pure X; clear S H hf; go_enter Tryz.func121, Tryz.ntmps121
 go_wp2_with fail
 refine (HF.out _).mono ?_; rintro r w1 ⟨rfl, X1⟩; have S1 := HS.out _ X1; have hS1 := S1.any; have HS1 := hid' S1; have M0 := AnyM.c0 (w0 := w0) (p := p) (K := K); have M1 := AnyM.c1 (w0 := w0) (p := p) (K := K); have M2 := AnyM.c2 (w0 := w0) (p := p) (K := K); have lt := AnyM.mlt _ hS1; clear HS X1 S1; have N2 := M2 _ hS1; go_wp2_with fail
 refine (HP.out _ _ HS1.out).mono ?_; rintro r w6 ⟨rfl, S6⟩; go_wp2_with fail
 go_ret; exact ⟨rfl, S6⟩
set_option maxRecDepth 100000 in
theorem do_2 (n e : Int) (hf : ∀ w, Calls Tryz.prog 131 #[.int .i64 n] w fun r w' => r = .returned (.int .i64 2) ∧ Chg NoB w w') (H : Mc p 133 #[ptr p.hp, ptr p.sp, .int .i64 n] (.int .i64 e) x F y G) :
 Mc p 121 #[ptr p.mp, .int .i64 n] (.int .i64 e) x F y G := by
 intro w0 K w S; have HF := hid' hf; have HP := hid' (fun W K' (S' : MS w0 p K' x F W) => H w0 K' W S'); have HS : Hid (∀ W, Chg NoB w W → MS w0 p K x F W) := hid' fun W X => S.pure X; clear S H hf; go_enter Tryz.func121, Tryz.ntmps121
 go_wp2_with fail
 refine (HF.out _).mono ?_; rintro r w1 ⟨rfl, X1⟩; have S1 := HS.out _ X1; have hS1 := S1.any; have HS1 := hid' S1; have M0 := AnyM.c0 (w0 := w0) (p := p) (K := K); have M1 := AnyM.c1 (w0 := w0) (p := p) (K := K); have M2 := AnyM.c2 (w0 := w0) (p := p) (K := K); have lt := AnyM.mlt _ hS1; clear HS X1 S1
 go_upto_region 5 with (fail)
 go_region_held3 (fun W' => AnyM w0 p K W') (repeat' (first | (with_reducible assumption) | (with_reducible refine AnyM.drew ?_)))
  ((go_at_call 133; refine (HP.out _ _ (by first | (with_reducible exact HS1.out) | (with_reducible exact HS1.out.drew))).mono ?_; rintro r w6 ⟨rfl, S6⟩; have k6 := S6.any))
 go_wp2_with fail
 go_ret; exact ⟨rfl, S6⟩
set_option maxRecDepth 100000 in
theorem do_3 (n e : Int) (hf : ∀ w, Calls Tryz.prog 131 #[.int .i64 n] w fun r w' => r = .returned (.int .i64 3) ∧ Chg NoB w w') (H : Mc p 134 #[ptr p.hp, ptr p.cp, ptr p.sp, .int .i64 n] (.int .i64 e) x F y G) :
 Mc p 121 #[ptr p.mp, .int .i64 n] (.int .i64 e) x F y G := by
 intro w0 K w S; have HF := hid' hf; have HP := hid' (fun W K' (S' : MS w0 p K' x F W) => H w0 K' W S'); have HS : Hid (∀ W, Chg NoB w W → MS w0 p K x F W) := hid' fun W X => S.pure X; clear S H hf; go_enter Tryz.func121, Tryz.ntmps121
 go_wp2_with fail
 refine (HF.out _).mono ?_; rintro r w1 ⟨rfl, X1⟩; have S1 := HS.out _ X1; have hS1 := S1.any; have HS1 := hid' S1; have M0 := AnyM.c0 (w0 := w0) (p := p) (K := K); have M1 := AnyM.c1 (w0 := w0) (p := p) (K := K); have M2 := AnyM.c2 (w0 := w0) (p := p) (K := K); have lt := AnyM.mlt _ hS1; clear HS X1 S1
 go_upto_region 7 with (fail)
 go_region_held3 (fun W' => AnyM w0 p K W') (repeat' (first | (with_reducible assumption) | (with_reducible refine AnyM.drew ?_)))
  ((go_at_call 134; refine (HP.out _ _ (by first | (with_reducible exact HS1.out) | (with_reducible exact HS1.out.drew))).mono ?_; rintro r w6 ⟨rfl, S6⟩; have k6 := S6.any))
 go_wp2_with fail
 go_ret; exact ⟨rfl, S6⟩
set_option maxRecDepth 100000 in
theorem do_5 (n e : Int) (hf : ∀ w, Calls Tryz.prog 131 #[.int .i64 n] w fun r w' => r = .returned (.int .i64 5) ∧ Chg NoB w w') (H : Mc p 136 #[ptr p.mp, .int .i64 n] (.int .i64 e) x F y G) :
 Mc p 121 #[ptr p.mp, .int .i64 n] (.int .i64 e) x F y G := by
 intro w0 K w S; have HF := hid' hf; have HP := hid' (fun W K' (S' : MS w0 p K' x F W) => H w0 K' W S'); have HS : Hid (∀ W, Chg NoB w W → MS w0 p K x F W) := hid' fun W X => S.pure X; clear S H hf; go_enter Tryz.func121, Tryz.ntmps121
 go_wp2_with fail
 refine (HF.out _).mono ?_; rintro r w1 ⟨rfl, X1⟩; have S1 := HS.out _ X1; have hS1 := S1.any; have HS1 := hid' S1; have M0 := AnyM.c0 (w0 := w0) (p := p) (K := K); have M1 := AnyM.c1 (w0 := w0) (p := p) (K := K); have M2 := AnyM.c2 (w0 := w0) (p := p) (K := K); have lt := AnyM.mlt _ hS1; clear HS X1 S1; have N2 := M2 _ hS1; go_wp2_with fail
 refine (HP.out _ _ HS1.out).mono ?_; rintro r w6 ⟨rfl, S6⟩; go_wp2_with fail
 go_ret; exact ⟨rfl, S6⟩
end
end
end Go.Proofs.YtpiomapnmempoaaGreat
