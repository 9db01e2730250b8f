/- Parts of the proof: Vnk, Vnw, Vnx. -/
import Derived.Test.YtpiomapnmempoaaGreatY46
namespace Go.Proofs.YtpiomapnmempoaaGreat
open Go.RowKit
variable {w0 : World}
section
theorem progB_k3 {F : List C → ByteArray → O × Int} {L : List C} {us ts : List Tok} (h : us.map k3 = ts.map k3) : progB F L us = progB F L ts := by
 have hl : us.length = ts.length := by simpa using congrArg List.length h
 unfold progB; rw [objsB_k3 h, hl]
theorem k3_all {us ts : List Tok} (h : us.map k3 = ts.map k3) (P : Int × Int × ByteArray → Prop) (ht : ∀ t ∈ ts, P (k3 t)) : ∀ t ∈ us, P (k3 t) := fun t htu => by
 have : k3 t ∈ ts.map k3 := by rw [← h]; exact List.mem_map_of_mem htu
 obtain ⟨u, hu, e⟩ := List.mem_map.1 this; rw [← e]; exact ht u hu
def kindT (t : Tok) : Bool := decide (t.s.size ≤ 100000) && decide (0 ≤ t.kind) && decide (t.kind ≤ 100) && decide (t.kind ≠ 5)
theorem ran_words (w : World) (vt : Value) (us ts : List Tok) (h : us.map k3 = ts.map k3) (HT : ToksAt w vt us) (hk : ∀ t ∈ ts, kindT t = true) (hn : ts.length ≤ 1000) (n : Int) (h0 : 0 ≤ n) (h1 : n ≤ 20000)
 {L' : List C} {o : O} (hres : progB noF (hQ sysQ) ts = (L', o, 0, 0)) {z : MX} {G : List Fr} (hz : z.doing = 2) (HP : Goes (loadX n L') [.body o 0] z G) :
 Calls Tryz.prog 7 #[vt, .int .i64 n] w fun r w' => ∃ p : MP, r = .returned (ptr p.mp) ∧ MS w p [] z G w' := by
 have hl : us.length = ts.length := by simpa using congrArg List.length h
 have hku : ∀ t ∈ us, t.s.size ≤ 100000 ∧ 0 ≤ t.kind ∧ t.kind ≤ 100 ∧ t.kind ≠ 5 := k3_all h (fun q => q.2.2.size ≤ 100000 ∧ 0 ≤ q.1 ∧ q.1 ≤ 100 ∧ q.1 ≠ 5) fun t ht => by
  have := hk t ht; simp only [kindT, Bool.and_eq_true, decide_eq_true_eq] at this; exact ⟨this.1.1.1, this.1.1.2, this.1.2, this.2⟩
 exact ran_any w vt us HT (fun t ht => by
  obtain ⟨a, b, c, -⟩ := hku t ht
  exact ⟨by omega, by omega, by omega⟩) (by omega) (fun t ht => (hku t ht).2.2.2) n h0 h1 (by rw [progB_k3 h]; exact hres) hz HP
section
variable {w0 w w' : World} {p : MP} {K K' : List (Nat × Obj)} {x y : MX} {F G : List Fr}
theorem ms_full_int (v : Int) (h0 : -2147483647 ≤ v) (h1 : v ≤ 2147483647) (S : MS w0 p K x F w) : Calls Tryz.prog 18 #[ptr p.hp, (iO v).val] w fun r w' => r = .returned (.string ⟨(intL v).toArray⟩) ∧ MS w0 p K x F w' :=
 S.tab (L' := x.L) (ds' := x.ds) (l' := x.l) fun _ _K' T => T.ask fun _K2 A => fullM_int A v h0 h1
theorem ms_full_more (o : O) (hk : o.kind = 2 ∨ o.kind = 11) (S : MS w0 p K x F w) : Calls Tryz.prog 18 #[ptr p.hp, o.val] w fun r w' => r = .returned (.string ⟨(plainC o).toList.toArray⟩) ∧ MS w0 p K x F w' :=
 S.tab (L' := x.L) (ds' := x.ds) (l' := x.l) fun _ _K' T => T.ask fun _K2 A => full_more A o hk
end
def knR : List ByteArray := [⟨#[49]⟩, ⟨#[48]⟩, ⟨#[116, 114, 117, 101]⟩]
theorem knR_cat : catT knR = ⟨#[49, 10, 48, 10, 116, 114, 117, 101, 10]⟩ := by decide +kernel
theorem kn_full {p : MP} : ∀ (i : Nat) (o : O) (t : ByteArray), knZ.l[i]? = some o → knR[i]? = some t → ∀ W K', MS w0 p K' knZ [] W → Calls Tryz.prog 18 #[ptr p.hp, o.val] W fun r w' => r = .returned (.string t) ∧ MS w0 p K' knZ [] w' := by
 intro i o t ho ht W K' S; have hl : knZ.l = [iO 1, iO 0, bO true] := rfl; rw [hl] at ho
 have e1 : (⟨(intL 1).toArray⟩ : ByteArray) = ⟨#[49]⟩ := by decide +kernel
 have e0 : (⟨(intL 0).toArray⟩ : ByteArray) = ⟨#[48]⟩ := by decide +kernel
 have eb : (⟨(plainC (bO true)).toList.toArray⟩ : ByteArray) = ⟨#[116, 114, 117, 101]⟩ := by decide +kernel
 rcases i with _ | _ | _ | i
 · obtain rfl : iO 1 = o := by simpa using ho
   obtain rfl : (⟨#[49]⟩ : ByteArray) = t := by simpa [knR] using ht
   have := ms_full_int 1 (by decide) (by decide) S; rwa [e1] at this
 · obtain rfl : iO 0 = o := by simpa using ho
   obtain rfl : (⟨#[48]⟩ : ByteArray) = t := by simpa [knR] using ht
   have := ms_full_int 0 (by decide) (by decide) S; rwa [e0] at this
 · obtain rfl : bO true = o := by simpa using ho
   obtain rfl : (⟨#[116, 114, 117, 101]⟩ : ByteArray) = t := by simpa [knR] using ht
   have := ms_full_more (bO true) (.inl rfl) S; rwa [eb] at this
 · simp [knR] at ht
theorem knT_kinds : ∀ t ∈ knT, kindT t = true := by decide +kernel
theorem kn_words (w : World) : Calls Tryz.prog 8 #[.string ⟨#[49, 32, 50, 32, 97, 100, 100, 32, 61, 32, 123, 49, 32, 48, 32, 100, 105, 118, 125, 32, 115, 116, 111, 112, 112, 101, 100]⟩] w fun r w' => ∃ v us, r = .returned v ∧ us.map k3 = knT.map k3 ∧ ToksAt w' v us ∧ Chg NoB w w' :=
 words_any _ knT (by rw [ByteArray.toList_eq]; show Rds [49, 32, 50, 32, 97, 100, 100, 32, 61, 32, 123, 49, 32, 48, 32, 100, 105, 118, 125, 32, 115, 116, 111, 112, 112, 101, 100] knT; rw [← kn_text]; exact kn_rds) (by decide) (by decide) w
set_option maxRecDepth 100000 in
theorem known23_any (w : World) : Calls Tryz.prog 5 #[] w fun r w' => r = .returned (.bool true) ∧ Chg NoB w w' := by
 have HW := hid' (kn_words w); have HR := hid' (fun W vt us (h : us.map k3 = knT.map k3) (HT : ToksAt W vt us) => ran_words W vt us knT h HT knT_kinds (by decide) 100 (by decide) (by decide) (kn_progL noF) (z := knZ) (G := []) rfl kn_goes); have HA := hid' (fun W0 W p (S : MS W0 p [] knZ [] W) => m_all knR 3 rfl rfl (by decide) (by decide) rfl kn_full S); have HFR := hid' (fun W0 W p (S : MS W0 p [] knZ [] W) => mq_frames S); rw [knR_cat, show (⟨knZ.tx.toArray⟩ : ByteArray) = ⟨#[51, 10]⟩ from rfl, show knZ.en = 0 from rfl, show knZ.ew = ⟨#[]⟩ from rfl] at HA; go_enter Tryz.func5, Tryz.ntmps5
 go_wp2_with fail
 refine HW.out.mono ?_; rintro r w1 ⟨v, us, rfl, hk, HT, X1⟩; obtain ⟨a, c, hv⟩ := ToksAt.len' HT; have HTT := hid' HT; have HK := hid' hk; have HX := hid' X1; subst hv; clear HT hk X1; go_wp2_with fail
 refine (HR.out _ _ _ HK.out HTT.out).mono ?_; rintro r w2 ⟨p, rfl, S2⟩; go_wp2_with fail
 refine (HA.out _ _ _ S2).mono ?_; rintro r w3 ⟨rfl, S3⟩; clear S2; go_wp2_with fail
 refine (HFR.out _ _ _ S3).mono ?_; rintro r w4 ⟨rfl, rfl⟩; go_wp2_with fail
 go_ret; exact ⟨rfl, HX.out.trans S3.chg⟩
end
section
theorem wordsL_app : ∀ (A B : List Tok), A ≠ [] → B ≠ [] → wordsL (A ++ B) = wordsL A ++ 32 :: wordsL B
 | [], _, h, _ => absurd rfl h
 | [t], [], _, h => absurd rfl h
 | [t], u :: r, _, _ => rfl
 | t :: u :: r, B, _, h => by
  have := wordsL_app (u :: r) B (by simp) h; show printL t ++ 32 :: wordsL ((u :: r) ++ B) = _; rw [this]; simp [wordsL]
def svW0 : List Tok := [⟨4, 0, ⟨#[97]⟩, 0⟩, ⟨9, 0, ⟨#[]⟩, 0⟩, ⟨1, 0, ⟨#[]⟩, 0⟩, ⟨10, 0, ⟨#[]⟩, 0⟩, ⟨3, 0, ⟨#[100, 101, 102]⟩, 0⟩, ⟨4, 0, ⟨#[98]⟩, 0⟩, ⟨6, 0, ⟨#[120]⟩, 0⟩, ⟨3, 0, ⟨#[100, 101, 102]⟩, 0⟩, ⟨4, 0, ⟨#[100]⟩, 0⟩, ⟨1, 3, ⟨#[]⟩, 0⟩, ⟨3, 0, ⟨#[100, 105, 99, 116]⟩, 0⟩, ⟨3, 0, ⟨#[100, 101, 102]⟩, 0⟩, ⟨3, 0, ⟨#[97]⟩, 0⟩, ⟨1, 0, ⟨#[]⟩, 0⟩]
def svW1 : List Tok := [⟨3, 0, ⟨#[112, 117, 116]⟩, 0⟩, ⟨3, 0, ⟨#[100]⟩, 0⟩, ⟨4, 0, ⟨#[107]⟩, 0⟩]
def svW2 : List Tok := [⟨3, 0, ⟨#[112, 117, 116]⟩, 0⟩, ⟨4, 0, ⟨#[115]⟩, 0⟩, ⟨3, 0, ⟨#[115, 97, 118, 101]⟩, 0⟩, ⟨3, 0, ⟨#[100, 101, 102]⟩, 0⟩, ⟨3, 0, ⟨#[98]⟩, 0⟩, ⟨1, 0, ⟨#[]⟩, 0⟩]
def svW3 : List Tok := [⟨3, 0, ⟨#[112, 117, 116]⟩, 0⟩, ⟨3, 0, ⟨#[97]⟩, 0⟩, ⟨1, 0, ⟨#[]⟩, 0⟩]
def svW4 : List Tok := [⟨3, 0, ⟨#[112, 117, 116]⟩, 0⟩, ⟨3, 0, ⟨#[100]⟩, 0⟩, ⟨4, 0, ⟨#[107]⟩, 0⟩, ⟨9, 0, ⟨#[]⟩, 0⟩, ⟨1, 1, ⟨#[]⟩, 0⟩, ⟨10, 0, ⟨#[]⟩, 0⟩, ⟨3, 0, ⟨#[112, 117, 116]⟩, 0⟩, ⟨4, 0, ⟨#[122]⟩, 0⟩, ⟨1, 1, ⟨#[]⟩, 0⟩, ⟨3, 0, ⟨#[100, 101, 102]⟩, 0⟩]
def svEK : List Tok := [⟨3, 0, ⟨#[100]⟩, 0⟩, ⟨4, 0, ⟨#[107]⟩, 0⟩, ⟨3, 0, ⟨#[103, 101, 116]⟩, 0⟩, ⟨3, 0, ⟨#[115]⟩, 0⟩, ⟨3, 0, ⟨#[114, 101, 115, 116, 111, 114, 101]⟩, 0⟩]
def svEB : List Tok := [⟨3, 0, ⟨#[115]⟩, 0⟩, ⟨3, 0, ⟨#[114, 101, 115, 116, 111, 114, 101]⟩, 0⟩, ⟨3, 0, ⟨#[97]⟩, 0⟩, ⟨1, 0, ⟨#[]⟩, 0⟩, ⟨3, 0, ⟨#[103, 101, 116]⟩, 0⟩, ⟨3, 0, ⟨#[100]⟩, 0⟩, ⟨4, 0, ⟨#[107]⟩, 0⟩, ⟨3, 0, ⟨#[103, 101, 116]⟩, 0⟩, ⟨3, 0, ⟨#[98]⟩, 0⟩, ⟨4, 0, ⟨#[122]⟩, 0⟩, ⟨3, 0, ⟨#[119, 104, 101, 114, 101]⟩, 0⟩]
theorem svW0_t : wordsL svW0 ++ [32] = [47, 97, 32, 91, 32, 48, 32, 93, 32, 100, 101, 102, 32, 47, 98, 32, 40, 120, 41, 32, 100, 101, 102, 32, 47, 100, 32, 51, 32, 100, 105, 99, 116, 32, 100, 101, 102, 32, 97, 32, 48, 32] := by decide +kernel
theorem svW1_t : [32] ++ wordsL svW1 ++ [32] = [32, 112, 117, 116, 32, 100, 32, 47, 107, 32] := by decide +kernel
theorem svW2_t : [32] ++ wordsL svW2 ++ [32] = [32, 112, 117, 116, 32, 47, 115, 32, 115, 97, 118, 101, 32, 100, 101, 102, 32, 98, 32, 48, 32] := by decide +kernel
theorem svW3_t : [32] ++ wordsL svW3 ++ [32] = [32, 112, 117, 116, 32, 97, 32, 48, 32] := by decide +kernel
theorem svW4_t : [32] ++ wordsL svW4 ++ [32] = [32, 112, 117, 116, 32, 100, 32, 47, 107, 32, 91, 32, 49, 32, 93, 32, 112, 117, 116, 32, 47, 122, 32, 49, 32, 100, 101, 102, 32] := by decide +kernel
theorem svEK_t : wordsL svEK = [100, 32, 47, 107, 32, 103, 101, 116, 32, 115, 32, 114, 101, 115, 116, 111, 114, 101] := by decide +kernel
theorem svEB_t : wordsL svEB = [115, 32, 114, 101, 115, 116, 111, 114, 101, 32, 97, 32, 48, 32, 103, 101, 116, 32, 100, 32, 47, 107, 32, 103, 101, 116, 32, 98, 32, 47, 122, 32, 119, 104, 101, 114, 101] := by decide +kernel
theorem svTK (v u : Int) : svT v u true = svW0 ++ ([⟨1, v, ⟨#[]⟩, 0⟩] ++ (svW1 ++ ([⟨1, v, ⟨#[]⟩, 0⟩] ++ (svW2 ++ ([⟨1, u, ⟨#[]⟩, 0⟩] ++ (svW3 ++ ([⟨1, u, ⟨#[]⟩, 0⟩] ++ (svW4 ++ svEK)))))))) := rfl
theorem svXK (v u : Int) : wordsL (svT v u true) = [47, 97, 32, 91, 32, 48, 32, 93, 32, 100, 101, 102, 32, 47, 98, 32, 40, 120, 41, 32, 100, 101, 102, 32, 47, 100, 32, 51, 32, 100, 105, 99, 116, 32, 100, 101, 102, 32, 97, 32, 48, 32] ++ (intL v ++ ([32, 112, 117, 116, 32, 100, 32, 47, 107, 32] ++ (intL v ++ ([32, 112, 117, 116, 32, 47, 115, 32, 115, 97, 118, 101, 32, 100, 101, 102, 32, 98, 32, 48, 32] ++ (intL u ++ ([32, 112, 117, 116, 32, 97, 32, 48, 32] ++ (intL u ++ ([32, 112, 117, 116, 32, 100, 32, 47, 107, 32, 91, 32, 49, 32, 93, 32, 112, 117, 116, 32, 47, 122, 32, 49, 32, 100, 101, 102, 32] ++ ([100, 32, 47, 107, 32, 103, 101, 116, 32, 115, 32, 114, 101, 115, 116, 111, 114, 101]))))))))) := by
 rw [svTK, wordsL_app _ _ (by decide) (by simp), wordsL_app _ _ (by simp) (by simp [svW1]), wordsL_app _ _ (by decide) (by simp), wordsL_app _ _ (by simp) (by simp [svW2]), wordsL_app _ _ (by decide) (by simp), wordsL_app _ _ (by simp) (by simp [svW3]), wordsL_app _ _ (by decide) (by simp), wordsL_app _ _ (by simp) (by simp [svW4]), wordsL_app _ _ (by decide) (by decide)]; have hi : ∀ n : Int, wordsL [⟨1, n, ⟨#[]⟩, 0⟩] = intL n := fun n => rfl; rw [hi, hi, ← svW0_t, ← svW1_t, ← svW2_t, ← svW3_t, ← svW4_t, ← svEK_t]; simp only [List.append_assoc, List.cons_append, List.nil_append]
theorem svTB (v u : Int) : svT v u false = svW0 ++ ([⟨1, v, ⟨#[]⟩, 0⟩] ++ (svW1 ++ ([⟨1, v, ⟨#[]⟩, 0⟩] ++ (svW2 ++ ([⟨1, u, ⟨#[]⟩, 0⟩] ++ (svW3 ++ ([⟨1, u, ⟨#[]⟩, 0⟩] ++ (svW4 ++ svEB)))))))) := rfl
theorem svXB (v u : Int) : wordsL (svT v u false) = [47, 97, 32, 91, 32, 48, 32, 93, 32, 100, 101, 102, 32, 47, 98, 32, 40, 120, 41, 32, 100, 101, 102, 32, 47, 100, 32, 51, 32, 100, 105, 99, 116, 32, 100, 101, 102, 32, 97, 32, 48, 32] ++ (intL v ++ ([32, 112, 117, 116, 32, 100, 32, 47, 107, 32] ++ (intL v ++ ([32, 112, 117, 116, 32, 47, 115, 32, 115, 97, 118, 101, 32, 100, 101, 102, 32, 98, 32, 48, 32] ++ (intL u ++ ([32, 112, 117, 116, 32, 97, 32, 48, 32] ++ (intL u ++ ([32, 112, 117, 116, 32, 100, 32, 47, 107, 32, 91, 32, 49, 32, 93, 32, 112, 117, 116, 32, 47, 122, 32, 49, 32, 100, 101, 102, 32] ++ ([115, 32, 114, 101, 115, 116, 111, 114, 101, 32, 97, 32, 48, 32, 103, 101, 116, 32, 100, 32, 47, 107, 32, 103, 101, 116, 32, 98, 32, 47, 122, 32, 119, 104, 101, 114, 101]))))))))) := by
 rw [svTB, wordsL_app _ _ (by decide) (by simp), wordsL_app _ _ (by simp) (by simp [svW1]), wordsL_app _ _ (by decide) (by simp), wordsL_app _ _ (by simp) (by simp [svW2]), wordsL_app _ _ (by decide) (by simp), wordsL_app _ _ (by simp) (by simp [svW3]), wordsL_app _ _ (by decide) (by simp), wordsL_app _ _ (by simp) (by simp [svW4]), wordsL_app _ _ (by decide) (by decide)]; have hi : ∀ n : Int, wordsL [⟨1, n, ⟨#[]⟩, 0⟩] = intL n := fun n => rfl; rw [hi, hi, ← svW0_t, ← svW1_t, ← svW2_t, ← svW3_t, ← svW4_t, ← svEB_t]; simp only [List.append_assoc, List.cons_append, List.nil_append]
theorem svT_may (v u : Int) (k : Bool) (h0 : -2147483647 ≤ v) (h1 : v ≤ 2147483647) (h2 : -2147483647 ≤ u) (h3 : u ≤ 2147483647) : ∀ t ∈ svT v u k, mayT t = true := by
 intro t ht
 rcases List.mem_append.1 ht with ht | ht
 · exact plain_may (svA_ok t ht)
 · rcases List.mem_cons.1 ht with rfl | ht
   · decide +kernel
   · rcases List.mem_append.1 ht with ht | ht
     · exact plain_may (svB_ok v u h0 h1 h2 h3 t ht)
     · exact plain_may (svC_ok k t ht)
theorem svT_kinds (v u : Int) (k : Bool) : ∀ t ∈ svT v u k, kindT t = true := by
 intro t ht
 rcases List.mem_append.1 ht with ht | ht
 · have : ∀ t ∈ svA, kindT t = true := by decide +kernel
   exact this t ht
 · rcases List.mem_cons.1 ht with rfl | ht
   · decide +kernel
   · rcases List.mem_append.1 ht with ht | ht
     · simp only [svB, List.mem_cons, List.not_mem_nil, or_false] at ht
       rcases ht with rfl | rfl | rfl | rfl | rfl | rfl | rfl | rfl | rfl | rfl | rfl | rfl | rfl | rfl | rfl | rfl | rfl | rfl | rfl | rfl | rfl | rfl | rfl | rfl | rfl | rfl | rfl | rfl | rfl | rfl | rfl | rfl | rfl <;> rfl
     · have : ∀ k, ∀ t ∈ svC k, kindT t = true := by decide +kernel
       exact this k t ht
theorem svT_len (v u : Int) (k : Bool) : (svT v u k).length ≤ 60 := by
 cases k
 · show 51 ≤ 60; decide
 · show 45 ≤ 60; decide
theorem sv_prog2 (v u : Int) (k : Bool) (h0 : -2147483647 ≤ v) (h1 : v ≤ 2147483647) (h2 : -2147483647 ≤ u) (h3 : u ≤ 2147483647) :
 progB noF (hQ sysQ) (svT v u k) = (LU [] [txt [120], rowC (svOs v u k)], arX 3 (svOs v u k).length, 0, 0) := by
 rw [sv_prog noF v u k h0 h1 h2 h3, List.append_assoc]; rfl
section
variable {w0 w w' : World} {p : MP} {K K' : List (Nat × Obj)} {x y : MX} {F G : List Fr}
theorem ms_full_row (o : O) (hg : SayG x.L 20 o) (S : MS w0 p K x F w) : Calls Tryz.prog 18 #[ptr p.hp, o.val] w fun r w' => r = .returned (.string ⟨((sayT x.L 20 o).take 1000).toArray⟩) ∧ MS w0 p K x F w' :=
 S.tab (L' := x.L) (ds' := x.ds) (l' := x.l) fun _ _K' T => T.ask fun _K2 A => at_full A (List.mem_cons_self ..) o hg
theorem ms_full_str (n : Int) (l : Int) (b : ByteArray) (hx : bytesH x.L ⟨8, false, n, 0, l, ⟨#[]⟩⟩ = (b, 0)) (hb : b.size ≤ 100) (hT : (parenL b.toList).length ≤ 1000) (S : MS w0 p K x F w) : Calls Tryz.prog 18 #[ptr p.hp, (⟨8, false, n, 0, l, ⟨#[]⟩⟩ : O).val] w fun r w' => r = .returned (.string ⟨(parenL b.toList).toArray⟩) ∧ MS w0 p K x F w' :=
 S.tab (L' := x.L) (ds' := x.ds) (l' := x.l) fun _ _K' T => T.ask fun _K2 A => fullM_str A (List.mem_cons_self ..) false n 0 l ⟨#[]⟩ b 0 hx hb hT
end
end
theorem keep_items (v : Int) (u : Nat) (os : List O) : itemsH (svKeep v u os).L (arN 6 1) = ([iO 1], 0) := items_a (N := 6) (LU_at _ _ 4) (by decide) (by decide) 1 rfl
theorem keep_say (v : Int) (u : Nat) (os : List O) : SayG (svKeep v u os).L 20 (arN 6 1) := by
 refine ⟨by decide +kernel, .inr (.inr (.inr (.inr rfl))), fun _ => ?_⟩; rw [keep_items]; refine ⟨rfl, by decide, by decide, fun x hx => ?_⟩
 obtain rfl : x = iO 1 := by simpa using hx
 exact ⟨by decide +kernel, .inr (.inl rfl), fun h => absurd h (by decide)⟩
noncomputable def keepR (v : Int) (u : Nat) (os : List O) : List ByteArray := [⟨((sayT (svKeep v u os).L 20 (arN 6 1)).take 1000).toArray⟩, ⟨(plainC (svO 1)).toList.toArray⟩]
theorem keep_full {p : MP} (v : Int) (u : Nat) (os : List O) : ∀ (i : Nat) (o : O) (t : ByteArray), (svKeep v u os).l[i]? = some o → (keepR v u os)[i]? = some t → ∀ W K', MS w0 p K' (svKeep v u os) [] W → Calls Tryz.prog 18 #[ptr p.hp, o.val] W fun r w' => r = .returned (.string t) ∧ MS w0 p K' (svKeep v u os) [] w' := by
 intro i o t ho ht W K' S; have hl : (svKeep v u os).l = [arN 6 1, svO 1] := rfl; rw [hl] at ho
 rcases i with _ | _ | i
 · obtain rfl : arN 6 1 = o := by simpa using ho
   obtain rfl : _ = t := by simpa [keepR] using ht
   exact ms_full_row (arN 6 1) (keep_say v u os) S
 · obtain rfl : svO 1 = o := by simpa using ho
   obtain rfl : _ = t := by simpa [keepR] using ht
   exact ms_full_more (svO 1) (.inr rfl) S
 · simp [keepR] at ht
theorem keep_size (v : Int) (u : Nat) (os : List O) : ∀ t ∈ keepR v u os, t.size ≤ 10000 := by
 intro t ht; simp only [keepR, List.mem_cons, List.not_mem_nil, or_false] at ht
 rcases ht with rfl | rfl
 · show (List.take 1000 _).toArray.size ≤ 10000; simp only [List.size_toArray, List.length_take]; omega
 · decide +kernel
def backR (v : Int) : List ByteArray := [intB v, intB v, ⟨#[40, 120, 41]⟩, ⟨#[102, 97, 108, 115, 101]⟩]
theorem back_str (v : Int) (os : List O) : bytesH (svBack v os).L ⟨8, false, 2, 0, 1, ⟨#[]⟩⟩ = (⟨#[120]⟩, 0) := by
 have hc : (svBack v os).L[2]? = some (txt [120]) := LU_at _ _ 0; have hm : mayH (svBack v os).L ⟨8, false, 2, 0, 1, ⟨#[]⟩⟩ = true := may_strU (N := 2) hc (by decide) (by decide) 1 rfl; generalize (svBack v os).L = L at *; unfold bytesH
 have hf : findE L ⟨8, false, 2, 0, 1, ⟨#[]⟩⟩ = 0 := by simp [findE, hm, held]
 simp [hf, hc, lenOf, atOf]
theorem back_full {p : MP} (v : Int) (h0 : -2147483647 ≤ v) (h1 : v ≤ 2147483647) (os : List O) : ∀ (i : Nat) (o : O) (t : ByteArray), (svBack v os).l[i]? = some o → (backR v)[i]? = some t → ∀ W K', MS w0 p K' (svBack v os) [] W → Calls Tryz.prog 18 #[ptr p.hp, o.val] W fun r w' => r = .returned (.string t) ∧ MS w0 p K' (svBack v os) [] w' := by
 intro i o t ho ht W K' S; have hl : (svBack v os).l = [iO v, iO v, ⟨8, false, 2, 0, 1, ⟨#[]⟩⟩, bO false] := rfl; rw [hl] at ho
 have e3 : (⟨(parenL (⟨#[120]⟩ : ByteArray).toList).toArray⟩ : ByteArray) = ⟨#[40, 120, 41]⟩ := by decide +kernel
 have e4 : (⟨(plainC (bO false)).toList.toArray⟩ : ByteArray) = ⟨#[102, 97, 108, 115, 101]⟩ := by decide +kernel
 rcases i with _ | _ | _ | _ | i
 · obtain rfl : iO v = o := by simpa using ho
   obtain rfl : intB v = t := by simpa [backR] using ht
   exact ms_full_int v h0 h1 S
 · obtain rfl : iO v = o := by simpa using ho
   obtain rfl : intB v = t := by simpa [backR] using ht
   exact ms_full_int v h0 h1 S
 · obtain rfl : (⟨8, false, 2, 0, 1, ⟨#[]⟩⟩ : O) = o := by simpa using ho
   obtain rfl : (⟨#[40, 120, 41]⟩ : ByteArray) = t := by simpa [backR] using ht
   have := ms_full_str 2 1 ⟨#[120]⟩ (back_str v os) (by decide) (by decide +kernel) S; rwa [e3] at this
 · obtain rfl : bO false = o := by simpa using ho
   obtain rfl : (⟨#[102, 97, 108, 115, 101]⟩ : ByteArray) = t := by simpa [backR] using ht
   have := ms_full_more (bO false) (.inl rfl) S; rwa [e4] at this
 · simp [backR] at ht
theorem intB_size (v : Int) (h0 : -2147483647 ≤ v) (h1 : v ≤ 2147483647) : (intB v).size ≤ 20 := decL_short v h0 h1
theorem sv_goes_keep (v : Int) (u : Nat) (h0 : -2147483647 ≤ v) (h1 : v ≤ 2147483647) (hu : u < 256) : Goes (loadX 20000 (LU [] [txt [120], rowC (svOs v u true)])) [.body (arX 3 (svOs v u true).length) 0] (svKeep v u (svOs v u true)) [] :=
 sv_1 v u true _ h0 h1 hu _ rfl rfl (sv_2 v u true _ h0 h1 hu _ rfl rfl (sv_3 v u true _ h0 h1 hu _ rfl rfl (sv_4 v u true _ h0 h1 hu _ rfl rfl (sv_5 v u true _ h0 h1 hu _ rfl rfl (sv_6 v u true _ h0 h1 hu _ rfl rfl (sv_keep v u _ h0 h1 _ rfl rfl))))))
theorem sv_goes_back (v : Int) (u : Nat) (h0 : -2147483647 ≤ v) (h1 : v ≤ 2147483647) (hu : u < 256) : Goes (loadX 20000 (LU [] [txt [120], rowC (svOs v u false)])) [.body (arX 3 (svOs v u false).length) 0] (svBack v (svOs v u false)) [] :=
 sv_1 v u false _ h0 h1 hu _ rfl rfl (sv_2 v u false _ h0 h1 hu _ rfl rfl (sv_3 v u false _ h0 h1 hu _ rfl rfl (sv_4 v u false _ h0 h1 hu _ rfl rfl (sv_5 v u false _ h0 h1 hu _ rfl rfl (sv_6 v u false _ h0 h1 hu _ rfl rfl (sv_back v u _ h0 h1 _ rfl rfl))))))
set_option maxRecDepth 100000 in
set_option maxHeartbeats 4000000 in
theorem saves_keep (v : Int) (u : Nat) (hv0 : -32768 ≤ v) (hv1 : v < 32768) (hu : u < 256) (w : World) :
 Calls Tryz.prog 4 #[.int .i16 v, .int .u8 u, .bool true] w fun e w' => e = .returned (.bool true) ∧ Chg NoB w w' := by
 have HKN := hid' (known23_any w); have HDV := hid' (fun W => digitsV_any v (by omega) (by omega) W); have HDU := hid' (fun W => digitsV_any (u : Int) (by omega) (by omega) W); have sv := intB_size v (by omega) (by omega); have su := intB_size (u : Int) (by omega) (by omega); have x1 := IntWalk.i64_in v (by omega); have x2 := IntWalk.i64_in (u : Int) (by omega)
 have hu0 : (0 : Int) ≤ u := by omega
 have hu1 : (u : Int) < 256 := by omega
 obtain ⟨dv, hdv⟩ : ∃ dv, dv = intB v := ⟨_, rfl⟩
 obtain ⟨du, hdu⟩ : ∃ du, du = intB (u : Int) := ⟨_, rfl⟩
 rw [← hdv] at HDV sv; rw [← hdu] at HDU su
 obtain ⟨s1, e1⟩ : ∃ s, s = (⟨#[47, 97, 32, 91, 32, 48, 32, 93, 32, 100, 101, 102, 32, 47, 98, 32, 40, 120, 41, 32, 100, 101, 102, 32, 47, 100, 32, 51, 32, 100, 105, 99, 116, 32, 100, 101, 102, 32, 97, 32, 48, 32]⟩ ++ dv : ByteArray) := ⟨_, rfl⟩
 have z1 : s1.size ≤ 62 := by rw [e1, ByteArray.size_append]; exact Nat.add_le_add (by decide : (⟨#[47, 97, 32, 91, 32, 48, 32, 93, 32, 100, 101, 102, 32, 47, 98, 32, 40, 120, 41, 32, 100, 101, 102, 32, 47, 100, 32, 51, 32, 100, 105, 99, 116, 32, 100, 101, 102, 32, 97, 32, 48, 32]⟩ : ByteArray).size ≤ 42) sv
 have KS1 : ∀ W : World, (Op.stringOp .add ⟨#[47, 97, 32, 91, 32, 48, 32, 93, 32, 100, 101, 102, 32, 47, 98, 32, 40, 120, 41, 32, 100, 101, 102, 32, 47, 100, 32, 51, 32, 100, 105, 99, 116, 32, 100, 101, 102, 32, 97, 32, 48, 32]⟩ dv).run Tryz.prog W = .ok (.string s1) W := fun W => by rw [e1]; exact run_string_add_sum W _ _ (by have a := (by decide : (⟨#[47, 97, 32, 91, 32, 48, 32, 93, 32, 100, 101, 102, 32, 47, 98, 32, 40, 120, 41, 32, 100, 101, 102, 32, 47, 100, 32, 51, 32, 100, 105, 99, 116, 32, 100, 101, 102, 32, 97, 32, 48, 32]⟩ : ByteArray).size ≤ 42); have b := sv; omega)
 obtain ⟨s2, e2⟩ : ∃ s, s = (s1 ++ ⟨#[32, 112, 117, 116, 32, 100, 32, 47, 107, 32]⟩ : ByteArray) := ⟨_, rfl⟩
 have z2 : s2.size ≤ 72 := by rw [e2, ByteArray.size_append]; exact Nat.add_le_add z1 (by decide : (⟨#[32, 112, 117, 116, 32, 100, 32, 47, 107, 32]⟩ : ByteArray).size ≤ 10)
 have KS2 : ∀ W : World, (Op.stringOp .add s1 ⟨#[32, 112, 117, 116, 32, 100, 32, 47, 107, 32]⟩).run Tryz.prog W = .ok (.string s2) W := fun W => by rw [e2]; exact run_string_add_sum W _ _ (by have a := z1; have b := (by decide : (⟨#[32, 112, 117, 116, 32, 100, 32, 47, 107, 32]⟩ : ByteArray).size ≤ 10); omega)
 obtain ⟨s3, e3⟩ : ∃ s, s = (s2 ++ dv : ByteArray) := ⟨_, rfl⟩
 have z3 : s3.size ≤ 92 := by rw [e3, ByteArray.size_append]; exact Nat.add_le_add z2 sv
 have KS3 : ∀ W : World, (Op.stringOp .add s2 dv).run Tryz.prog W = .ok (.string s3) W := fun W => by rw [e3]; exact run_string_add_sum W _ _ (by have a := z2; have b := sv; omega)
 obtain ⟨s4, e4⟩ : ∃ s, s = (s3 ++ ⟨#[32, 112, 117, 116, 32, 47, 115, 32, 115, 97, 118, 101, 32, 100, 101, 102, 32, 98, 32, 48, 32]⟩ : ByteArray) := ⟨_, rfl⟩
 have z4 : s4.size ≤ 113 := by rw [e4, ByteArray.size_append]; exact Nat.add_le_add z3 (by decide : (⟨#[32, 112, 117, 116, 32, 47, 115, 32, 115, 97, 118, 101, 32, 100, 101, 102, 32, 98, 32, 48, 32]⟩ : ByteArray).size ≤ 21)
 have KS4 : ∀ W : World, (Op.stringOp .add s3 ⟨#[32, 112, 117, 116, 32, 47, 115, 32, 115, 97, 118, 101, 32, 100, 101, 102, 32, 98, 32, 48, 32]⟩).run Tryz.prog W = .ok (.string s4) W := fun W => by rw [e4]; exact run_string_add_sum W _ _ (by have a := z3; have b := (by decide : (⟨#[32, 112, 117, 116, 32, 47, 115, 32, 115, 97, 118, 101, 32, 100, 101, 102, 32, 98, 32, 48, 32]⟩ : ByteArray).size ≤ 21); omega)
 obtain ⟨s5, e5⟩ : ∃ s, s = (s4 ++ du : ByteArray) := ⟨_, rfl⟩
 have z5 : s5.size ≤ 133 := by rw [e5, ByteArray.size_append]; exact Nat.add_le_add z4 su
 have KS5 : ∀ W : World, (Op.stringOp .add s4 du).run Tryz.prog W = .ok (.string s5) W := fun W => by rw [e5]; exact run_string_add_sum W _ _ (by have a := z4; have b := su; omega)
 obtain ⟨s6, e6⟩ : ∃ s, s = (s5 ++ ⟨#[32, 112, 117, 116, 32, 97, 32, 48, 32]⟩ : ByteArray) := ⟨_, rfl⟩
 have z6 : s6.size ≤ 142 := by rw [e6, ByteArray.size_append]; exact Nat.add_le_add z5 (by decide : (⟨#[32, 112, 117, 116, 32, 97, 32, 48, 32]⟩ : ByteArray).size ≤ 9)
 have KS6 : ∀ W : World, (Op.stringOp .add s5 ⟨#[32, 112, 117, 116, 32, 97, 32, 48, 32]⟩).run Tryz.prog W = .ok (.string s6) W := fun W => by rw [e6]; exact run_string_add_sum W _ _ (by have a := z5; have b := (by decide : (⟨#[32, 112, 117, 116, 32, 97, 32, 48, 32]⟩ : ByteArray).size ≤ 9); omega)
 obtain ⟨s7, e7⟩ : ∃ s, s = (s6 ++ du : ByteArray) := ⟨_, rfl⟩
 have z7 : s7.size ≤ 162 := by rw [e7, ByteArray.size_append]; exact Nat.add_le_add z6 su
 have KS7 : ∀ W : World, (Op.stringOp .add s6 du).run Tryz.prog W = .ok (.string s7) W := fun W => by rw [e7]; exact run_string_add_sum W _ _ (by have a := z6; have b := su; omega)
 obtain ⟨s8, e8⟩ : ∃ s, s = (s7 ++ ⟨#[32, 112, 117, 116, 32, 100, 32, 47, 107, 32, 91, 32, 49, 32, 93, 32, 112, 117, 116, 32, 47, 122, 32, 49, 32, 100, 101, 102, 32]⟩ : ByteArray) := ⟨_, rfl⟩
 have z8 : s8.size ≤ 191 := by rw [e8, ByteArray.size_append]; exact Nat.add_le_add z7 (by decide : (⟨#[32, 112, 117, 116, 32, 100, 32, 47, 107, 32, 91, 32, 49, 32, 93, 32, 112, 117, 116, 32, 47, 122, 32, 49, 32, 100, 101, 102, 32]⟩ : ByteArray).size ≤ 29)
 have KS8 : ∀ W : World, (Op.stringOp .add s7 ⟨#[32, 112, 117, 116, 32, 100, 32, 47, 107, 32, 91, 32, 49, 32, 93, 32, 112, 117, 116, 32, 47, 122, 32, 49, 32, 100, 101, 102, 32]⟩).run Tryz.prog W = .ok (.string s8) W := fun W => by rw [e8]; exact run_string_add_sum W _ _ (by have a := z7; have b := (by decide : (⟨#[32, 112, 117, 116, 32, 100, 32, 47, 107, 32, 91, 32, 49, 32, 93, 32, 112, 117, 116, 32, 47, 122, 32, 49, 32, 100, 101, 102, 32]⟩ : ByteArray).size ≤ 29); omega)
 obtain ⟨s9, e9⟩ : ∃ s, s = (s8 ++ ⟨#[100, 32, 47, 107, 32, 103, 101, 116, 32, 115, 32, 114, 101, 115, 116, 111, 114, 101]⟩ : ByteArray) := ⟨_, rfl⟩
 have z9 : s9.size ≤ 209 := by rw [e9, ByteArray.size_append]; exact Nat.add_le_add z8 (by decide : (⟨#[100, 32, 47, 107, 32, 103, 101, 116, 32, 115, 32, 114, 101, 115, 116, 111, 114, 101]⟩ : ByteArray).size ≤ 18)
 have KS9 : ∀ W : World, (Op.stringOp .add s8 ⟨#[100, 32, 47, 107, 32, 103, 101, 116, 32, 115, 32, 114, 101, 115, 116, 111, 114, 101]⟩).run Tryz.prog W = .ok (.string s9) W := fun W => by rw [e9]; exact run_string_add_sum W _ _ (by have a := z8; have b := (by decide : (⟨#[100, 32, 47, 107, 32, 103, 101, 116, 32, 115, 32, 114, 101, 115, 116, 111, 114, 101]⟩ : ByteArray).size ≤ 18); omega)
 have hlst : s9.toList = wordsL (svT v u true) := by
  rw [svXK, e9, e8, e7, e6, e5, e4, e3, e2, e1, hdv, hdu]; simp only [app_lst, List.append_assoc]; simp only [ByteArray.toList_eq]
 have HW := hid' (fun W => words_any s9 (svT v u true) (by rw [hlst]; exact wordsL_rds _ (svT_may v u true (by omega) (by omega) (by omega) (by omega))) (by omega) (by have := svT_len v u true; omega) W); have HR := hid' (fun W vt us (h : us.map k3 = (svT v u true).map k3) (HT : ToksAt W vt us) => ran_words W vt us (svT v u true) h HT (svT_kinds v u true) (by have := svT_len v u true; omega) 20000 (by decide) (by decide) (sv_prog2 v u true (by omega) (by omega) (by omega) (by omega)) (z := svKeep v u (svOs v u true)) (G := []) rfl (sv_goes_keep v u (by omega) (by omega) hu)); have HA := hid' (fun W0 W p (S : MS W0 p [] (svKeep v u (svOs v u true)) [] W) => m_all (keepR v u (svOs v u true)) 2 rfl rfl (by decide) (keep_size v u _) rfl (keep_full v u _) S); rw [show (svKeep v u (svOs v u true)).en = 17 from rfl, show (svKeep v u (svOs v u true)).ew = ⟨#[114, 101, 115, 116, 111, 114, 101]⟩ from op_word 97 5 [114, 101, 115, 116, 111, 114, 101] (by decide +kernel)] at HA; generalize catT (keepR v u (svOs v u true)) = tA at HA; generalize (⟨(svKeep v u (svOs v u true)).tx.toArray⟩ : ByteArray) = tB at HA; clear e1 z1 e2 z2 e3 z3 e4 z4 e5 z5 e6 z6 e7 z7 e8 z8 e9 z9 hlst hdv hdu sv su hu; go_enter Tryz.func4, Tryz.ntmps4
 go_wp2_with fail
 refine HKN.out.mono ?_; rintro r w1 ⟨rfl, X1⟩; go_wp2_with fail
 refine (HDV.out _).mono ?_; rintro r w2 ⟨rfl, X2⟩; go_wp2_with fail
 refine (HDV.out _).mono ?_; rintro r w3 ⟨rfl, X3⟩; go_wp2_with fail
 refine (HDU.out _).mono ?_; rintro r w4 ⟨rfl, X4⟩; go_wp2_with fail
 refine (HDU.out _).mono ?_; rintro r w5 ⟨rfl, X5⟩; go_wp2_with fail
 refine (HW.out _).mono ?_; rintro r w6 ⟨vt, us, rfl, hk, HT, X6⟩; obtain ⟨a, cp, hvt⟩ := ToksAt.len' HT; have HTT := hid' HT; have HK := hid' hk; have HX := hid' (((((X1.trans X2).trans X3).trans X4).trans X5).trans X6); subst hvt; clear HT hk X1 X2 X3 X4 X5 X6; go_wp2_with fail
 refine (HR.out _ _ _ HK.out HTT.out).mono ?_; rintro r w7 ⟨p, rfl, S7⟩; go_wp2_with fail
 refine (HA.out _ _ _ S7).mono ?_; rintro r w8 ⟨rfl, S8⟩; clear S7; go_wp2_with fail
 go_ret; exact ⟨rfl, HX.out.trans S8.chg⟩
set_option maxRecDepth 100000 in
set_option maxHeartbeats 4000000 in
theorem saves_back (v : Int) (u : Nat) (hv0 : -32768 ≤ v) (hv1 : v < 32768) (hu : u < 256) (w : World) :
 Calls Tryz.prog 4 #[.int .i16 v, .int .u8 u, .bool false] w fun e w' => e = .returned (.bool true) ∧ Chg NoB w w' := by
 have HKN := hid' (known23_any w); have HDV := hid' (fun W => digitsV_any v (by omega) (by omega) W); have HDU := hid' (fun W => digitsV_any (u : Int) (by omega) (by omega) W); have sv := intB_size v (by omega) (by omega); have su := intB_size (u : Int) (by omega) (by omega); have x1 := IntWalk.i64_in v (by omega); have x2 := IntWalk.i64_in (u : Int) (by omega)
 have hu0 : (0 : Int) ≤ u := by omega
 have hu1 : (u : Int) < 256 := by omega
 obtain ⟨dv, hdv⟩ : ∃ dv, dv = intB v := ⟨_, rfl⟩
 obtain ⟨du, hdu⟩ : ∃ du, du = intB (u : Int) := ⟨_, rfl⟩
 rw [← hdv] at HDV sv; rw [← hdu] at HDU su
 obtain ⟨s1, e1⟩ : ∃ s, s = (⟨#[47, 97, 32, 91, 32, 48, 32, 93, 32, 100, 101, 102, 32, 47, 98, 32, 40, 120, 41, 32, 100, 101, 102, 32, 47, 100, 32, 51, 32, 100, 105, 99, 116, 32, 100, 101, 102, 32, 97, 32, 48, 32]⟩ ++ dv : ByteArray) := ⟨_, rfl⟩
 have z1 : s1.size ≤ 62 := by rw [e1, ByteArray.size_append]; exact Nat.add_le_add (by decide : (⟨#[47, 97, 32, 91, 32, 48, 32, 93, 32, 100, 101, 102, 32, 47, 98, 32, 40, 120, 41, 32, 100, 101, 102, 32, 47, 100, 32, 51, 32, 100, 105, 99, 116, 32, 100, 101, 102, 32, 97, 32, 48, 32]⟩ : ByteArray).size ≤ 42) sv
 have KS1 : ∀ W : World, (Op.stringOp .add ⟨#[47, 97, 32, 91, 32, 48, 32, 93, 32, 100, 101, 102, 32, 47, 98, 32, 40, 120, 41, 32, 100, 101, 102, 32, 47, 100, 32, 51, 32, 100, 105, 99, 116, 32, 100, 101, 102, 32, 97, 32, 48, 32]⟩ dv).run Tryz.prog W = .ok (.string s1) W := fun W => by rw [e1]; exact run_string_add_sum W _ _ (by have a := (by decide : (⟨#[47, 97, 32, 91, 32, 48, 32, 93, 32, 100, 101, 102, 32, 47, 98, 32, 40, 120, 41, 32, 100, 101, 102, 32, 47, 100, 32, 51, 32, 100, 105, 99, 116, 32, 100, 101, 102, 32, 97, 32, 48, 32]⟩ : ByteArray).size ≤ 42); have b := sv; omega)
 obtain ⟨s2, e2⟩ : ∃ s, s = (s1 ++ ⟨#[32, 112, 117, 116, 32, 100, 32, 47, 107, 32]⟩ : ByteArray) := ⟨_, rfl⟩
 have z2 : s2.size ≤ 72 := by rw [e2, ByteArray.size_append]; exact Nat.add_le_add z1 (by decide : (⟨#[32, 112, 117, 116, 32, 100, 32, 47, 107, 32]⟩ : ByteArray).size ≤ 10)
 have KS2 : ∀ W : World, (Op.stringOp .add s1 ⟨#[32, 112, 117, 116, 32, 100, 32, 47, 107, 32]⟩).run Tryz.prog W = .ok (.string s2) W := fun W => by rw [e2]; exact run_string_add_sum W _ _ (by have a := z1; have b := (by decide : (⟨#[32, 112, 117, 116, 32, 100, 32, 47, 107, 32]⟩ : ByteArray).size ≤ 10); omega)
 obtain ⟨s3, e3⟩ : ∃ s, s = (s2 ++ dv : ByteArray) := ⟨_, rfl⟩
 have z3 : s3.size ≤ 92 := by rw [e3, ByteArray.size_append]; exact Nat.add_le_add z2 sv
 have KS3 : ∀ W : World, (Op.stringOp .add s2 dv).run Tryz.prog W = .ok (.string s3) W := fun W => by rw [e3]; exact run_string_add_sum W _ _ (by have a := z2; have b := sv; omega)
 obtain ⟨s4, e4⟩ : ∃ s, s = (s3 ++ ⟨#[32, 112, 117, 116, 32, 47, 115, 32, 115, 97, 118, 101, 32, 100, 101, 102, 32, 98, 32, 48, 32]⟩ : ByteArray) := ⟨_, rfl⟩
 have z4 : s4.size ≤ 113 := by rw [e4, ByteArray.size_append]; exact Nat.add_le_add z3 (by decide : (⟨#[32, 112, 117, 116, 32, 47, 115, 32, 115, 97, 118, 101, 32, 100, 101, 102, 32, 98, 32, 48, 32]⟩ : ByteArray).size ≤ 21)
 have KS4 : ∀ W : World, (Op.stringOp .add s3 ⟨#[32, 112, 117, 116, 32, 47, 115, 32, 115, 97, 118, 101, 32, 100, 101, 102, 32, 98, 32, 48, 32]⟩).run Tryz.prog W = .ok (.string s4) W := fun W => by rw [e4]; exact run_string_add_sum W _ _ (by have a := z3; have b := (by decide : (⟨#[32, 112, 117, 116, 32, 47, 115, 32, 115, 97, 118, 101, 32, 100, 101, 102, 32, 98, 32, 48, 32]⟩ : ByteArray).size ≤ 21); omega)
 obtain ⟨s5, e5⟩ : ∃ s, s = (s4 ++ du : ByteArray) := ⟨_, rfl⟩
 have z5 : s5.size ≤ 133 := by rw [e5, ByteArray.size_append]; exact Nat.add_le_add z4 su
 have KS5 : ∀ W : World, (Op.stringOp .add s4 du).run Tryz.prog W = .ok (.string s5) W := fun W => by rw [e5]; exact run_string_add_sum W _ _ (by have a := z4; have b := su; omega)
 obtain ⟨s6, e6⟩ : ∃ s, s = (s5 ++ ⟨#[32, 112, 117, 116, 32, 97, 32, 48, 32]⟩ : ByteArray) := ⟨_, rfl⟩
 have z6 : s6.size ≤ 142 := by rw [e6, ByteArray.size_append]; exact Nat.add_le_add z5 (by decide : (⟨#[32, 112, 117, 116, 32, 97, 32, 48, 32]⟩ : ByteArray).size ≤ 9)
 have KS6 : ∀ W : World, (Op.stringOp .add s5 ⟨#[32, 112, 117, 116, 32, 97, 32, 48, 32]⟩).run Tryz.prog W = .ok (.string s6) W := fun W => by rw [e6]; exact run_string_add_sum W _ _ (by have a := z5; have b := (by decide : (⟨#[32, 112, 117, 116, 32, 97, 32, 48, 32]⟩ : ByteArray).size ≤ 9); omega)
 obtain ⟨s7, e7⟩ : ∃ s, s = (s6 ++ du : ByteArray) := ⟨_, rfl⟩
 have z7 : s7.size ≤ 162 := by rw [e7, ByteArray.size_append]; exact Nat.add_le_add z6 su
 have KS7 : ∀ W : World, (Op.stringOp .add s6 du).run Tryz.prog W = .ok (.string s7) W := fun W => by rw [e7]; exact run_string_add_sum W _ _ (by have a := z6; have b := su; omega)
 obtain ⟨s8, e8⟩ : ∃ s, s = (s7 ++ ⟨#[32, 112, 117, 116, 32, 100, 32, 47, 107, 32, 91, 32, 49, 32, 93, 32, 112, 117, 116, 32, 47, 122, 32, 49, 32, 100, 101, 102, 32]⟩ : ByteArray) := ⟨_, rfl⟩
 have z8 : s8.size ≤ 191 := by rw [e8, ByteArray.size_append]; exact Nat.add_le_add z7 (by decide : (⟨#[32, 112, 117, 116, 32, 100, 32, 47, 107, 32, 91, 32, 49, 32, 93, 32, 112, 117, 116, 32, 47, 122, 32, 49, 32, 100, 101, 102, 32]⟩ : ByteArray).size ≤ 29)
 have KS8 : ∀ W : World, (Op.stringOp .add s7 ⟨#[32, 112, 117, 116, 32, 100, 32, 47, 107, 32, 91, 32, 49, 32, 93, 32, 112, 117, 116, 32, 47, 122, 32, 49, 32, 100, 101, 102, 32]⟩).run Tryz.prog W = .ok (.string s8) W := fun W => by rw [e8]; exact run_string_add_sum W _ _ (by have a := z7; have b := (by decide : (⟨#[32, 112, 117, 116, 32, 100, 32, 47, 107, 32, 91, 32, 49, 32, 93, 32, 112, 117, 116, 32, 47, 122, 32, 49, 32, 100, 101, 102, 32]⟩ : ByteArray).size ≤ 29); omega)
 obtain ⟨s9, e9⟩ : ∃ s, s = (s8 ++ ⟨#[115, 32, 114, 101, 115, 116, 111, 114, 101, 32, 97, 32, 48, 32, 103, 101, 116, 32, 100, 32, 47, 107, 32, 103, 101, 116, 32, 98, 32, 47, 122, 32, 119, 104, 101, 114, 101]⟩ : ByteArray) := ⟨_, rfl⟩
 have z9 : s9.size ≤ 228 := by rw [e9, ByteArray.size_append]; exact Nat.add_le_add z8 (by decide : (⟨#[115, 32, 114, 101, 115, 116, 111, 114, 101, 32, 97, 32, 48, 32, 103, 101, 116, 32, 100, 32, 47, 107, 32, 103, 101, 116, 32, 98, 32, 47, 122, 32, 119, 104, 101, 114, 101]⟩ : ByteArray).size ≤ 37)
 have KS9 : ∀ W : World, (Op.stringOp .add s8 ⟨#[115, 32, 114, 101, 115, 116, 111, 114, 101, 32, 97, 32, 48, 32, 103, 101, 116, 32, 100, 32, 47, 107, 32, 103, 101, 116, 32, 98, 32, 47, 122, 32, 119, 104, 101, 114, 101]⟩).run Tryz.prog W = .ok (.string s9) W := fun W => by rw [e9]; exact run_string_add_sum W _ _ (by have a := z8; have b := (by decide : (⟨#[115, 32, 114, 101, 115, 116, 111, 114, 101, 32, 97, 32, 48, 32, 103, 101, 116, 32, 100, 32, 47, 107, 32, 103, 101, 116, 32, 98, 32, 47, 122, 32, 119, 104, 101, 114, 101]⟩ : ByteArray).size ≤ 37); omega)
 have hlst : s9.toList = wordsL (svT v u false) := by
  rw [svXB, e9, e8, e7, e6, e5, e4, e3, e2, e1, hdv, hdu]; simp only [app_lst, List.append_assoc]; simp only [ByteArray.toList_eq]
 have HW := hid' (fun W => words_any s9 (svT v u false) (by rw [hlst]; exact wordsL_rds _ (svT_may v u false (by omega) (by omega) (by omega) (by omega))) (by omega) (by have := svT_len v u false; omega) W); have HR := hid' (fun W vt us (h : us.map k3 = (svT v u false).map k3) (HT : ToksAt W vt us) => ran_words W vt us (svT v u false) h HT (svT_kinds v u false) (by have := svT_len v u false; omega) 20000 (by decide) (by decide) (sv_prog2 v u false (by omega) (by omega) (by omega) (by omega)) (z := svBack v (svOs v u false)) (G := []) rfl (sv_goes_back v u (by omega) (by omega) hu))
 obtain ⟨r1, f1⟩ : ∃ s, s = (dv ++ ⟨#[10]⟩ : ByteArray) := ⟨_, rfl⟩
 have y1 : r1.size ≤ 21 := by rw [f1, ByteArray.size_append]; exact Nat.add_le_add sv (by decide : (⟨#[10]⟩ : ByteArray).size ≤ 1)
 have KR1 : ∀ W : World, (Op.stringOp .add dv ⟨#[10]⟩).run Tryz.prog W = .ok (.string r1) W := fun W => by rw [f1]; exact run_string_add_sum W _ _ (by have a := sv; have b := (by decide : (⟨#[10]⟩ : ByteArray).size ≤ 1); omega)
 obtain ⟨r2, f2⟩ : ∃ s, s = (r1 ++ dv : ByteArray) := ⟨_, rfl⟩
 have y2 : r2.size ≤ 41 := by rw [f2, ByteArray.size_append]; exact Nat.add_le_add y1 sv
 have KR2 : ∀ W : World, (Op.stringOp .add r1 dv).run Tryz.prog W = .ok (.string r2) W := fun W => by rw [f2]; exact run_string_add_sum W _ _ (by have a := y1; have b := sv; omega)
 obtain ⟨r3, f3⟩ : ∃ s, s = (r2 ++ ⟨#[10, 40, 120, 41, 10, 102, 97, 108, 115, 101, 10]⟩ : ByteArray) := ⟨_, rfl⟩
 have y3 : r3.size ≤ 52 := by rw [f3, ByteArray.size_append]; exact Nat.add_le_add y2 (by decide : (⟨#[10, 40, 120, 41, 10, 102, 97, 108, 115, 101, 10]⟩ : ByteArray).size ≤ 11)
 have KR3 : ∀ W : World, (Op.stringOp .add r2 ⟨#[10, 40, 120, 41, 10, 102, 97, 108, 115, 101, 10]⟩).run Tryz.prog W = .ok (.string r3) W := fun W => by rw [f3]; exact run_string_add_sum W _ _ (by have a := y2; have b := (by decide : (⟨#[10, 40, 120, 41, 10, 102, 97, 108, 115, 101, 10]⟩ : ByteArray).size ≤ 11); omega)
 have hcat : catT (backR v) = r3 := by
  rw [f3, f2, f1, hdv]; apply ByteArray.ext
  simp [catT, backR, ByteArray.data_append]
 have HA := hid' (fun W0 W p (S : MS W0 p [] (svBack v (svOs v u false)) [] W) => m_all (backR v) 4 rfl rfl (by decide) (fun t ht => by
  simp only [backR, List.mem_cons, List.not_mem_nil, or_false] at ht; have := intB_size v (by omega) (by omega)
  rcases ht with rfl | rfl | rfl | rfl
  · omega
  · omega
  · decide
  · decide) rfl (back_full v (by omega) (by omega) _) S)
 rw [hcat, show (svBack v (svOs v u false)).en = 0 from rfl, show (svBack v (svOs v u false)).ew = ⟨#[]⟩ from rfl] at HA; generalize (⟨(svBack v (svOs v u false)).tx.toArray⟩ : ByteArray) = tB at HA; clear f1 f2 f3 y1 y2 y3 hcat; clear e1 z1 e2 z2 e3 z3 e4 z4 e5 z5 e6 z6 e7 z7 e8 z8 e9 z9 hlst hdv hdu sv su hu; go_enter Tryz.func4, Tryz.ntmps4
 go_wp2_with fail
 refine HKN.out.mono ?_; rintro r w1 ⟨rfl, X1⟩; go_wp2_with fail
 refine (HDV.out _).mono ?_; rintro r w2 ⟨rfl, X2⟩; go_wp2_with fail
 refine (HDV.out _).mono ?_; rintro r w3 ⟨rfl, X3⟩; go_wp2_with fail
 refine (HDU.out _).mono ?_; rintro r w4 ⟨rfl, X4⟩; go_wp2_with fail
 refine (HDU.out _).mono ?_; rintro r w5 ⟨rfl, X5⟩; go_wp2_with fail
 refine (HW.out _).mono ?_; rintro r w6 ⟨vt, us, rfl, hk, HT, X6⟩; obtain ⟨a, cp, hvt⟩ := ToksAt.len' HT; have HTT := hid' HT; have HK := hid' hk; have HX := hid' (((((X1.trans X2).trans X3).trans X4).trans X5).trans X6); subst hvt; clear HT hk X1 X2 X3 X4 X5 X6; go_wp2_with fail
 refine (HR.out _ _ _ HK.out HTT.out).mono ?_; rintro r w7 ⟨p, rfl, S7⟩; go_wp2_with fail
 refine (HA.out _ _ _ S7).mono ?_; rintro r w8 ⟨rfl, S8⟩; clear S7; go_wp2_with fail
 refine (HDV.out _).mono ?_; rintro r w9 ⟨rfl, X9⟩; go_wp2_with fail
 refine (HDV.out _).mono ?_; rintro r w10 ⟨rfl, X10⟩; go_wp2_with fail
 go_ret; exact ⟨rfl, ((HX.out.trans S8.chg).trans X9).trans X10⟩
theorem machineSaves_any (v u : Int) (keep : Bool) (hv0 : -32768 ≤ v) (hv1 : v < 32768) (hu0 : 0 ≤ u) (hu1 : u < 256) (w : World) :
 Calls Tryz.prog 4 #[.int .i16 v, .int .u8 u, .bool keep] w fun e w' => e = .returned (.bool true) ∧ Chg NoB w w' := by
 obtain ⟨n, rfl⟩ : ∃ n : Nat, u = (n : Int) := ⟨u.toNat, by omega⟩
 cases keep
 · exact saves_back v n hv0 hv1 (by omega) w
 · exact saves_keep v n hv0 hv1 (by omega) w
end Go.Proofs.YtpiomapnmempoaaGreat
