/- Sox, Sow, Son, Soz -/
import Derived.Test.YteglbjcdlekbpaaGreatZSeqh
import Derived.Test.YteglbjcdlekbpaaGreatZSeqf
import Derived.Test.YteglbjcdlekbpaaGreatZSeqb
/- Plain: SeqOrder: its map, and the six operators. -/
namespace Go.Proofs.YteglbjcdlekbpaaGreat
open Go.RowKit

/-- The operators that SeqOrder asks, their numbers, what they say. -/
def nmF : Nat → ByteArray
  | 0 => ⟨#[108, 116]⟩
  | 1 => ⟨#[103, 116]⟩
  | 2 => ⟨#[108, 101]⟩
  | 3 => ⟨#[103, 101]⟩
  | 4 => ⟨#[101, 113]⟩
  | _ => ⟨#[110, 101]⟩
def noF : Nat → Int
  | 0 => 44
  | 1 => 42
  | 2 => 45
  | 3 => 43
  | 4 => 40
  | _ => 41
def vaF (le mo eq : Bool) : Nat → Bool
  | 0 => le
  | 1 => mo
  | 2 => !mo
  | 3 => !le
  | 4 => eq
  | _ => !eq
/-- The map behind k rounds. -/
def esF (v : Nat → Bool) : Nat → Array MapEntry
  | 0 => #[]
  | k + 1 => (esF v k).push ⟨.string (nmF k), .bool (v k), k⟩
abbrev mpBox (v : Nat → Bool) (k : Nat) : Obj := .map (esF v k) k
theorem below6 {P : Nat → Prop} (h0 : P 0) (h1 : P 1) (h2 : P 2) (h3 : P 3) (h4 : P 4) (h5 : P 5) : ∀ j, j < 6 → P j := fun j hj => by
  rcases j with _ | _ | _ | _ | _ | _ | j
  · exact h0
  · exact h1
  · exact h2
  · exact h3
  · exact h4
  · exact h5
  · omega
theorem es_none (v : Nat → Bool) : ∀ k, k < 6 → Instr.findNow .string (.string (nmF k)) (esF v k).toList 0 = some none := below6 rfl rfl rfl rfl rfl rfl
theorem es_some (v : Nat → Bool) : ∀ j, j < 6 → Instr.findNow .string (.string (nmF j)) (esF v 6).toList 0 = some (some (j, .bool (v j))) := below6 rfl rfl rfl rfl rfl rfl
theorem run_upd (w : World) (r k : Nat) (v : Nat → Bool) (hk : k < 6) (hb : w.heap[r]? = some (mpBox v k)) (b : Bool) (hv : v k = b) :
    (Instr.mapUpdate 73 (.map (some r)) (.string (nmF k)) (.bool b)).run Tryz.prog w = .ok () { w with heap := w.heap.setIfInBounds r (mpBox v (k + 1)) } := by
  subst hv
  have hc : (Instr.checkKey false 10000 9 (.string (nmF k))).run Tryz.prog w = .ok () w := MapKept.run_checkKey (k := .string (nmF k)) Tryz.underlying9 (by simp [MapKept.IsKey]) false 9999
  simp [Instr.mapUpdate, run_underlying Tryz.underlying73, MapKept.run_getObj_map hb, hc, MapKept.run_findKey Tryz.underlying9 (es_none v k hk), MapKept.run_setObj_map _ hb, Result.andThen]
  rfl
theorem run_look (w : World) (r j : Nat) (v : Nat → Bool) (hj : j < 6) (hb : w.heap[r]? = some (mpBox v 6)) :
    (Instr.lookup 73 (.map (some r)) (.string (nmF j)) false).run Tryz.prog w = .ok (.bool (v j)) w := by
  have hc : ∀ e, (Instr.checkKey e 10000 9 (.string (nmF j))).run Tryz.prog w = .ok () w := fun e => MapKept.run_checkKey (k := .string (nmF j)) Tryz.underlying9 (by simp [MapKept.IsKey]) e 9999
  simp [Instr.lookup, run_underlying Tryz.underlying73, MapKept.run_getObj_map hb, hc, MapKept.run_findKey Tryz.underlying9 (es_some v j hj), Result.andThen]
/-- A box is replaced. -/
theorem Ats.putO' {w0 w : World} {M : List (Nat × List C)} {K : List (Nat × Obj)} {b : Nat} {o : Obj} (A : Ats w0 w M ((b, o) :: K)) (o' : Obj) : Ats w0 { w with heap := w.heap.setIfInBounds b o' } M ((b, o') :: K) := by
  obtain ⟨h, h1, H, X0, D, F, k, n⟩ := A
  obtain ⟨kb, kn, kg⟩ := k _ (List.mem_cons_self ..)
  have hs := MapKept.heap_set (o' := o') kb
  have X : Chg (· = b) w { w with heap := w.heap.setIfInBounds b o' } := ⟨rfl, rfl, rfl, by simp, fun i _ hi => hs.2 i hi⟩
  refine ⟨h, h1, fun x hx => (H x hx).chg X fun c hc e => kn (List.mem_flatMap.2 ⟨x, hx, e ▸ hc⟩), X0.trans' X (fun i hi e => by simp only at e kg; omega), D, F, fun q hq => ?_, n⟩
  rcases List.mem_cons.1 hq with rfl | hq
  · exact ⟨hs.1, kn, kg⟩
  · refine ⟨X.blk (k q (List.mem_cons_of_mem _ hq)).1 fun e => ?_, (k q (List.mem_cons_of_mem _ hq)).2⟩
    rw [List.map_cons, List.nodup_cons] at n
    exact n.1 (List.mem_map.2 ⟨q, hq, e⟩)
/-- The law's boxes without what a round made. -/
theorem FQ.ats {w0 W : World} {hp sp gp tp : Nat} {KB : List (Nat × Obj)} {x : QX} (S : FQ w0 hp sp gp tp KB x W) : Ats w0 W [] KB := by
  obtain ⟨E, F, HE, HF, hl, R, lv, hr, A⟩ := S
  exact A.drop.keep (((List.sublist_append_right F KB).trans (List.sublist_append_right E _)).trans ((List.sublist_cons_self _ _).trans (List.sublist_append_right R _)))
theorem op_F : ∀ j, j < 6 → ∀ w : World, Calls Tryz.prog 12 #[.string (nmF j)] w fun r w2 => r = .returned (.tuple #[.int .i64 (noF j), .bool true]) ∧ Chg NoB w w2 :=
  below6 (number_hit 43 2 [108, 116] (by decide +kernel)) (number_hit 41 2 [103, 116] (by decide +kernel)) (number_hit 44 2 [108, 101] (by decide +kernel)) (number_hit 42 2 [103, 101] (by decide +kernel)) (number_hit 39 2 [101, 113] (by decide +kernel)) (number_hit 40 2 [110, 101] (by decide +kernel))
theorem do_txt {w0 : World} {M : List (Nat × List C)} {sp hp : Nat} {L : List C} {a b : O} {x y : ByteArray} {ea eb : Int} (hm : (hp, L) ∈ M) (ka : a.kind = 8) (kb : b.kind = 8) (hH : HeldAll L [a, b]) (hx : bytesH L a = (x, ea)) (hy : bytesH L b = (y, eb)) :
    ∀ j, j < 6 → ∀ w' K', StkAt w0 w' M K' sp [a, b] → Calls Tryz.prog 59 #[ptr hp, ptr sp, .int .i64 (noF j)] w' fun r w2 => r = .returned (.int .i64 0) ∧ StkAt w0 w2 M K' sp [bO (vaF (Op.bytesLess x.toList y.toList) (!(Op.bytesLess x.toList y.toList || x.toList == y.toList)) (x.toList == y.toList) j)] := by
  have HH := fun (n : Int) (hn : n = 42 ∨ n = 43 ∨ n = 44 ∨ n = 45) (v : Bool) (hv : cmpB n (Op.bytesLess x.toList y.toList) (!(Op.bytesLess x.toList y.toList || x.toList == y.toList)) = v) (w' : World) (K' : List (Nat × Obj)) (S' : StkAt w0 w' M K' sp [a, b]) => held_txt (l := []) S' hm ka kb hH hx hy (by decide) n hn v hv
  have HE := fun (n : Int) (hn : n = 40 ∨ n = 41) (v : Bool) (hv : ((x.toList == y.toList) == decide (n = 40)) = v) (w' : World) (K' : List (Nat × Obj)) (S' : StkAt w0 w' M K' sp [a, b]) => sdo_eq (l := []) S' hm (by rw [ka]; decide +kernel) (by rw [kb]; decide +kernel) hH (x.toList == y.toList) (fun w2 K2 A => same_str A hm a b ka kb x y ea eb hx hy) (by decide) n hn v hv
  refine below6 ?_ ?_ ?_ ?_ ?_ ?_
  · exact fun w' K' S' => sdo_44 S' fun w2 S2 => HH 44 (by decide) _ (by simp [cmpB, vaF]) w2 K' S2
  · exact fun w' K' S' => sdo_42 S' fun w2 S2 => HH 42 (by decide) _ (by simp [cmpB, vaF]) w2 K' S2
  · exact fun w' K' S' => sdo_45 S' fun w2 S2 => HH 45 (by decide) _ (by simp [cmpB, vaF]) w2 K' S2
  · exact fun w' K' S' => sdo_43 S' fun w2 S2 => HH 43 (by decide) _ (by simp [cmpB, vaF]) w2 K' S2
  · exact fun w' K' S' => HE 40 (by decide) _ (by simp [vaF]) w' K' S'
  · exact fun w' K' S' => HE 41 (by decide) _ (by simp [vaF]) w' K' S'
theorem do_num {w0 : World} {M : List (Nat × List C)} {sp hp : Nat} {L : List C} {a b : O} (hm : (hp, L) ∈ M) (ka : a.kind = 3) (kb : b.kind = 4) (hH : HeldAll L [a, b]) (ha : (sizeO a).2 = true) (hb : (sizeO b).2 = true) :
    ∀ j, j < 6 → ∀ w' K', StkAt w0 w' M K' sp [a, b] → Calls Tryz.prog 59 #[ptr hp, ptr sp, .int .i64 (noF j)] w' fun r w2 => r = .returned (.int .i64 0) ∧ StkAt w0 w2 M K' sp [bO (vaF (decide ((sizeO a).1 < (sizeO b).1)) (decide ((sizeO b).1 < (sizeO a).1)) (sameO a b) j)] := by
  have HH := fun (n : Int) (hn : n = 42 ∨ n = 43 ∨ n = 44 ∨ n = 45) (v : Bool) (hv : cmpB n (decide ((sizeO a).1 < (sizeO b).1)) (decide ((sizeO b).1 < (sizeO a).1)) = v) (w' : World) (K' : List (Nat × Obj)) (S' : StkAt w0 w' M K' sp [a, b]) => held_num (l := []) S' hm ka kb hH ha hb (by decide) n hn v hv
  have HE := fun (n : Int) (hn : n = 40 ∨ n = 41) (v : Bool) (hv : (sameO a b == decide (n = 40)) = v) (w' : World) (K' : List (Nat × Obj)) (S' : StkAt w0 w' M K' sp [a, b]) => sdo_eq (l := []) S' hm (by rw [ka]; decide +kernel) (by rw [kb]; decide +kernel) hH (sameO a b) (fun w2 K2 A => same_num A a b (.inl ka) (.inr kb)) (by decide) n hn v hv
  refine below6 ?_ ?_ ?_ ?_ ?_ ?_
  · exact fun w' K' S' => sdo_44 S' fun w2 S2 => HH 44 (by decide) _ (by simp [cmpB, vaF]) w2 K' S2
  · exact fun w' K' S' => sdo_42 S' fun w2 S2 => HH 42 (by decide) _ (by simp [cmpB, vaF]) w2 K' S2
  · exact fun w' K' S' => sdo_45 S' fun w2 S2 => HH 45 (by decide) _ (by simp [cmpB, vaF]) w2 K' S2
  · exact fun w' K' S' => sdo_43 S' fun w2 S2 => HH 43 (by decide) _ (by simp [cmpB, vaF]) w2 K' S2
  · exact fun w' K' S' => HE 40 (by decide) _ (by simp [vaF]) w' K' S'
  · exact fun w' K' S' => HE 41 (by decide) _ (by simp [vaF]) w' K' S'
end Go.Proofs.YteglbjcdlekbpaaGreat
/- Walk: SeqOrder, of texts. -/
namespace Go.Proofs.YteglbjcdlekbpaaGreat
open Go.RowKit

abbrev otA (z : Int) : O := strN 0 false 0 z
abbrev otB (z : Int) : O := strN 1 false 0 z
/-- The states of a round of SeqOrder. -/
def orF (a b : ByteArray) (v : Bool) : Nat → QX
  | 0 => ([txt a.toList], [txt a.toList], [otA a.size], [otA a.size])
  | 1 => (fL a b, fL a b, [otA a.size, otB b.size], [otA a.size, otB b.size])
  | 2 => (fL a b, fL a b, [bO v], [otA a.size, otB b.size])
  | _ => ([], [], [], [])
theorem run_mm (w : World) : (Instr.makeMap 73 none).run Tryz.prog w = .ok (.map (some w.heap.size)) (w.alloc (.map #[] 0)) := rfl
theorem run_ix : ∀ k : Nat, k < 6 → ∀ w : World, (Instr.index 74 (.agg #[.string ⟨#[108, 116]⟩, .string ⟨#[103, 116]⟩, .string ⟨#[108, 101]⟩, .string ⟨#[103, 101]⟩, .string ⟨#[101, 113]⟩, .string ⟨#[110, 101]⟩]) (.int .i64 (k : Int))).run Tryz.prog w = .ok (.string (nmF k)) w :=
  below6 (fun _ => by kernel_rfl) (fun _ => by kernel_rfl) (fun _ => by kernel_rfl) (fun _ => by kernel_rfl) (fun _ => by kernel_rfl) (fun _ => by kernel_rfl)
set_option maxRecDepth 100000 in
set_option maxHeartbeats 1000000 in
theorem seqOrder_txt (a b : ByteArray) (x y : Int) (la : a.size ≤ 100) (lb : b.size ≤ 100) (w : World) (hX : MaxIs w) :
    Calls Tryz.prog 9 #[.string a, .string b, .int .i16 x, .int .i16 y, .bool true] w fun e w' => e = .returned (.bool true) ∧ Chg NoB w w' := by
  have HKN := hid' (known19_any w hX)
  have HDO : Hid (∀ j, j < 6 → ∀ (hp sp : Nat) w' K', StkAt w w' [(hp, fL a b)] K' sp [otA a.size, otB b.size] → Calls Tryz.prog 59 #[ptr hp, ptr sp, .int .i64 (noF j)] w' fun r w2 => r = .returned (.int .i64 0) ∧ StkAt w w2 [(hp, fL a b)] K' sp [bO (vaF (Op.bytesLess a.toList b.toList) (!(Op.bytesLess a.toList b.toList || a.toList == b.toList)) (a.toList == b.toList) j)]) := hid' (fun j hj hp sp => do_txt m0 rfl rfl (f_held a b (by omega) (by omega)) (f_bytess a b (by omega)) (f_bytesb a b (by omega)) j hj)
  obtain ⟨le, hle⟩ : ∃ le, Op.bytesLess a.toList b.toList = le := ⟨_, rfl⟩
  obtain ⟨eq, heq⟩ : ∃ eq, (a.toList == b.toList) = eq := ⟨_, rfl⟩
  rw [hle, heq] at HDO
  obtain ⟨v, hv⟩ : ∃ v, v = vaF le (!(le || eq)) eq := ⟨_, rfl⟩
  rw [← hv] at HDO
  have C0 : Hid (∀ k hp sp gp tp KB W, FQ w hp sp gp tp KB ([], [], [], []) W → Calls Tryz.prog 30 #[qVal hp sp gp tp, .string a] W fun e w' => e = .returned (.bool true) ∧ FQ w hp sp gp tp KB (orF a b (v k) 0) w') := hid' (fun k _ _ _ _ _ => FQ.text a rfl (by decide) (by simp [used]; omega) (by decide) (by decide) rfl)
  have C1 : Hid (∀ k hp sp gp tp KB W, FQ w hp sp gp tp KB (orF a b (v k) 0) W → Calls Tryz.prog 30 #[qVal hp sp gp tp, .string b] W fun e w' => e = .returned (.bool true) ∧ FQ w hp sp gp tp KB (orF a b (v k) 1) w') := hid' (fun k _ _ _ _ _ => FQ.text b rfl (by simp [orF]) (by simp [orF, used, C.size, ba_len]; omega) (by simp [orF]) (by simp [orF]) rfl)
  have C2 : Hid (∀ k, k < 6 → ∀ hp sp gp tp KB W, FQ w hp sp gp tp KB (orF a b (v k) 1) W → Calls Tryz.prog 34 #[qVal hp sp gp tp, .string (nmF k)] W fun e w' => e = .returned (.int .i64 0) ∧ FQ w hp sp gp tp KB (orF a b (v k) 2) w') := hid' (fun k hk hp sp gp tp _ => FQ.doing (nmF k) (noF k) 0 true (op_F k hk) (L' := fL a b) (l' := [bO (v k)]) (fun w' K' S' => HDO.out k hk hp sp w' K' S') rfl)
  have C3 : Hid (∀ k hp sp gp tp KB W, FQ w hp sp gp tp KB (orF a b (v k) 2) W → Calls Tryz.prog 31 #[ptr sp, .int .i64 0] W fun e w' => e = .returned (.tuple #[(bO (v k)).val, .int .i64 0]) ∧ FQ w hp sp gp tp KB (orF a b (v k) 2) w') := hid' (fun k hp sp gp tp _ => FQ.peek 0 0 (bO (v k)) rfl rfl)
  have C4 : Hid (∀ k hp sp gp tp KB W, FQ w hp sp gp tp KB (orF a b (v k) 2) W → Calls Tryz.prog 18 #[ptr sp] W fun e w' => e = .returned (.int .i64 1) ∧ FQ w hp sp gp tp KB (orF a b (v k) 2) w') := hid' (fun k hp sp gp tp _ => FQ.len 1 rfl)
  have i1 : (a.size : Int) ≤ 100 := by omega
  have i2 : (b.size : Int) ≤ 100 := by omega
  have HV := hid' hv
  clear hX la lb HDO hv
  have hMM := run_mm
  go_enter Tryz.func9, Tryz.ntmps9
  go_wp2_with fail
  refine HKN.out.mono ?_
  rintro r w1 ⟨rfl, X1⟩
  go_upto_region 6 with (fail)
  have A1 : Ats w (w1.alloc (.map #[] 0)) [] [(w1.heap.size, mpBox v 0)] := (Ats.start X1).alloc _
  generalize w1.heap.size = mp at *
  generalize hW : w1.alloc _ = w2 at *
  clear hW X1 HKN
  go_wp2_with fail
  go_loopw [32] (fun cv wr => ∃ k : Nat, k ≤ 6 ∧ cv = .int .i64 k ∧ Ats w wr [] [(mp, mpBox v k)]) (fun cv _ => 6 - (intOf cv).toNat)
  case atStart => exact ⟨0, by decide, rfl, A1⟩
  case round =>
    obtain ⟨k, hk, rfl, A2⟩ := hrel
    clear A1
    by_cases hlt : k < 6
    · have C2' := hid' (C2.out k hlt)
      have HU := hid' (fun (W : World) (hb : W.heap[mp]? = some (mpBox v k)) (b : Bool) (hv : v k = b) => run_upd W mp k v hlt hb b hv)
      have HIX := run_ix k hlt
      have hkl : ((k : Int) < 6) := by omega
      go_wp2_with fail
      refine (fresh19_any A2).mono ?_
      rintro r w3 ⟨hp, sp, gp, tp, rfl, S1⟩
      have S1 : FQ w hp sp gp tp [(mp, mpBox v k)] ([], [], [], []) w3 := S1
      have S2 := S1.alloc (qBox hp sp gp tp)
      generalize hg : w3.heap.size = g2 at *
      go_upto_region 11 with (fail)
      generalize hW : w3.alloc _ = w4 at *
      clear hW hg S1 A2 HIX C2 hMM
      (try clear Ra); (try clear ya); (try clear Za)
      have Ra := cells_of (S2.box _ m0)
      have ya := blk_lt (S2.box _ m0)
      (try simp only at Ra ya)
      go_wp2_with fail
      refine (C0.out k _ _ _ _ _ _ S2).mono ?_
      rintro r w5 ⟨rfl, S3⟩
      clear S2 Ra ya
      (try clear Ra); (try clear ya); (try clear Za)
      have Ra := cells_of (S3.box _ m0)
      have ya := blk_lt (S3.box _ m0)
      (try simp only at Ra ya)
      go_wp2_with fail
      refine (C1.out k _ _ _ _ _ _ S3).mono ?_
      rintro r w6 ⟨rfl, S4⟩
      clear S3 Ra ya
      (try clear Ra); (try clear ya); (try clear Za)
      have Ra := cells_of (S4.box _ m0)
      have ya := blk_lt (S4.box _ m0)
      (try simp only at Ra ya)
      go_wp2_with fail
      refine (C2'.out _ _ _ _ _ _ S4).mono ?_
      rintro r w7 ⟨rfl, S5⟩
      clear S4 Ra ya
      (try clear Ra); (try clear ya); (try clear Za)
      have Ra := cells_of (S5.box _ m0)
      have ya := blk_lt (S5.box _ m0)
      (try simp only at Ra ya)
      go_wp2_with fail
      refine (C3.out k _ _ _ _ _ _ S5).mono ?_
      rintro r w8 ⟨rfl, S6⟩
      clear S5 Ra ya
      (try clear Ra); (try clear ya); (try clear Za)
      have Ra := cells_of (S6.box _ m0)
      have ya := blk_lt (S6.box _ m0)
      (try simp only at Ra ya)
      have S7 := S6.alloc (.cells #[.int .i64 2, .bool false, .int .i64 (if v k = true then 1 else 0), .int .i64 0, .int .i64 0, .string ⟨#[]⟩] 38)
      generalize hg : w8.heap.size = g8 at *
      go_upto_region 17 with (fail)
      generalize hW : w8.alloc _ = w9 at *
      clear hW hg S6 Ra ya
      (try clear Rx); (try clear yx); (try clear Zx)
      have Rx := cells_of (S7.box _ m0)
      have yx := blk_lt (S7.box _ m0)
      (try clear Ra); (try clear ya); (try clear Za)
      have Ra := cells_of (S7.box _ m1)
      have ya := blk_lt (S7.box _ m1)
      (try simp only at Rx yx Ra ya)
      go_wp2_with fail
      refine (C4.out k _ _ _ _ _ _ S7).mono ?_
      rintro r w10 ⟨rfl, S8⟩
      clear S7 Rx yx Ra ya
      (try clear Rx); (try clear yx); (try clear Zx)
      have Rx := cells_of (S8.box _ m0)
      have yx := blk_lt (S8.box _ m0)
      (try clear Ra); (try clear ya); (try clear Za)
      have Ra := cells_of (S8.box _ m1)
      have ya := blk_lt (S8.box _ m1)
      (try simp only at Rx yx Ra ya)
      have A8 := S8.ats.keep (K' := [(mp, mpBox v k)]) ((List.sublist_cons_self _ _).trans (List.sublist_cons_self _ _))
      have hb := A8.box _ m0
      cases hvk : v k
      · have HUU := HU.out w10 hb false hvk
        have A9 := A8.putO' (mpBox v (k + 1))
        simp only [hvk] at Rx
        go_wp2_with fail
        go_roundw
        case rel => exact ⟨k + 1, by omega, by go_num, A9⟩
        case measure => simp [intOf]; omega
      · have HUU := HU.out w10 hb true hvk
        have A9 := A8.putO' (mpBox v (k + 1))
        simp only [hvk] at Rx
        go_wp2_with fail
        go_roundw
        case rel => exact ⟨k + 1, by omega, by go_num, A9⟩
        case measure => simp [intOf]; omega
    · obtain rfl : k = 6 := by omega
      have hb := A2.box _ m0
      have hvv := HV.out
      clear HV C0 C1 C2 C3 C4 hMM
      have l0 : (Instr.lookup 73 (.map (some mp)) (.string ⟨#[108, 116]⟩) false).run Tryz.prog wr = .ok (.bool (v 0)) wr := run_look wr mp 0 v (by decide) hb
      have l1 : (Instr.lookup 73 (.map (some mp)) (.string ⟨#[103, 116]⟩) false).run Tryz.prog wr = .ok (.bool (v 1)) wr := run_look wr mp 1 v (by decide) hb
      have l2 : (Instr.lookup 73 (.map (some mp)) (.string ⟨#[108, 101]⟩) false).run Tryz.prog wr = .ok (.bool (v 2)) wr := run_look wr mp 2 v (by decide) hb
      have l3 : (Instr.lookup 73 (.map (some mp)) (.string ⟨#[103, 101]⟩) false).run Tryz.prog wr = .ok (.bool (v 3)) wr := run_look wr mp 3 v (by decide) hb
      have l4 : (Instr.lookup 73 (.map (some mp)) (.string ⟨#[101, 113]⟩) false).run Tryz.prog wr = .ok (.bool (v 4)) wr := run_look wr mp 4 v (by decide) hb
      have l5 : (Instr.lookup 73 (.map (some mp)) (.string ⟨#[110, 101]⟩) false).run Tryz.prog wr = .ok (.bool (v 5)) wr := run_look wr mp 5 v (by decide) hb
      rw [hvv] at l0 l1 l2 l3 l4 l5
      simp only [vaF] at l0 l1 l2 l3 l4 l5
      clear hvv hb
      have X2 := A2.chg
      clear A2
      cases le <;> cases eq
      all_goals
        simp only [Bool.not_true, Bool.not_false, Bool.or_true, Bool.or_false] at l0 l1 l2 l3 l4 l5
        go_wp2_with fail
        go_ret
        exact ⟨rfl, X2⟩
end Go.Proofs.YteglbjcdlekbpaaGreat
/- Walk: SeqOrder, of numbers. -/
namespace Go.Proofs.YteglbjcdlekbpaaGreat
open Go.RowKit

abbrev fxO (n : Int) : O := ⟨4, false, n, 0, 0, ⟨#[]⟩⟩
/-- The states of a round of SeqOrder, of numbers. -/
def onF (x z : Int) (v : Bool) : Nat → QX
  | 0 => ([], [], [iO x], [iO x])
  | 1 => ([], [], [iO x, fxO z], [iO x, fxO z])
  | 2 => ([], [], [bO v], [iO x, fxO z])
  | _ => ([], [], [], [])
theorem may_ix (x : Int) (h0 : -32768 ≤ x) (h1 : x ≤ 32767) : mayO (iO x) = true := by
  simp [mayO, eqO, bareO, O.nil]; omega
theorem may_fx (z : Int) (h0 : -1073741823 ≤ z) (h1 : z ≤ 1073741823) : mayO (fxO z) = true := by
  simp [mayO, eqO, bareO, O.nil]; omega
theorem no_held (x z : Int) : HeldAll [] [iO x, fxO z] := by
  intro o ho hk
  simp only [List.mem_cons, List.not_mem_nil, or_false] at ho
  rcases ho with rfl | rfl
  · exact absurd hk (by show ¬ isK 1792 3 = true; decide +kernel)
  · exact absurd hk (by show ¬ isK 1792 4 = true; decide +kernel)
set_option maxRecDepth 100000 in
set_option maxHeartbeats 600000 in
theorem seqOrder_num (a b : ByteArray) (x y : Int) (la : a.size ≤ 100) (lb : b.size ≤ 100) (x0 : -32768 ≤ x) (x1 : x ≤ 32767) (y0 : -32768 ≤ y) (y1 : y ≤ 32767) (w : World) (hX : MaxIs w) :
    Calls Tryz.prog 9 #[.string a, .string b, .int .i16 x, .int .i16 y, .bool false] w fun e w' => e = .returned (.bool true) ∧ Chg NoB w w' := by
  have HKN := hid' (known19_any w hX)
  obtain ⟨Y, hY⟩ : ∃ Y, max y (-32767) = Y := ⟨_, rfl⟩
  have Y0 : -32767 ≤ Y := by omega
  have Y1 : Y ≤ 32767 := by omega
  have hsx : sizeO (iO x) = (x * 65536, true) := by unfold sizeO; rw [may_ix x x0 x1]; simp
  have hsy : sizeO (fxO (Y * 32768)) = (Y * 32768, true) := by unfold sizeO; rw [may_fx _ (by omega) (by omega)]; simp
  have HDO : Hid (∀ j, j < 6 → ∀ (hp sp : Nat) w' K', StkAt w w' [(hp, [])] K' sp [iO x, fxO (Y * 32768)] → Calls Tryz.prog 59 #[ptr hp, ptr sp, .int .i64 (noF j)] w' fun r w2 => r = .returned (.int .i64 0) ∧ StkAt w w2 [(hp, [])] K' sp [bO (vaF (decide (2 * x < Y)) (decide (Y < 2 * x)) (decide (2 * x = Y)) j)]) := hid' (fun j hj hp sp => by
    have := do_num (w0 := w) (M := [(hp, [])]) (sp := sp) (hp := hp) m0 rfl rfl (no_held x (Y * 32768)) (by rw [hsx]) (by rw [hsy]) j hj
    have e1 : decide ((sizeO (iO x)).1 < (sizeO (fxO (Y * 32768))).1) = decide (2 * x < Y) := by rw [hsx, hsy]; exact decide_eq_decide.2 (by simp only; omega)
    have e2 : decide ((sizeO (fxO (Y * 32768))).1 < (sizeO (iO x)).1) = decide (Y < 2 * x) := by rw [hsx, hsy]; exact decide_eq_decide.2 (by simp only; omega)
    have e3 : sameO (iO x) (fxO (Y * 32768)) = decide (2 * x = Y) := by unfold sameO; rw [hsx, hsy]; simp only [and_self, if_true]; exact decide_eq_decide.2 (by omega)
    rw [e1, e2, e3] at this
    exact this)
  obtain ⟨v, hv⟩ : ∃ v, v = vaF (decide (2 * x < Y)) (decide (Y < 2 * x)) (decide (2 * x = Y)) := ⟨_, rfl⟩
  rw [← hv] at HDO
  obtain ⟨z, hz⟩ : ∃ z, Y * 32768 = z := ⟨_, rfl⟩
  rw [hz] at HDO
  have HNU : Hid (∀ hp sp gp tp KB X v W, FQ w hp sp gp tp KB X W → Calls Tryz.prog 33 #[.int .i64 v] W fun e w' => e = .returned (iO v).val ∧ FQ w hp sp gp tp KB X w') := hid' (fun hp sp gp tp KB X v => FQ.num v)
  have C0 : Hid (∀ k hp sp gp tp KB W, FQ w hp sp gp tp KB ([], [], [], []) W → Calls Tryz.prog 32 #[qVal hp sp gp tp, (iO x).val] W fun e w' => e = .returned (.bool true) ∧ FQ w hp sp gp tp KB (onF x z (v k) 0) w') := hid' (fun k _ _ _ _ _ => FQ.push _ (may_ix x x0 x1) (by decide) (by decide) rfl)
  have C1 : Hid (∀ k hp sp gp tp KB W, FQ w hp sp gp tp KB (onF x z (v k) 0) W → Calls Tryz.prog 32 #[qVal hp sp gp tp, (fxO z).val] W fun e w' => e = .returned (.bool true) ∧ FQ w hp sp gp tp KB (onF x z (v k) 1) w') := hid' (fun k _ _ _ _ _ => FQ.push _ (may_fx z (by omega) (by omega)) (by simp [onF]) (by simp [onF]) rfl)
  have C2 : Hid (∀ k, k < 6 → ∀ hp sp gp tp KB W, FQ w hp sp gp tp KB (onF x z (v k) 1) W → Calls Tryz.prog 34 #[qVal hp sp gp tp, .string (nmF k)] W fun e w' => e = .returned (.int .i64 0) ∧ FQ w hp sp gp tp KB (onF x z (v k) 2) w') := hid' (fun k hk hp sp gp tp _ => FQ.doing (nmF k) (noF k) 0 true (op_F k hk) (L' := []) (l' := [bO (v k)]) (fun w' K' S' => HDO.out k hk hp sp w' K' S') rfl)
  have C3 : Hid (∀ k hp sp gp tp KB W, FQ w hp sp gp tp KB (onF x z (v k) 2) W → Calls Tryz.prog 31 #[ptr sp, .int .i64 0] W fun e w' => e = .returned (.tuple #[(bO (v k)).val, .int .i64 0]) ∧ FQ w hp sp gp tp KB (onF x z (v k) 2) w') := hid' (fun k hp sp gp tp _ => FQ.peek 0 0 (bO (v k)) rfl rfl)
  have C4 : Hid (∀ k hp sp gp tp KB W, FQ w hp sp gp tp KB (onF x z (v k) 2) W → Calls Tryz.prog 18 #[ptr sp] W fun e w' => e = .returned (.int .i64 1) ∧ FQ w hp sp gp tp KB (onF x z (v k) 2) w') := hid' (fun k hp sp gp tp _ => FQ.len 1 rfl)
  have i1 : (a.size : Int) ≤ 100 := by omega
  have i2 : (b.size : Int) ≤ 100 := by omega
  have HV := hid' hv
  have v1 := IntWalk.i64_in x (by omega)
  have v2 := IntWalk.i64_in y (by omega)
  have v3 := IntWalk.i64_in (Y * 32768) (by omega)
  have v4 := IntWalk.i64_in (2 * x) (by omega)
  rw [hz] at v3
  have HZ := hid' hz
  clear hX la lb HDO hv hsx hsy Y0 Y1 x0 x1 y0 y1
  have hMM := run_mm
  go_enter Tryz.func9, Tryz.ntmps9
  go_wp2_with fail
  refine HKN.out.mono ?_
  rintro r w1 ⟨rfl, X1⟩
  go_upto_region 6 with (fail)
  have A1 : Ats w (w1.alloc (.map #[] 0)) [] [(w1.heap.size, mpBox v 0)] := (Ats.start X1).alloc _
  generalize w1.heap.size = mp at *
  generalize hW : w1.alloc _ = w2 at *
  clear hW X1 HKN
  go_wp2_with fail
  go_loopw [32] (fun cv wr => ∃ k : Nat, k ≤ 6 ∧ cv = .int .i64 k ∧ Ats w wr [] [(mp, mpBox v k)]) (fun cv _ => 6 - (intOf cv).toNat)
  case atStart => exact ⟨0, by decide, rfl, A1⟩
  case round =>
    obtain ⟨k, hk, rfl, A2⟩ := hrel
    clear A1
    by_cases hlt : k < 6
    · have C2' := hid' (C2.out k hlt)
      have HU := hid' (fun (W : World) (hb : W.heap[mp]? = some (mpBox v k)) (b : Bool) (hv : v k = b) => run_upd W mp k v hlt hb b hv)
      have HIX := run_ix k hlt
      have hkl : ((k : Int) < 6) := by omega
      go_wp2_with fail
      refine (fresh19_any A2).mono ?_
      rintro r w3 ⟨hp, sp, gp, tp, rfl, S1⟩
      have S1 : FQ w hp sp gp tp [(mp, mpBox v k)] ([], [], [], []) w3 := S1
      have S2 := S1.alloc (qBox hp sp gp tp)
      generalize hg : w3.heap.size = g2 at *
      go_upto_region 13 with (fail)
      generalize hW : w3.alloc _ = w4 at *
      clear hW hg S1 A2 HIX C2 hMM
      obtain ⟨KB, hKB⟩ : ∃ KB, KB = [(g2, qBox hp sp gp tp), (mp, mpBox v k)] := ⟨_, rfl⟩
      have nW : (g2, qBox hp sp gp tp) ∈ KB := by rw [hKB]; exact m0
      rw [← hKB] at S2
      have HKB := hid' hKB
      obtain ⟨f, f0, f1⟩ : ∃ f : Nat → QX, f 0 = ([], [], [], []) ∧ f 1 = onF x z (v k) 0 := ⟨fun n => if n = 0 then ([], [], [], []) else onF x z (v k) 0, rfl, rfl⟩
      have QW := FQ.cells (w0 := w) (hp := hp) (sp := sp) (gp := gp) (tp := tp) (f := f) nW
      rw [← f0] at S2
      have HDR := hid' (fun n W (h : FQ w hp sp gp tp KB (f n) W) => h.drew)
      have HNU' : Hid (∀ n v W, FQ w hp sp gp tp KB (f n) W → Calls Tryz.prog 33 #[.int .i64 v] W fun e w' => e = .returned (iO v).val ∧ FQ w hp sp gp tp KB (f n) w') := hid' (fun n v => FQ.num v)
      have C0' : Hid (∀ W, FQ w hp sp gp tp KB (f 0) W → Calls Tryz.prog 32 #[qVal hp sp gp tp, (iO x).val] W fun e w' => e = .returned (.bool true) ∧ FQ w hp sp gp tp KB (f 1) w') := hid' (by rw [f0, f1]; exact C0.out k _ _ _ _ _)
      have HF1 := hid' f1
      have hS1 : ∃ n, FQ w hp sp gp tp KB (f n) w4 := ⟨_, S2⟩
      clear f0 f1 nW hKB C0 HNU
      go_region_held3 (fun W' => ∃ n, FQ w hp sp gp tp KB (f n) W') (first | (with_reducible assumption) | (with_reducible exact ⟨_, by with_reducible assumption⟩) | (with_reducible exact ⟨_, HDR.out _ _ (by with_reducible assumption)⟩))
        (first
          | (go_at_call 33; refine (HNU'.out _ _ _ (by first | with_reducible assumption | (with_reducible exact HDR.out _ _ (by with_reducible assumption)))).mono ?_; rintro r w12 ⟨rfl, S12⟩)
          | (go_at_call 32; refine (C0'.out _ (by first | with_reducible assumption | (with_reducible exact HDR.out _ _ (by with_reducible assumption)))).mono ?_; rintro r w14 ⟨rfl, S3⟩))
      rw [HF1.out, HKB.out] at S3
      clear hS1 S2 QW
      go_upto_region 14 with (fail)
      (try clear Ra); (try clear ya); (try clear Za)
      have Ra := cells_of (S3.box _ m0)
      have ya := blk_lt (S3.box _ m0)
      (try simp only at Ra ya)
      go_wp2_with fail
      refine (C1.out k _ _ _ _ _ _ S3).mono ?_
      rintro r w6 ⟨rfl, S4⟩
      clear S3 Ra ya
      (try clear Ra); (try clear ya); (try clear Za)
      have Ra := cells_of (S4.box _ m0)
      have ya := blk_lt (S4.box _ m0)
      (try simp only at Ra ya)
      go_wp2_with fail
      refine (C2'.out _ _ _ _ _ _ S4).mono ?_
      rintro r w7 ⟨rfl, S5⟩
      clear S4 Ra ya
      (try clear Ra); (try clear ya); (try clear Za)
      have Ra := cells_of (S5.box _ m0)
      have ya := blk_lt (S5.box _ m0)
      (try simp only at Ra ya)
      go_wp2_with fail
      refine (C3.out k _ _ _ _ _ _ S5).mono ?_
      rintro r w8 ⟨rfl, S6⟩
      clear S5 Ra ya
      (try clear Ra); (try clear ya); (try clear Za)
      have Ra := cells_of (S6.box _ m0)
      have ya := blk_lt (S6.box _ m0)
      (try simp only at Ra ya)
      have S7 := S6.alloc (.cells #[.int .i64 2, .bool false, .int .i64 (if v k = true then 1 else 0), .int .i64 0, .int .i64 0, .string ⟨#[]⟩] 38)
      generalize hg : w8.heap.size = g8 at *
      go_upto_region 17 with (fail)
      generalize hW : w8.alloc _ = w9 at *
      clear hW hg S6 Ra ya
      (try clear Rx); (try clear yx); (try clear Zx)
      have Rx := cells_of (S7.box _ m0)
      have yx := blk_lt (S7.box _ m0)
      (try clear Ra); (try clear ya); (try clear Za)
      have Ra := cells_of (S7.box _ m1)
      have ya := blk_lt (S7.box _ m1)
      (try simp only at Rx yx Ra ya)
      go_wp2_with fail
      refine (C4.out k _ _ _ _ _ _ S7).mono ?_
      rintro r w10 ⟨rfl, S8⟩
      clear S7 Rx yx Ra ya
      (try clear Rx); (try clear yx); (try clear Zx)
      have Rx := cells_of (S8.box _ m0)
      have yx := blk_lt (S8.box _ m0)
      (try clear Ra); (try clear ya); (try clear Za)
      have Ra := cells_of (S8.box _ m1)
      have ya := blk_lt (S8.box _ m1)
      (try simp only at Rx yx Ra ya)
      have A8 := S8.ats.keep (K' := [(mp, mpBox v k)]) ((List.sublist_cons_self _ _).trans (List.sublist_cons_self _ _))
      have hb := A8.box _ m0
      cases hvk : v k
      · have HUU := HU.out w10 hb false hvk
        have A9 := A8.putO' (mpBox v (k + 1))
        simp only [hvk] at Rx
        go_wp2_with fail
        go_roundw
        case rel => exact ⟨k + 1, by omega, by go_num, A9⟩
        case measure => simp [intOf]; omega
      · have HUU := HU.out w10 hb true hvk
        have A9 := A8.putO' (mpBox v (k + 1))
        simp only [hvk] at Rx
        go_wp2_with fail
        go_roundw
        case rel => exact ⟨k + 1, by omega, by go_num, A9⟩
        case measure => simp [intOf]; omega
    · obtain rfl : k = 6 := by omega
      have hb := A2.box _ m0
      have hvv := HV.out
      clear HV C0 C1 C2 C3 C4 hMM
      have l0 : (Instr.lookup 73 (.map (some mp)) (.string ⟨#[108, 116]⟩) false).run Tryz.prog wr = .ok (.bool (v 0)) wr := run_look wr mp 0 v (by decide) hb
      have l1 : (Instr.lookup 73 (.map (some mp)) (.string ⟨#[103, 116]⟩) false).run Tryz.prog wr = .ok (.bool (v 1)) wr := run_look wr mp 1 v (by decide) hb
      have l2 : (Instr.lookup 73 (.map (some mp)) (.string ⟨#[108, 101]⟩) false).run Tryz.prog wr = .ok (.bool (v 2)) wr := run_look wr mp 2 v (by decide) hb
      have l3 : (Instr.lookup 73 (.map (some mp)) (.string ⟨#[103, 101]⟩) false).run Tryz.prog wr = .ok (.bool (v 3)) wr := run_look wr mp 3 v (by decide) hb
      have l4 : (Instr.lookup 73 (.map (some mp)) (.string ⟨#[101, 113]⟩) false).run Tryz.prog wr = .ok (.bool (v 4)) wr := run_look wr mp 4 v (by decide) hb
      have l5 : (Instr.lookup 73 (.map (some mp)) (.string ⟨#[110, 101]⟩) false).run Tryz.prog wr = .ok (.bool (v 5)) wr := run_look wr mp 5 v (by decide) hb
      rw [hvv] at l0 l1 l2 l3 l4 l5
      simp only [vaF] at l0 l1 l2 l3 l4 l5
      clear hvv hb
      have X2 := A2.chg
      clear A2
      rcases Int.lt_trichotomy (2 * x) Y with h | h | h
      · have d1 : decide (2 * x < Y) = true := by simp; omega
        have d2 : decide (Y < 2 * x) = false := by simp; omega
        have d3 : decide (2 * x = Y) = false := by simp; omega
        have d4 : (2 * x == Y) = false := by simp; omega
        rw [d1] at l0 l3
        rw [d2] at l1 l2
        rw [d3] at l4 l5
        clear h
        go_wp2_with fail
        go_ret
        exact ⟨rfl, X2⟩
      · have d1 : decide (2 * x < Y) = false := by simp; omega
        have d2 : decide (Y < 2 * x) = false := by simp; omega
        have d3 : decide (2 * x = Y) = true := by simp; omega
        have d4 : (2 * x == Y) = true := by simp; omega
        rw [d1] at l0 l3
        rw [d2] at l1 l2
        rw [d3] at l4 l5
        clear h
        go_wp2_with fail
        go_ret
        exact ⟨rfl, X2⟩
      · have d1 : decide (2 * x < Y) = false := by simp; omega
        have d2 : decide (Y < 2 * x) = true := by simp; omega
        have d3 : decide (2 * x = Y) = false := by simp; omega
        have d4 : (2 * x == Y) = false := by simp; omega
        rw [d1] at l0 l3
        rw [d2] at l1 l2
        rw [d3] at l4 l5
        clear h
        go_wp2_with fail
        go_ret
        exact ⟨rfl, X2⟩
end Go.Proofs.YteglbjcdlekbpaaGreat
/- Walk: SeqOrder, whatever comes. -/
namespace Go.Proofs.YteglbjcdlekbpaaGreat
open Go.RowKit

set_option maxRecDepth 100000 in
theorem seqOrder_big (a b : ByteArray) (x y : Int) (t : Bool) (h : 100 < a.size ∨ 100 < b.size) (w : World) (hX : MaxIs w) :
    Calls Tryz.prog 9 #[.string a, .string b, .int .i16 x, .int .i16 y, .bool t] w fun e w' => e = .returned (.bool true) ∧ Chg NoB w w' := by
  have HKN := hid' (known19_any w hX)
  clear hX
  by_cases h1 : 100 < a.size
  · have d1 : decide ((100 : Int) < a.size) = true := by simp; omega
    clear h h1
    go_enter Tryz.func9, Tryz.ntmps9
    go_wp2_with fail
    refine HKN.out.mono ?_
    rintro r w1 ⟨rfl, X1⟩
    go_wp2_with fail
    go_ret
    exact ⟨rfl, X1⟩
  · have d1 : decide ((100 : Int) < a.size) = false := by simp; omega
    have d2 : decide ((100 : Int) < b.size) = true := by simp; omega
    clear h h1
    go_enter Tryz.func9, Tryz.ntmps9
    go_wp2_with fail
    refine HKN.out.mono ?_
    rintro r w1 ⟨rfl, X1⟩
    go_wp2_with fail
    go_ret
    exact ⟨rfl, X1⟩
theorem seqOrder_any (a b : ByteArray) (x y : Int) (t : Bool) (_ : a.size ≤ maxLen) (_ : b.size ≤ maxLen) (x0 : -32768 ≤ x) (x1 : x < 32768) (y0 : -32768 ≤ y) (y1 : y < 32768) (w : World) (hX : MaxIs w) :
    Calls Tryz.prog 9 #[.string a, .string b, .int .i16 x, .int .i16 y, .bool t] w fun e w' => e = .returned (.bool true) ∧ Chg NoB w w' := by
  by_cases h : 100 < a.size ∨ 100 < b.size
  · exact seqOrder_big a b x y t h w hX
  · cases t with
    | true => exact seqOrder_txt a b x y (by omega) (by omega) w hX
    | false => exact seqOrder_num a b x y (by omega) (by omega) x0 (by omega) y0 (by omega) w hX
end Go.Proofs.YteglbjcdlekbpaaGreat
