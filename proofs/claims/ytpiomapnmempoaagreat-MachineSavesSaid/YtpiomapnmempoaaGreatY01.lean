/- Parts of the proof: Base, Lsh, Opp, Ope, Opn, Obj, Heap, Hr1, May. -/
import Derived.WalkKit
import Derived.WalkSpells
import Derived.WalkLawsBesides
import Derived.Deep.RegionHeld3
import Derived.BigQuiet
import Derived.Deep.QuietTactic
import Derived.Test.YtpiomapnmempoaaGreatRows
import Derived.ProofKit
import Derived.OpenShut
import Derived.ChangeMaps5
import Derived.Test.YtpiomapnmempoaaGreatProg
import Derived.Lib.Hide
import Derived.Laws.RangeAny
namespace Go.Proofs.YtpiomapnmempoaaGreat
open Go.RowKit
variable {a c w w' : World} {b n : Nat} {cs : Array Value} {T : TypeId} {fz : Nat × Nat} {v : Value} {xs : List Value}
section
structure Chg (S : Nat → Prop) (w w' : World) : Prop where
 os : w'.os = w.os
 tape : w'.tape = w.tape
 output : w'.output = w.output
 size : w.heap.size ≤ w'.heap.size
 block : ∀ k, k < w.heap.size → ¬ S k → w'.heap[k]? = w.heap[k]?
abbrev NoB : Nat → Prop := fun _ => False
theorem Chg.refl (S : Nat → Prop) (w : World) : Chg S w w := ⟨rfl, rfl, rfl, Nat.le_refl _, fun _ _ _ => rfl⟩
theorem Chg.trans' {S S' : Nat → Prop} {b : World} (h : Chg S a b) (k : Chg S' b c) (hS : ∀ i, i < a.heap.size → S' i → S i) : Chg S a c :=
 ⟨k.os.trans h.os, k.tape.trans h.tape, k.output.trans h.output, Nat.le_trans h.size k.size,
  fun i hi hn => (k.block i (Nat.lt_of_lt_of_le hi h.size) (fun e => hn (hS i hi e))).trans (h.block i hi hn)⟩
theorem Chg.trans {S : Nat → Prop} {b : World} (h : Chg S a b) (k : Chg S b c) : Chg S a c := h.trans' k fun _ _ e => e
theorem Chg.pure {S : Nat → Prop} {b : World} (h : Chg S a b) (k : Chg NoB b c) : Chg S a c := h.trans' k fun _ _ e => e.elim
theorem Chg.mono {S S' : Nat → Prop} {b : World} (h : Chg S a b) (hS : ∀ i, i < a.heap.size → S i → S' i) : Chg S' a b :=
 ⟨h.os, h.tape, h.output, h.size, fun i hi hn => h.block i hi fun e => hn (hS i hi e)⟩
theorem Chg.below (h : Chg NoB w w') : Below w.heap.size w w' := ⟨h.os, h.tape, h.output, h.size, fun i hi => h.block i hi id⟩
theorem Chg.drew {S : Nat → Prop} (h : Chg S a w) : Chg S a w.drew := ⟨h.os, h.tape, h.output, h.size, h.block⟩
theorem Chg.drewN {S : Nat → Prop} (h : Chg S a w) (n : Nat) : Chg S a (w.drewN n) := ⟨h.os, h.tape, h.output, h.size, h.block⟩
theorem Chg.alloc {S : Nat → Prop} (h : Chg S a w) (o : Obj) : Chg S a (w.alloc o) :=
 h.trans ⟨rfl, rfl, rfl, by simp, fun k hk _ => Below.heap_alloc _ _ _ hk⟩
theorem Chg.setCell {S : Nat → Prop} (h : Chg S a w) {p : Addr} (hp : S p.block ∨ a.heap.size ≤ p.block) (u : Value) : Chg S a (w.setCell p u) :=
 ⟨h.os, h.tape, h.output, by simp only [World.size_setCell]; exact h.size,
  fun k hk hn => by rw [Below.heap_setCell _ _ _ _ (by rintro rfl; rcases hp with hp | hp; exact hn hp; omega)]; exact h.block k hk hn⟩
theorem Chg.grown {S : Nat → Prop} {row : Option Nat} (h : Chg S a w) (hg : w.grownBy w' row) (hr : ∀ k, row = some k → S k ∨ a.heap.size ≤ k) : Chg S a w' :=
 ⟨hg.os.trans h.os, hg.tape.trans h.tape, hg.output.trans h.output, Nat.le_trans h.size hg.size,
  fun k hk hn => (hg.block k (Nat.lt_of_lt_of_le hk h.size) (fun e => by rcases hr k e.symm with x | x; exact hn x; omega)).trans (h.block k hk hn)⟩
theorem Chg.blk {S : Nat → Prop} (h : Chg S w w') {b : Nat} {x : Obj} (hb : w.heap[b]? = some x) (hS : ¬ S b) : w'.heap[b]? = some x := by
 rw [h.block b (Array.getElem?_eq_some_iff.1 hb).1 hS]; exact hb
theorem blk_lt {x : Obj} (hb : w.heap[b]? = some x) : b < w.heap.size := (Array.getElem?_eq_some_iff.1 hb).1
theorem blk_alloc {x : Obj} (hb : w.heap[b]? = some x) (o : Obj) : (w.alloc o).heap[b]? = some x := by
 rw [Below.heap_alloc _ _ _ (blk_lt hb)]; exact hb
theorem blk_new (w : World) (o : Obj) : (w.alloc o).heap[w.heap.size]? = some o := heap_alloc_new w o
theorem blk_new1 (w : World) (o o' : Obj) : ((w.alloc o).alloc o').heap[w.heap.size + 1]? = some o' := by
 have := heap_alloc_new (w.alloc o) o'; simpa using this
theorem Chg.cells {S : Nat → Prop} (hb : w.heap[b]? = some (.cells cs T fz)) (hS : ¬ S b) :
 ∀ W, Chg S w W → ∀ i, W.cell? ⟨b, i, none⟩ = cs[i]? := fun W h i => by
 have := h.blk hb hS; simp [World.cell?, this]
theorem Chg.free {S : Nat → Prop} (hb : w.heap[b]? = some (.cells cs T (0, 0))) (hS : ¬ S b) :
 ∀ W, Chg S w W → ∀ i, W.frozen? ⟨b, i, none⟩ = false := fun W h i => by
 have := h.blk hb hS; simp [World.frozen?, this]
theorem cells_of (hb : w.heap[b]? = some (.cells cs T fz)) : ∀ i, w.cell? ⟨b, i, none⟩ = cs[i]? := fun i => by
 simp [World.cell?, hb]
theorem free_of (hb : w.heap[b]? = some (.cells cs T (0, 0))) : ∀ i, w.frozen? ⟨b, i, none⟩ = false := fun i => by
 simp [World.frozen?, hb]
theorem blk_set (hb : w.heap[b]? = some (.cells cs T fz)) (i : Nat) (v : Value) :
 (w.setCell ⟨b, i, none⟩ v).heap[b]? = some (.cells (cs.setIfInBounds i v) T fz) := by
 simp [World.setCell, Array.getElem?_modify, hb]
theorem cell_set_at (w : World) (a : Addr) (v : Value) (h : (w.cell? a).isSome = true) : (w.setCell a v).cell? a = some v := by
 obtain ⟨u, hu⟩ := Option.isSome_iff_exists.1 h; exact World.cell?_setCell_same w a v hu
theorem blk_drew {x : Obj} (hb : w.heap[b]? = some x) : w.drew.heap[b]? = some x := hb
theorem blk_set_other {x : Obj} (hb : w.heap[b]? = some x) {p : Addr} (h : b ≠ p.block) (v : Value) : (w.setCell p v).heap[b]? = some x := by
 rw [Below.heap_setCell _ _ _ _ h]; exact hb
attribute [go_sem] Chg.alloc Chg.drew Chg.drewN
end
section
open Go.ChangeShapes Go.WideShapes Go.ChangeAt Go.RowKit
theorem post_of_low {H : Type} {enc : TypeId × Value → H} {P : Program} {f : Func} {s : ChangeSpec} {apart fresh handsOn again : Bool} {W W' : World} {args : Array Value} {ds gs : List (DataW H)} {before pa pv : List MemPlace}
 (hW : DataW.Whole enc P f.params.toList s.vars apart W args.toList ds gs before)
 (hres : ∀ (b : Nat) (sp : Nat → Bool) (hd : Bool), DataW.TrodAll enc P W' b sp hd f.resultTypes.toList (v.resultList f.resultTypes.size) (s.fn H (ds ++ gs)).results [])
 (hargs : ∀ sp : Nat → Bool, (∀ p ∈ before, sp p.block = true) → DataW.TrodAll enc P W' 0 sp true f.params.toList args.toList (s.fn H (ds ++ gs)).args pa)
 (hvars : ∀ sp : Nat → Bool, (∀ p ∈ before, sp p.block = true) → DataW.TrodVars enc P W' sp s.vars (s.fn H (ds ++ gs)).vars pv)
 (hps : before = pa ++ pv) (hb : Below W.heap.size W W')
 (hok : ∀ (j : Nat) (t : TypeId) (r : Value), f.resultTypes[j]? = some t → (v.resultList f.resultTypes.size)[j]? = some r → Value.okWide P W' .any 0 t r) :
 s.post enc P f apart fresh handsOn again W args v W' := by
 have hlt := fun p hp => hW.lt p hp
 have hold : ∀ p ∈ before, (fun b => decide (b < W.heap.size)) p.block = true := fun p hp => by simpa using hlt p hp
 refine ⟨ds, gs, before, [], pa, pv, hW, hres _ _ _, hargs _ hold, hvars _ hold, World.keptBut_mono (fun p hp => ⟨hp, ?_⟩) (hb.frame (· ∈ before)), fun _ => ?_⟩
 · rw [hps, List.mem_append] at hp; exact Or.inr hp
 · obtain ⟨_, _, _, _, _, hz, hn⟩ := hW; refine ⟨hok, _, _, ([] ++ pa) ++ pv, ⟨[] ++ pa, pv, trodAll_append (hargs _ (fun _ _ => rfl)) (hres _ _ _), hvars _ (fun _ _ => rfl), rfl, ?_, ?_⟩, ?_⟩
   · intro b off hp; have hp' := hp; simp only [List.nil_append, ← hps] at hp'; rw [hb.frozen (hlt _ hp')]; exact hz b off hp'
   · intro ha; have := hn ha; rw [hps] at this
     simpa using this
   · intro p hp _; rw [hps]
     simpa using hp
theorem own_knob : ownKnob Tryz.prog.godebug = none := by kernel_rfl
theorem wf_u8 {n : Int} (h : (Lit.int .u8 n).wf = true) : 0 ≤ n ∧ n < 256 := by
 have e1 : IntKind.u8.min = 0 := by decide
 have e2 : IntKind.u8.max = 255 := by decide
 simp [Lit.wf] at h
 rw [e1, e2] at h; omega
theorem wf_i16 {n : Int} (h : (Lit.int .i16 n).wf = true) : -32768 ≤ n ∧ n < 32768 := by
 have e1 : IntKind.i16.min = -32768 := by decide
 have e2 : IntKind.i16.max = 32767 := by decide
 simp [Lit.wf] at h
 rw [e1, e2] at h; omega
end
noncomputable def opS : ByteArray :=
 match Tryz.f49.body with
 | some (.seq _ (.seq (.region _ ops _) _)) => (match ops[0]? with
  | some i => (match i.op with
   | .range _ (.const (.string s)) => s
   | _ => ⟨#[]⟩)
  | none => ⟨#[]⟩)
 | _ => ⟨#[]⟩
def toksL : List UInt8 → Nat → List UInt8 → List (Nat × List UInt8)
 | [], _, _ => []
 | c :: r, fam, cur => if c = 10 then toksL r (fam + 1) [] else if c = 32 then (fam, cur) :: toksL r fam [] else toksL r fam (cur ++ [c])
noncomputable def opT : List (Nat × List UInt8) := toksL opS.data.toList 1 []
set_option maxRecDepth 100000 in
theorem opS_size : opS.size = 1164 := by decide +kernel
set_option maxRecDepth 100000 in
theorem opT_length : opT.length = 162 := by decide +kernel
set_option maxRecDepth 100000 in
theorem opS_all : opS.data.toList.all (fun c => decide (c.toNat < 128)) = true := by decide +kernel
theorem opS_ascii (i : Nat) (h : i < opS.size) : opS[i].toNat < 128 := by
 have hm : opS[i] ∈ opS.data.toList := by
  rw [Array.mem_toList_iff]; exact Array.getElem_mem (xs := opS.data) h
 exact of_decide_eq_true (List.all_eq_true.1 opS_all _ hm)
theorem opT_sizes : ∀ p ∈ opT, p.2.length ≤ 100 := by decide +kernel
theorem opT_apart : (opT.map Prod.snd).Nodup := by decide +kernel
theorem hid_ {p : Prop} (h : p) : Hid p := h
def iterAt (w : World) (b : Nat) (s : ByteArray) (pos : Nat) : World := { w with heap := w.heap.setIfInBounds b (.stringIter s pos) }
theorem Chg.iterAt {S : Nat → Prop} (h : Chg S a w) {b : Nat} (hp : S b ∨ a.heap.size ≤ b) (s : ByteArray) (pos : Nat) : Chg S a (iterAt w b s pos) :=
 ⟨h.os, h.tape, h.output, by simp only [Go.Proofs.YtpiomapnmempoaaGreat.iterAt, Array.size_setIfInBounds]; exact h.size,
  fun k hk hn => by
   rw [Go.Proofs.YtpiomapnmempoaaGreat.iterAt, Array.getElem?_setIfInBounds_ne (by rintro rfl; rcases hp with hp | hp; exact hn hp; omega)]; exact h.block k hk hn⟩
theorem iterAt_self (h : b < w.heap.size) (s : ByteArray) (pos : Nat) : (iterAt w b s pos).heap[b]? = some (.stringIter s pos) := by
 simp [iterAt, h]
theorem run_next_at {P : Program} (w : World) (b : Nat) (s : ByteArray) (pos : Nat) (ty : TypeId) (hb : w.heap[b]? = some (.stringIter s pos)) (h : pos < s.size) (ha : (s[pos]'h).toNat < 128) :
 (Instr.next (.pointer (some ⟨b, 0, none⟩)) true ty).run P w = .ok (.tuple #[.bool true, .int .i64 pos, .int .i32 (s[pos]'h).toNat]) (iterAt w b s (pos + 1)) := by
 simp [Instr.next, getObj, setObj, Sem.run_bind, Sem.run, hb, Result.andThen, h, decode_ascii s pos h ha, goInt, iterAt]
theorem run_next_over {P : Program} (w : World) (b : Nat) (s : ByteArray) (pos : Nat) (ty : TypeId) (hb : w.heap[b]? = some (.stringIter s pos)) (h : ¬ pos < s.size) :
 (Instr.next (.pointer (some ⟨b, 0, none⟩)) true ty).run P w = .ok (.tuple #[.bool false]) w := by
 simp [Instr.next, getObj, Sem.run, hb, h]
theorem iterPos_at {s : ByteArray} {p : Nat} (h : w.heap[b]? = some (.stringIter s p)) : w.iterPos b = p := by
 simp [World.iterPos, h]
theorem extract_list (N : ByteArray) (a b : Nat) : N.extract a b = ⟨((N.data.toList.drop a).take (b - a)).toArray⟩ := by
 apply ByteArray.ext
 rw [ByteArray.data_extract]; apply Array.toList_inj.1
 rw [Array.toList_extract, List.extract_eq_take_drop]
theorem u8_ne {c : UInt8} (h : c ≠ UInt8.ofNat n) (_hn : n < 256) : ((c.toNat : Int) == (n : Int)) = false := by
 simp only [beq_eq_false_iff_ne, ne_eq]; intro e; apply h
 have e2 : c.toNat = n := by omega
 rw [← e2]; simp
theorem take_snoc (N : ByteArray) (a b : Nat) (h : a ≤ b) (hb : b < N.size) : (N.data.toList.drop a).take (b - a) ++ [N[b]] = (N.data.toList.drop a).take (b + 1 - a) := by
 have hl : b - a < (N.data.toList.drop a).length := by rw [List.length_drop, Array.length_toList]; change b < N.data.size at hb; omega
 rw [show b + 1 - a = b - a + 1 by omega, List.take_succ_eq_append_getElem hl]
 congr 1
 simp [List.getElem_drop, show a + (b - a) = b by omega]
 rfl
theorem toks_lf (r : List UInt8) (fam : Nat) (cur : List UInt8) : toksL (10 :: r) fam cur = toksL r (fam + 1) [] := by rw [toksL, if_pos rfl]
theorem toks_sp (r : List UInt8) (fam : Nat) (cur : List UInt8) : toksL (32 :: r) fam cur = (fam, cur) :: toksL r fam [] := by rw [toksL, if_neg (by decide), if_pos rfl]
theorem toks_ch (c : UInt8) (r : List UInt8) (fam : Nat) (cur : List UInt8) (h1 : c ≠ 10) (h2 : c ≠ 32) : toksL (c :: r) fam cur = toksL r fam (cur ++ [c]) := by rw [toksL, if_neg h1, if_neg h2]
set_option maxRecDepth 100000 in
set_option maxHeartbeats 4000000 in
theorem each_any (fn : Nat) (caps : Array Value) (hcf : ∀ (args : Array Value) (w : World), (callFunc fn args).run Tryz.prog w = .ok (.enter fn args) w) (S : Nat → Prop) (J Q : Nat → World → Prop) (w : World) (hS : ∀ i, S i → i < w.heap.size)
 (hJ : ∀ k a b, J k a → Chg (fun i => w.heap.size ≤ i) a b → J k b)
 (hy : ∀ k (h : k < opT.length) w', J k w' → Chg S w w' → Calls Tryz.prog fn (#[.int .i64 ((k : Int) + 1), .int .i64 opT[k].1, .string ⟨opT[k].2.toArray⟩] ++ caps) w' fun e w2 =>
  Chg S w' w2 ∧ ((e = .returned (.bool true) ∧ J (k + 1) w2) ∨ (e = .returned (.bool false) ∧ Q k w2)))
 (h0 : J 0 w) :
 Calls Tryz.prog 49 #[.func (.func fn) #[] caps] w fun e w' => e = .returned (.tuple #[]) ∧ Chg S w w' ∧ (J opT.length w' ∨ ∃ k, k < opT.length ∧ Q k w') := by
 go_enter Tryz.func49, Tryz.ntmps49
 generalize hV : Value.string _ = V
 obtain rfl : V = .string opS := by rw [← hV]; kernel_rfl
 clear hV; have hsz := opS_size; have hTl := opT_length; have has := hid_ opS_ascii; have hT : Hid (opT = toksL opS.data.toList 1 []) := hid_ rfl; generalize opT = T at *; generalize opS = N at *; go_wp2_with fail
 go_loopw [2, 3, 4] (fun nv fv rv wr => ∃ (pos fam fr : Nat) (done : List (Nat × List UInt8)) (cur : List UInt8), pos ≤ N.size ∧ fr ≤ pos ∧ nv = .int .i64 ((done.length : Int) + 1) ∧ fv = .int .i64 fam ∧ rv = .int .i64 fr ∧
  fam ≤ 1 + pos ∧ cur = (N.data.toList.drop fr).take (pos - fr) ∧ T = done ++ toksL (N.data.toList.drop pos) fam cur ∧ wr.heap[w.heap.size]? = some (.stringIter N pos) ∧ J done.length wr ∧ Chg S w wr)
  (fun _ _ _ wr => N.size - wr.iterPos w.heap.size)
 case atStart => exact ⟨0, 1, 0, [], [], by omega, by omega, rfl, rfl, rfl, by omega, rfl, hT.out, by rw [World.iter]; exact blk_new .., hJ _ _ _ h0 ((Chg.refl _ _).alloc _), (Chg.refl _ _).alloc _⟩
 case round =>
  obtain ⟨pos, fam, fr, done, cur, hp, hfp, rfl, rfl, rfl, hfa, hcur, hTd, hit, hj, X⟩ := hrel; clear hT
  by_cases hlt : pos < N.size
  · have hnx : ∀ ty, (Instr.next (.pointer (some ⟨w.heap.size, 0, none⟩)) true ty).run Tryz.prog wr = _ := fun ty => run_next_at wr w.heap.size N pos ty hit hlt (has.out pos hlt)
    have hcc : (N[pos].toNat : Int) < 128 := by have := has.out pos hlt; omega
    have hdr : N.data.toList.drop pos = N[pos] :: N.data.toList.drop (pos + 1) := List.drop_eq_getElem_cons (by simpa using hlt); have HD := hid_ hdr; clear hdr; have hi2 : (iterAt wr w.heap.size N (pos + 1)).heap[w.heap.size]? = some (.stringIter N (pos + 1)) := iterAt_self (blk_lt hit) _ _; have X2 : Chg S w (iterAt wr w.heap.size N (pos + 1)) := X.iterAt (.inr (Nat.le_refl _)) _ _; have hj2 : J done.length (iterAt wr w.heap.size N (pos + 1)) := hJ _ _ _ hj ((Chg.refl _ _).iterAt (.inl (Nat.le_refl _)) _ _); have HT := hid_ hTd; have HC := hid_ hcur; clear hTd hcur
    by_cases c1 : N[pos] = 10
    · have cz : (N[pos].toNat : Int) = 10 := by rw [c1]; rfl
      generalize (N[pos].toNat : Int) = c at *; subst cz; go_wp2_with fail
      go_roundw
      case rel => exact ⟨pos + 1, fam + 1, pos + 1, done, [], by omega, by omega, rfl, by go_num, by go_num, by omega, by simp, by rw [HT.out, HD.out, c1, toks_lf], hi2, hj2, X2⟩
      case measure => rw [iterPos_at hi2, iterPos_at hit]; omega
    · by_cases c2 : N[pos] = 32
      · have cz : (N[pos].toNat : Int) = 32 := by rw [c2]; rfl
        generalize (N[pos].toNat : Int) = c at *; subst cz
        have hTk : T[done.length]? = some (fam, cur) := by rw [HT.out, HD.out, c2, toks_sp, List.getElem?_append_right (Nat.le_refl _), Nat.sub_self]; rfl
        obtain ⟨hk, hTk⟩ := List.getElem?_eq_some_iff.1 hTk; have HY := hy done.length hk _ hj2 X2; rw [hTk] at HY; simp only at HY
        have hex : (⟨cur.toArray⟩ : ByteArray) = N.extract fr pos := by rw [extract_list, HC.out]
        rw [hex] at HY
        have hkb : (done.length : Int) ≤ 1000 := by omega
        have HK := hid_ hk; have HY := hid_ HY; clear hy hTk hk hex
        go_wp2_with (refine HY.out.mono ?_; rintro e w2 ⟨X3, (⟨rfl, hj3⟩ | ⟨rfl, hq⟩)⟩)
        case roundEnd =>
         have hi3 := X3.blk hi2 (fun h => Nat.lt_irrefl _ (hS _ h)); go_roundw
         case rel => exact ⟨pos + 1, fam, pos + 1, done ++ [(fam, cur)], [], by omega, by omega, by simp, rfl, by go_num, by omega, by simp, by rw [HT.out, HD.out, c2, toks_sp]; simp, hi3, by simpa using hj3, X2.trans X3⟩
         case measure => rw [iterPos_at hi3, iterPos_at hit]; omega
        refine bodyPost_ret (v := .tuple #[]) ?_ rfl ⟨rfl, X2.trans X3, .inr ⟨_, HK.out, hq⟩⟩; simp [results, Tryz.results49, go_sem]
      · have cz : ((N[pos].toNat : Int) == 10) = false := u8_ne (n := 10) c1 (by decide); have cy : ((N[pos].toNat : Int) == 32) = false := u8_ne (n := 32) c2 (by decide); generalize (N[pos].toNat : Int) = c at *; go_wp2_with fail
        go_roundw
        case rel => exact ⟨pos + 1, fam, fr, done, cur ++ [N[pos]], by omega, by omega, rfl, rfl, rfl, by omega, by rw [HC.out, take_snoc N fr pos hfp hlt], by rw [HT.out, HD.out, toks_ch _ _ _ _ c1 c2], hi2, hj2, X2⟩
        case measure => rw [iterPos_at hi2, iterPos_at hit]; omega
  · have hnx : ∀ ty, (Instr.next (.pointer (some ⟨w.heap.size, 0, none⟩)) true ty).run Tryz.prog wr = _ := fun ty => run_next_over wr w.heap.size N pos ty hit hlt
    obtain rfl : pos = N.size := by omega
    go_wp2_with fail
    go_end0; refine ⟨rfl, X, .inl ?_⟩; rw [hTd, List.drop_of_length_le (by simp), toksL, List.append_nil]; exact hj
theorem count1_any (n fam : Int) (s : ByteArray) (b : Nat) (v : Value) (w : World) (hb : w.heap[b]? = some (.cells #[v] 3)) :
 Calls Tryz.prog 58 #[.int .i64 n, .int .i64 fam, .string s, .pointer (some ⟨b, 0, none⟩)] w fun e w' => e = .returned (.bool true) ∧ Chg (· = b) w w' ∧ w'.heap[b]? = some (.cells #[.int .i64 n] 3) := by
 have R := cells_of hb; have Z := free_of hb; have l := blk_lt hb; go_enter Tryz.func58, Tryz.ntmps58
 go_wp2_with fail
 go_ret; have h2 := blk_set hb 0 (.int .i64 n); simp only [List.setIfInBounds_toArray, List.set_cons_zero] at h2; exact ⟨rfl, (Chg.refl (· = b) w).setCell (p := ⟨b, 0, none⟩) (.inl rfl) _, h2⟩
theorem count_any (w : World) : Calls Tryz.prog 36 #[] w fun e w' => e = .returned (.int .i64 162) ∧ Chg NoB w w' := by
 go_enter Tryz.func36, Tryz.ntmps36
 have hE := hid_ (each_any 58 #[.pointer (some ⟨w.heap.size, 0, none⟩)] (fun _ _ => by kernel_rfl) (· = w.heap.size) (fun k wr => wr.heap[w.heap.size]? = some (.cells #[.int .i64 k] 3)) (fun _ _ => False) (w.alloc (.cells #[.int .i64 0] 3))
  (fun i e => by subst e; simp) (fun k a b h X => X.blk h (by simp)) (fun k h w' hj X => by
   refine (count1_any _ _ _ _ _ w' hj).mono ?_; rintro e w2 ⟨rfl, X2, h2⟩
   exact ⟨X2, .inl ⟨rfl, by simpa using h2⟩⟩) (by simpa using blk_new w _))
 go_wp2_with fail
 refine hE.out.mono ?_; rintro e w1 ⟨rfl, X, (hj | ⟨-, -, hf⟩)⟩
 · rw [opT_length] at hj; have R := cells_of hj; go_wp2_with fail
   go_ret; exact ⟨rfl, ((Chg.refl NoB w).alloc _).trans' X fun i hi e => by omega⟩
 · exact hf.elim
noncomputable def opN (n : Int) : ByteArray := ⟨((opT.map Prod.snd).getD (n - 1).toNat []).toArray⟩
theorem name1_hit (n fam : Int) (s t : ByteArray) (p q : Nat) (w : World) (hp : w.heap[p]? = some (.cells #[.int .i64 n] 3)) (hq : w.heap[q]? = some (.cells #[.string t] 9)) :
 Calls Tryz.prog 50 #[.int .i64 n, .int .i64 fam, .string s, .pointer (some ⟨p, 0, none⟩), .pointer (some ⟨q, 0, none⟩)] w fun e w' => e = .returned (.bool false) ∧ Chg (· = q) w w' ∧ w'.heap[q]? = some (.cells #[.string s] 9) := by
 have R := cells_of hp; have l := blk_lt hp; have R2 := cells_of hq; have Z := free_of hq; have l2 := blk_lt hq
 have hne : q ≠ p := by rintro rfl; rw [hp] at hq; simp at hq
 go_enter Tryz.func50, Tryz.ntmps50
 go_wp2_with fail
 have h2 := blk_set hq 0 (.string s); simp only [List.setIfInBounds_toArray, List.set_cons_zero] at h2; have hp2 := blk_set_other (p := ⟨q, 0, none⟩) hp (Ne.symm hne) (.string s); have X := (Chg.refl (· = q) w).setCell (p := ⟨q, 0, none⟩) (.inl rfl) (.string s); generalize w.setCell ⟨q, 0, none⟩ (.string s) = w1 at *; clear R R2 Z l l2; have R := cells_of hp2; have l := blk_lt hp2; go_wp2_with fail
 go_ret; exact ⟨by simp, X, h2⟩
theorem name1_miss (k n fam : Int) (s : ByteArray) (p q : Nat) (w : World) (hp : w.heap[p]? = some (.cells #[.int .i64 n] 3)) (h : k < n) :
 Calls Tryz.prog 50 #[.int .i64 k, .int .i64 fam, .string s, .pointer (some ⟨p, 0, none⟩), .pointer (some ⟨q, 0, none⟩)] w fun e w' => e = .returned (.bool true) ∧ w = w' := by
 have R := cells_of hp; have l := blk_lt hp
 have hne : (k == n) = false := by simp; omega
 go_enter Tryz.func50, Tryz.ntmps50
 go_wp2_with fail
 go_ret; exact ⟨by simp, rfl⟩
theorem name_any (n : Int) (h1 : 1 ≤ n) (h2 : n ≤ 162) (w : World) : Calls Tryz.prog 31 #[.int .i64 n] w fun e w' => e = .returned (.string (opN n)) ∧ Chg NoB w w' := by
 have hl := opT_length
 have hE := hid_ (each_any 50 #[.pointer (some ⟨w.heap.size, 0, none⟩), .pointer (some ⟨w.heap.size + 1, 0, none⟩)] (fun _ _ => by kernel_rfl) (· = w.heap.size + 1)
  (fun k wr => (k : Int) < n ∧ wr.heap[w.heap.size]? = some (.cells #[.int .i64 n] 3) ∧ wr.heap[w.heap.size + 1]? = some (.cells #[.string ⟨#[]⟩] 9))
  (fun k wr => (k : Int) + 1 = n ∧ wr.heap[w.heap.size + 1]? = some (.cells #[.string (opN n)] 9)) ((w.alloc (.cells #[.int .i64 n] 3)).alloc (.cells #[.string ⟨#[]⟩] 9))
  (fun i e => by subst e; simp) (fun k a b h X => ⟨h.1, X.blk h.2.1 (by simp; omega), X.blk h.2.2 (by simp)⟩) (fun k h w' hj X => by
   obtain ⟨j1, j2, j3⟩ := hj
   by_cases e : (k : Int) + 1 = n
   · have := name1_hit n opT[k].1 ⟨opT[k].2.toArray⟩ _ _ _ w' j2 j3; rw [← e] at this; rw [e] at this ⊢; refine this.mono ?_; rintro e' w2 ⟨rfl, X2, hb⟩; refine ⟨X2, .inr ⟨rfl, rfl, ?_⟩⟩; rw [hb]
     have : (n - 1).toNat = k := by omega
     simp [opN, this, h]
   · refine (name1_miss _ n _ _ _ _ w' j2 (by omega)).mono ?_; rintro e' w2 ⟨rfl, rfl⟩
     exact ⟨Chg.refl _ _, .inl ⟨rfl, by push_cast; omega, j2, j3⟩⟩) ⟨by omega, by simpa using blk_alloc (blk_new w _) _, by simpa using blk_new1 w _ _⟩)
 go_enter Tryz.func31, Tryz.ntmps31
 go_wp2_with fail
 refine hE.out.mono ?_; rintro e w1 ⟨rfl, X, (⟨hj, -⟩ | ⟨k, -, -, hj⟩)⟩
 · omega
 · have R := cells_of hj; go_wp2_with fail
   go_ret; exact ⟨rfl, (((Chg.refl NoB w).alloc _).alloc _).trans' X fun i hi e => by omega⟩
structure O where
 kind : Int
 exec : Bool
 n : Int
 pos : Int
 len : Int
 s : ByteArray
 deriving DecidableEq
def O.cells (o : O) : List Value := [.int .i64 o.kind, .bool o.exec, .int .i64 o.n, .int .i64 o.pos, .int .i64 o.len, .string o.s]
abbrev O.val (o : O) : Value := .agg #[.int .i64 o.kind, .bool o.exec, .int .i64 o.n, .int .i64 o.pos, .int .i64 o.len, .string o.s]
def O.nil : O := ⟨0, false, 0, 0, 0, ⟨#[]⟩⟩
def bareO (o : O) : O :=
 if o.kind = 2 ∨ o.kind = 3 ∨ o.kind = 4 ∨ o.kind = 7 ∨ o.kind = 10 ∨ o.kind = 11 then { o with exec := false, n := 0 }
 else if o.kind = 5 then { o with exec := false, s := ⟨#[]⟩ }
 else if o.kind = 8 ∨ o.kind = 9 then { o with exec := false, n := 0, pos := 0, len := 0 }
 else { o with exec := false }
theorem within_any (v lo hi : Int) (w : World) :
 Calls Tryz.prog 106 #[.int .i64 v, .int .i64 lo, .int .i64 hi] w fun e w' => e = .returned (.bool (decide (lo ≤ v) && decide (v ≤ hi))) ∧ w = w' := by
 by_cases h1 : lo ≤ v <;> by_cases h2 : v ≤ hi
 all_goals
  go_enter Tryz.func106, Tryz.ntmps106
  go_wp2
  go_ret; exact ⟨by simp [h1, h2], rfl⟩
theorem bare_any (o : O) (w : World) :
 Calls Tryz.prog 105 #[o.val] w fun e w' => e = .returned (bareO o).val ∧ Chg NoB w w' := by
 obtain ⟨k, ex, n, a, l, s⟩ := o; go_enter Tryz.func105, Tryz.ntmps105
 go_wp2
 all_goals
  refine bodyPost_ret (v := (bareO ⟨k, ex, n, a, l, s⟩).val) ?_ rfl ⟨rfl, ((Chg.refl _ _).alloc _).alloc _⟩
  simp_all [results, Tryz.results105, go_sem, bareO]
def eqO (o p : O) : Bool := decide (o = p)
theorem eqO_iff {o p : O} : eqO o p = true ↔ o = p := by simp [eqO]
theorem eqO_self (o : O) : eqO o o = true := by simp [eqO]
theorem eqO_ne {o p : O} (h : o ≠ p) : eqO o p = false := by simp [eqO, h]
def mayO (o : O) : Bool :=
 eqO (bareO o) { O.nil with kind := o.kind } &&
 if o.kind = 1 ∨ o.kind = 6 then true
 else if o.kind = 2 then decide (0 ≤ o.n) && decide (o.n ≤ 1)
 else if o.kind = 3 then decide (-2147483647 ≤ o.n) && decide (o.n ≤ 2147483647)
 else if o.kind = 4 then decide (-1073741823 ≤ o.n) && decide (o.n ≤ 1073741823)
 else if o.kind = 5 then decide ((o.s.size : Int) ≤ 100)
 else if o.kind = 7 then decide (1 ≤ o.n) && decide (o.n ≤ 200)
 else if o.kind = 8 ∨ o.kind = 9 then (decide (0 ≤ o.n) && decide (o.n ≤ 40000)) && (decide (0 ≤ o.pos) && decide (o.pos ≤ 40000)) && (decide (0 ≤ o.len) && decide (o.len ≤ 40000))
 else if o.kind = 10 then decide (0 ≤ o.n) && decide (o.n ≤ 40000)
 else if o.kind = 11 then decide (1 ≤ o.n) && decide (o.n ≤ 2147483647)
 else false
theorem O.ext_iff' (k k' : Int) (x x' : Bool) (n n' a a' l l' : Int) (s s' : ByteArray) :
 ((⟨k, x, n, a, l, s⟩ : O) = ⟨k', x', n', a', l', s'⟩) ↔ (k = k' ∧ x = x' ∧ n = n' ∧ a = a' ∧ l = l' ∧ s = s') := by
 constructor
 · intro h; cases h; exact ⟨rfl, rfl, rfl, rfl, rfl, rfl⟩
 · rintro ⟨rfl, rfl, rfl, rfl, rfl, rfl⟩; rfl
theorem bytes_toList_eq (s s' : ByteArray) : (s.toList == s'.toList) = decide (s = s') := by
 by_cases h : s = s'
 · subst h; simp
 · have : s.toList ≠ s'.toList := by
    intro e; rw [ByteArray.toList_eq, ByteArray.toList_eq] at e; exact h (by cases s; cases s'; simp_all [Array.toList_inj])
   simp [h, this]
theorem run_eqO (k k' : Int) (x x' : Bool) (n n' a a' l l' : Int) (s s' : ByteArray) (w : World) :
 (Op.equalIn 10000 49 (.agg #[.int .i64 k, .bool x, .int .i64 n, .int .i64 a, .int .i64 l, .string s]) (.agg #[.int .i64 k', .bool x', .int .i64 n', .int .i64 a', .int .i64 l', .string s'])).run Tryz.prog w =
  .ok (eqO ⟨k, x, n, a, l, s⟩ ⟨k', x', n', a', l', s'⟩) w := by
 have e : (Op.equalIn 10000 49 (.agg #[.int .i64 k, .bool x, .int .i64 n, .int .i64 a, .int .i64 l, .string s]) (.agg #[.int .i64 k', .bool x', .int .i64 n', .int .i64 a', .int .i64 l', .string s'])).run Tryz.prog w =
  .ok ((k == k') && (x == x') && (n == n') && (a == a') && (l == l') && (s.toList == s'.toList)) w := by
  rw [run_equalIn_struct w 9999 49 _ _ (by kernel_rfl) (by kernel_rfl)]; simp [go_sem, Op.eqFields]
  by_cases h1 : k = k' <;> by_cases h2 : x = x' <;> by_cases h3 : n = n' <;> by_cases h4 : a = a' <;> by_cases h5 : l = l' <;> by_cases h6 : s.toList = s'.toList <;> simp [*]
 rw [e, bytes_toList_eq]; unfold eqO; refine congrArg (fun b => Result.ok b w) ?_; simp only [O.ext_iff']
 by_cases h1 : k = k' <;> by_cases h2 : x = x' <;> by_cases h3 : n = n' <;> by_cases h4 : a = a' <;> by_cases h5 : l = l' <;> by_cases h6 : s = s' <;> simp [*]
@[go_sem high] theorem run_eqlO (k k' : Int) (x x' : Bool) (n n' a a' l l' : Int) (s s' : ByteArray) (w : World) :
 (binOp .eql 49 (.agg #[.int .i64 k, .bool x, .int .i64 n, .int .i64 a, .int .i64 l, .string s]) (.agg #[.int .i64 k', .bool x', .int .i64 n', .int .i64 a', .int .i64 l', .string s'])).run Tryz.prog w =
  .ok (.bool (eqO ⟨k, x, n, a, l, s⟩ ⟨k', x', n', a', l', s'⟩)) w := by
 rw [run_eql_struct, run_eqO]; rfl
@[go_sem high] theorem run_neqO (k k' : Int) (x x' : Bool) (n n' a a' l l' : Int) (s s' : ByteArray) (w : World) :
 (binOp .neq 49 (.agg #[.int .i64 k, .bool x, .int .i64 n, .int .i64 a, .int .i64 l, .string s]) (.agg #[.int .i64 k', .bool x', .int .i64 n', .int .i64 a', .int .i64 l', .string s'])).run Tryz.prog w =
  .ok (.bool (!eqO ⟨k, x, n, a, l, s⟩ ⟨k', x', n', a', l', s'⟩)) w := by
 rw [run_neq_struct, run_eqO]; rfl
def Row (w : World) (T : TypeId) (size : Nat) (v : Value) (n : Nat) (xs : List Value) : Prop :=
 xs.length = n * size ∧
 ((v = .slice none 0 0 ∧ n = 0) ∨
  ∃ g cap cur fz, v = .slice (some ⟨g, 0, none⟩) n cap ∧ w.heap[g]? = some (.cells cur T fz) ∧ (fz = (0, 0) ∨ cur.size ≤ fz.1) ∧ n ≤ cap ∧ cap ≤ maxLen ∧ cur.size = cap * size ∧ cur.toList.take (n * size) = xs)
structure C where
 text : Bool
 dict : Bool
 locked : Bool
 items : List O
 bytes : List UInt8
def C.size (c : C) : Nat := if c.text then c.bytes.length else c.items.length
def C.kind (c : C) : Int := if c.text then 8 else if c.dict then 10 else 9
abbrev vu8 (b : UInt8) : Value := .int .u8 b.toNat
structure PC where
 p : Nat
 sl : Value
 c : C
abbrev ptr (b : Nat) : Value := .pointer (some ⟨b, 0, none⟩)
def PC.ptrs (x : PC) : List Value := if x.c.text then [.pointer none, ptr x.p] else [ptr x.p, .pointer none]
def PC.val (x : PC) : Value := .agg x.ptrs.toArray
def PC.foot (x : PC) : List Nat := x.p :: x.sl.ownBlock.toList
def PC.ok (w : World) (x : PC) : Prop :=
 if x.c.text then
  w.heap[x.p]? = some (.cells #[.bool x.c.locked, x.sl] 125 (0, 0)) ∧ Row w 5 1 x.sl x.c.bytes.length (x.c.bytes.map vu8) ∧ x.c.items = []
 else
  w.heap[x.p]? = some (.cells #[.bool x.c.locked, .bool x.c.dict, x.sl] 127 (0, 0)) ∧ Row w 49 6 x.sl x.c.items.length (x.c.items.flatMap O.cells) ∧ x.c.bytes = []
def used (L : List C) : Nat := (L.map C.size).sum
structure HS where
 hp : Nat
 slv : Value
 L : List PC
abbrev HS.l (h : HS) : List C := h.L.map PC.c
def HS.foot (h : HS) : List Nat := h.hp :: (h.slv.ownBlock.toList ++ h.L.flatMap PC.foot)
structure HeapRep (w : World) (h : HS) : Prop where
 head : w.heap[h.hp]? = some (.cells #[h.slv, .int .i64 (used h.l : Nat)] 84 (0, 0))
 own : w.ownsRow 0 121 2 h.slv h.L.length (h.L.flatMap PC.ptrs)
 cell : ∀ x ∈ h.L, x.ok w
 apart : h.foot.Nodup
 most : h.L.length ≤ 2000
 room : used h.l ≤ 40000
theorem Row.shape {size : Nat} (h : Row w T size v n xs) : ∃ a cap, v = .slice a n cap ∧ (n ≤ cap) := by
 rcases h.2 with ⟨rfl, rfl⟩ | ⟨g, cap, cur, fz, rfl, _, _, h1, _⟩
 · exact ⟨none, 0, rfl, Nat.le_refl _⟩
 · exact ⟨_, _, rfl, h1⟩
theorem Row.some' {size : Nat} (h : Row w T size v n xs) (hn : 0 < n) :
 ∃ g cap cur fz, v = .slice (some ⟨g, 0, none⟩) n cap ∧ w.heap[g]? = some (.cells cur T fz) ∧ (fz = (0, 0) ∨ cur.size ≤ fz.1) ∧ n ≤ cap ∧ cap ≤ maxLen ∧ cur.size = cap * size ∧ (∀ i, i < n * size → cur[i]? = xs[i]?) := by
 rcases h.2 with ⟨_, rfl⟩ | ⟨g, cap, cur, fz, h1, h2, h3, h4, h5, h6, h7⟩
 · omega
 · refine ⟨g, cap, cur, fz, h1, h2, h3, h4, h5, h6, fun i hi => ?_⟩; rw [← h7, List.getElem?_take, if_pos hi]; simp
theorem Row.chg {S : Nat → Prop} {size : Nat} (h : Row w T size v n xs) (hc : Chg S w w') (hS : ∀ b ∈ v.ownBlock.toList, ¬ S b) : Row w' T size v n xs := by
 refine ⟨h.1, ?_⟩
 rcases h.2 with hn | ⟨g, cap, cur, fz, rfl, h2, rest⟩
 · exact .inl hn
 · exact .inr ⟨g, cap, cur, fz, rfl, hc.blk h2 (hS g (by simp [Value.ownBlock])), rest⟩
theorem Row.lt {size : Nat} (h : Row w T size v n xs) : ∀ b ∈ v.ownBlock.toList, b < w.heap.size := by
 rcases h.2 with ⟨rfl, _⟩ | ⟨g, cap, cur, fz, rfl, h2, rest⟩
 · simp [Value.ownBlock]
 · intro b hb; simp [Value.ownBlock] at hb; subst hb; exact blk_lt h2
theorem Row.of_owns {size : Nat} (h : w.ownsRow 0 T size v n xs) : Row w T size v n xs := by
 refine ⟨h.1, ?_⟩
 rcases h.2 with hn | ⟨g, cap, cur, h1, h2, h3, h4, h5, h6, h7⟩
 · exact .inl hn
 · exact .inr ⟨g, cap, cur, _, h1, h3, .inl rfl, h4, h5, h6, h7⟩
theorem owns_chg {S : Nat → Prop} {size : Nat} (h : w.ownsRow 0 T size v n xs) (hc : Chg S w w') (hS : ∀ b ∈ v.ownBlock.toList, ¬ S b) : w'.ownsRow 0 T size v n xs := by
 refine ⟨h.1, ?_⟩
 rcases h.2 with hn | ⟨g, cap, cur, rfl, h1, h2, rest⟩
 · exact .inl hn
 · exact .inr ⟨g, cap, cur, rfl, h1, hc.blk h2 (hS g (by simp [Value.ownBlock])), rest⟩
theorem HeapRep.row {h : HS} (H : HeapRep w h) : Row w 121 2 h.slv h.L.length (h.L.flatMap PC.ptrs) := Row.of_owns H.own
theorem flat_length {α : Type} (f : α → List Value) (k : Nat) (hf : ∀ x, (f x).length = k) : ∀ L : List α, (L.flatMap f).length = L.length * k
 | [] => by simp
 | x :: L => by rw [List.flatMap_cons, List.length_append, hf, flat_length f k hf L, List.length_cons, Nat.succ_mul, Nat.add_comm]
theorem flat_get {α : Type} (f : α → List Value) (k : Nat) (hf : ∀ x, (f x).length = k) (j : Nat) (hj : j < k) : ∀ (L : List α) (i : Nat), (L.flatMap f)[i * k + j]? = (L[i]?).bind fun x => (f x)[j]?
 | [], i => by simp
 | x :: L, 0 => by rw [List.flatMap_cons, List.getElem?_append_left (by rw [hf]; omega)]; simp
 | x :: L, i + 1 => by
  rw [List.flatMap_cons, List.getElem?_append_right (by rw [hf, Nat.succ_mul]; omega), hf, show (i + 1) * k + j - k = i * k + j by rw [Nat.succ_mul]; omega, flat_get f k hf j hj L i]; simp
theorem ptrs_length (x : PC) : x.ptrs.length = 2 := by unfold PC.ptrs; split <;> rfl
theorem cells_length (o : O) : o.cells.length = 6 := rfl
theorem PC.ok.chg {S : Nat → Prop} {x : PC} (h : x.ok w) (hc : Chg S w w') (hS : ∀ b ∈ x.foot, ¬ S b) : x.ok w' := by
 unfold PC.ok at h ⊢; have h1 : ∀ b ∈ x.sl.ownBlock.toList, ¬ S b := fun b hb => hS b (by simp [PC.foot]; exact .inr (by simpa using hb)); have h2 : ¬ S x.p := hS _ (by simp [PC.foot])
 split <;> rename_i ht <;> simp only [ht, if_true, if_false, Bool.false_eq_true] at h
 · exact ⟨hc.blk h.1 h2, h.2.1.chg hc h1, h.2.2⟩
 · exact ⟨hc.blk h.1 h2, h.2.1.chg hc h1, h.2.2⟩
theorem PC.ok.lt {x : PC} (h : x.ok w) : ∀ b ∈ x.foot, b < w.heap.size := by
 intro b hb; simp only [PC.foot, List.mem_cons] at hb; unfold PC.ok at h; split at h
 · rcases hb with rfl | hb
   · exact blk_lt h.1
   · exact h.2.1.lt b hb
 · rcases hb with rfl | hb
   · exact blk_lt h.1
   · exact h.2.1.lt b hb
theorem HeapRep.lt {h : HS} (H : HeapRep w h) : ∀ b ∈ h.foot, b < w.heap.size := by
 intro b hb; simp only [HS.foot, List.mem_cons, List.mem_append, List.mem_flatMap] at hb
 rcases hb with rfl | hb | ⟨x, hx, hb⟩
 · exact blk_lt H.head
 · exact H.row.lt b hb
 · exact (H.cell x hx).lt b hb
theorem HeapRep.chg {S : Nat → Prop} {h : HS} (H : HeapRep w h) (hc : Chg S w w') (hS : ∀ b ∈ h.foot, ¬ S b) : HeapRep w' h where
 head := hc.blk H.head (hS _ (by simp [HS.foot]))
 own := owns_chg H.own hc fun b hb => hS b (by simp only [HS.foot, List.mem_cons, List.mem_append]; exact .inr (.inl hb))
 cell := fun x hx => (H.cell x hx).chg hc fun b hb => hS b (by simp only [HS.foot, List.mem_cons, List.mem_append, List.mem_flatMap]; exact .inr (.inr ⟨x, hx, hb⟩))
 apart := H.apart
 most := H.most
 room := H.room
theorem HeapRep.pure {h : HS} (H : HeapRep w h) (hc : Chg NoB w w') : HeapRep w' h := H.chg hc fun _ _ e => e
theorem PC.ok.item {x : PC} (h : x.ok w) (ht : x.c.text = false) {i : Nat} (hi : i < x.c.items.length) :
 ∃ g cap cur fz, x.sl = .slice (some ⟨g, 0, none⟩) x.c.items.length cap ∧ w.heap[g]? = some (.cells cur 49 fz) ∧ (fz = (0, 0) ∨ cur.size ≤ fz.1) ∧ x.c.items.length * 6 ≤ cur.size ∧ g ∈ x.sl.ownBlock.toList ∧
  cur[i * 6]? = some (.int .i64 x.c.items[i].kind) ∧ cur[i * 6 + 1]? = some (.bool x.c.items[i].exec) ∧ cur[i * 6 + 2]? = some (.int .i64 x.c.items[i].n) ∧
  cur[i * 6 + 3]? = some (.int .i64 x.c.items[i].pos) ∧ cur[i * 6 + 4]? = some (.int .i64 x.c.items[i].len) ∧ cur[i * 6 + 5]? = some (.string x.c.items[i].s) := by
 unfold PC.ok at h; simp only [ht, if_false, Bool.false_eq_true] at h; obtain ⟨g, cap, cur, fz, h1, h2, h3, h4, h5, h6, h7⟩ := h.2.1.some' (by omega)
 have e : ∀ j, j < 6 → cur[i * 6 + j]? = x.c.items[i].cells[j]? := fun j hj => by
  rw [h7 _ (by omega), flat_get O.cells 6 cells_length j hj, List.getElem?_eq_getElem hi]; rfl
 exact ⟨g, cap, cur, fz, h1, h2, h3, by rw [h6]; exact Nat.mul_le_mul_right _ h4, by rw [h1]; simp [Value.ownBlock], e 0 (by omega), e 1 (by omega), e 2 (by omega), e 3 (by omega), e 4 (by omega), e 5 (by omega)⟩
theorem PC.ok.byte {x : PC} (h : x.ok w) (ht : x.c.text = true) {i : Nat} (hi : i < x.c.bytes.length) :
 ∃ g cap cur fz, x.sl = .slice (some ⟨g, 0, none⟩) x.c.bytes.length cap ∧ w.heap[g]? = some (.cells cur 5 fz) ∧ (fz = (0, 0) ∨ cur.size ≤ fz.1) ∧ x.c.bytes.length ≤ cur.size ∧ g ∈ x.sl.ownBlock.toList ∧
  cur[i]? = some (vu8 x.c.bytes[i]) := by
 unfold PC.ok at h; simp only [ht, if_true] at h; obtain ⟨g, cap, cur, fz, h1, h2, h3, h4, h5, h6, h7⟩ := h.2.1.some' (by omega); refine ⟨g, cap, cur, fz, h1, h2, h3, by omega, by rw [h1]; simp [Value.ownBlock], ?_⟩; rw [h7 _ (by omega)]; simp [hi]
theorem PC.ok.head {x : PC} (h : x.ok w) : (x.c.text = true → w.heap[x.p]? = some (.cells #[.bool x.c.locked, x.sl] 125 (0, 0))) ∧ (x.c.text = false → w.heap[x.p]? = some (.cells #[.bool x.c.locked, .bool x.c.dict, x.sl] 127 (0, 0))) := by
 unfold PC.ok at h
 split at h <;> rename_i ht <;> simp only [ht]
 · exact ⟨fun _ => h.1, fun e => by simp at e⟩
 · exact ⟨fun e => by simp at e, fun _ => h.1⟩
def held (o : O) : Bool := o.kind == 9 || o.kind == 8 || o.kind == 10
def mayH (L : List C) (o : O) : Bool :=
 mayO o && (!held o || (decide (o.n < L.length) && match L[o.n.toNat]? with
  | some c => decide (c.kind = o.kind) && decide (o.pos + o.len ≤ c.size)
  | none => false))
def findE (L : List C) (o : O) : Int := if held o = false then 6 else if mayH L o = false then 1 else 0
def atOf (o : O) : Int := if o.kind = 10 then 0 else o.pos
def lenOf (c : C) (o : O) : Int := if o.kind = 10 then c.size else o.len
def getH (L : List C) (o : O) (i : Int) : O × Int :=
 if findE L o ≠ 0 then (O.nil, findE L o)
 else match L[o.n.toNat]? with
  | none => (O.nil, 0)
  | some c =>
   if i < 0 ∨ lenOf c o ≤ i then (O.nil, 12)
   else if c.text then (⟨3, false, (c.bytes.getD (atOf o + i).toNat 0).toNat, 0, 0, ⟨#[]⟩⟩, 0)
   else (c.items.getD (atOf o + i).toNat O.nil, 0)
def setH (L : List C) (o : O) (i : Int) (x : O) : List C × Int :=
 if findE L o ≠ 0 then (L, findE L o)
 else match L[o.n.toNat]? with
  | none => (L, 0)
  | some c =>
   if i < 0 ∨ lenOf c o ≤ i then (L, 12)
   else if c.locked then (L, 1)
   else if c.text then
    if x.kind ≠ 3 then (L, 6)
    else if x.n < 0 ∨ 255 < x.n then (L, 2)
    else (L.set o.n.toNat { c with bytes := c.bytes.set (atOf o + i).toNat (UInt8.ofNat x.n.toNat) }, 0)
   else if mayH L x = false then (L, 1)
   else (L.set o.n.toNat { c with items := c.items.set (atOf o + i).toNat x }, 0)
def Next (w : World) (h : HS) (w' : World) (L : List C) : Prop :=
 ∃ h' : HS, h'.hp = h.hp ∧ h'.l = L ∧ HeapRep w' h' ∧ Chg (· ∈ h.foot) w w' ∧ ∀ b ∈ h'.foot, b ∈ h.foot ∨ w.heap.size ≤ b
theorem held_any (o : O) (w : World) :
 Calls Tryz.prog 95 #[o.val] w fun e w' => e = .returned (.bool (held o)) ∧ Chg NoB w w' := by
 obtain ⟨k, ex, n, a, l, s⟩ := o; have Hm : Hid (held ⟨k, ex, n, a, l, s⟩ = (k == 9 || k == 8 || k == 10)) := rfl; go_enter Tryz.func95, Tryz.ntmps95
 go_wp2
 all_goals
  go_ret; refine ⟨?_, (Chg.refl _ _).alloc _⟩; rw [Hm.out]
  simp_all
theorem kind_any (x : PC) (w : World) (h : x.ok w) :
 Calls Tryz.prog 96 #[x.val] w fun e w' => e = .returned (.int .i64 x.c.kind) ∧ Chg NoB w w' := by
 obtain ⟨p, sl, t, d, k, its, bs⟩ := x; unfold PC.ok at h
 cases t <;> simp only [if_true, if_false, Bool.false_eq_true] at h
 · obtain ⟨h1, -⟩ := h; have hl := blk_lt h1; have R := Chg.cells (S := NoB) h1 id; have X := Chg.refl NoB w
   cases d
   all_goals
    go_enter Tryz.func96, Tryz.ntmps96
    simp only [PC.val, PC.ptrs, if_false, Bool.false_eq_true]; go_wp2
    go_ret; exact ⟨rfl, X.alloc _⟩
 · go_enter Tryz.func96, Tryz.ntmps96
   simp only [PC.val, PC.ptrs, if_true]; go_wp2
   go_ret; exact ⟨rfl, (Chg.refl _ _).alloc _⟩
theorem size_any (x : PC) (w : World) (h : x.ok w) :
 Calls Tryz.prog 97 #[x.val] w fun e w' => e = .returned (.int .i64 x.c.size) ∧ Chg NoB w w' := by
 obtain ⟨p, sl, t, d, k, its, bs⟩ := x; unfold PC.ok at h
 cases t <;> simp only [if_true, if_false, Bool.false_eq_true] at h
 all_goals
  obtain ⟨h1, h2, -⟩ := h; obtain ⟨a, cap, rfl, hc⟩ := h2.shape; have hl := blk_lt h1; have R := Chg.cells (S := NoB) h1 id; have X := Chg.refl NoB w; go_enter Tryz.func97, Tryz.ntmps97
  simp only [PC.val, PC.ptrs, if_true, if_false, Bool.false_eq_true]; go_wp2
  go_ret; exact ⟨rfl, X.alloc _⟩
theorem locked_any (x : PC) (w : World) (h : x.ok w) :
 Calls Tryz.prog 98 #[x.val] w fun e w' => e = .returned (.bool x.c.locked) ∧ Chg NoB w w' := by
 obtain ⟨p, sl, t, d, k, its, bs⟩ := x; unfold PC.ok at h
 cases t <;> simp only [if_true, if_false, Bool.false_eq_true] at h
 all_goals
  obtain ⟨h1, h2, -⟩ := h; have hl := blk_lt h1; have R := Chg.cells (S := NoB) h1 id; have X := Chg.refl NoB w; go_enter Tryz.func98, Tryz.ntmps98
  simp only [PC.val, PC.ptrs, if_true, if_false, Bool.false_eq_true]; go_wp2
  go_ret; exact ⟨rfl, X.alloc _⟩
theorem may_bad (o : O) (w : World) (h : bareO o ≠ { O.nil with kind := o.kind }) :
 Calls Tryz.prog 77 #[o.val] w fun e w' => e = .returned (.bool false) ∧ Chg NoB w w' := by
 obtain ⟨k, ex, n, a, l, s⟩ := o
 have hd : eqO (bareO ⟨k, ex, n, a, l, s⟩) ⟨k, false, 0, 0, 0, ⟨#[]⟩⟩ = false := by
  exact eqO_ne h
 go_enter Tryz.func77, Tryz.ntmps77
 go_wp2_with fail
 have hB := blk_new w (.cells #[.int .i64 k, .bool ex, .int .i64 n, .int .i64 a, .int .i64 l, .string s] 49); have XW := (Chg.refl NoB w).alloc (.cells #[.int .i64 k, .bool ex, .int .i64 n, .int .i64 a, .int .i64 l, .string s] 49); generalize hW : w.alloc _ = W at *; clear hW; have R := Chg.cells (S := NoB) hB id; have X := Chg.refl NoB W
 go_region_held3 (fun w' => Chg NoB W w') (first | assumption | (exact Chg.drew (by assumption)) | (exact Chg.pure (by assumption) (by assumption)))
  ((go_at_call 105; refine (bare_any ⟨k, ex, n, a, l, s⟩ _).mono ?_; rintro e w4 ⟨rfl, hb4⟩; clear h; generalize bareO ⟨k, ex, n, a, l, s⟩ = q at *))
 go_wp2
 go_ret; exact ⟨rfl, XW.trans (by assumption)⟩
theorem may_good (o : O) (w : World) (h : bareO o = { O.nil with kind := o.kind }) :
 Calls Tryz.prog 77 #[o.val] w fun e w' => e = .returned (.bool (mayO o)) ∧ Chg NoB w w' := by
 obtain ⟨k, ex, n, a, l, s⟩ := o; have hm : mayO ⟨k, ex, n, a, l, s⟩ = mayO ⟨k, ex, n, a, l, s⟩ := rfl
 conv at hm => rhs; rw [mayO, h]
 simp only [eqO_self, Bool.true_and] at hm; have Hm := Lib.hid hm; clear hm
 have hd : eqO (bareO ⟨k, ex, n, a, l, s⟩) ⟨k, false, 0, 0, 0, ⟨#[]⟩⟩ = true := by
  exact eqO_iff.2 h
 go_enter Tryz.func77, Tryz.ntmps77
 go_wp2_with fail
 have hB := blk_new w (.cells #[.int .i64 k, .bool ex, .int .i64 n, .int .i64 a, .int .i64 l, .string s] 49); have XW := (Chg.refl NoB w).alloc (.cells #[.int .i64 k, .bool ex, .int .i64 n, .int .i64 a, .int .i64 l, .string s] 49); generalize hW : w.alloc _ = W at *; clear hW; have R := Chg.cells (S := NoB) hB id; have X := Chg.refl NoB W
 go_region_held3 (fun w' => Chg NoB W w') (first | assumption | (exact Chg.drew (by assumption)) | (exact Chg.pure (by assumption) (by assumption)))
  ((go_at_call 105; refine (bare_any ⟨k, ex, n, a, l, s⟩ _).mono ?_; rintro e w4 ⟨rfl, hb4⟩; clear h; generalize bareO ⟨k, ex, n, a, l, s⟩ = q at *))
 go_wp2_with (go_at_call 106; refine (within_any _ _ _ _).mono ?_; rintro e w' ⟨rfl, rfl⟩)
 all_goals
  go_ret; refine ⟨?_, XW.trans (by assumption)⟩; rw [Hm.out]; clear R X XW Hm; clear hd
  first | (simp_all; done) | (simp_all; omega)
theorem may_any (o : O) (w : World) :
 Calls Tryz.prog 77 #[o.val] w fun e w' => e = .returned (.bool (mayO o)) ∧ Chg NoB w w' := by
 by_cases h : bareO o = { O.nil with kind := o.kind }
 · exact may_good o w h
 · have : mayO o = false := by unfold mayO; rw [eqO_ne h]; rfl
   rw [this]; exact may_bad o w h
end Go.Proofs.YtpiomapnmempoaaGreat
