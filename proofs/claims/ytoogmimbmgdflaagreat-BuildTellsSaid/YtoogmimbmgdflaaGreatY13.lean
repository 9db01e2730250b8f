/- Parts of the proof: Ast, Ubm, Tel, Rfh, Rfk, Rmk. -/
import Derived.Lib.AppendStr
import Derived.DeepKeys4
import Derived.Deep.DrawnRows
import Derived.BigRegion
import Derived.Test.YtoogmimbmgdflaaGreatY12
namespace Go.Proofs.YtoogmimbmgdflaaGreat
open Go.RowKit
variable {W w w0 : World} {M : List (Nat × List C)} {E J J0 K KL R : List (Nat × Obj)} {T : TypeId} {g gp n sz : Nat} {lv v : Value} {vs xs : List Value} {c : C} {L : List C} {fz : Nat × Nat}
section
section
variable {P : Program} (w : World)
theorem run_append_str_at (base : Nat) (t u ty e : TypeId) (i : TypeInfo) (ht : P.underlying t = some (.slice e)) (hu : P.underlying u = some .string) (hi : P.info? e = some i) (hz : i.zero = some (.int .u8 0))
 (hsize : i.size = 1) (hby : i.bytes = 1)
 (v : Value) (n : Nat) (xs : List Value) (hown : w.ownsRow base e 1 v n xs) (s : ByteArray)
 (h63 : n + s.size ≤ maxLen) (hbytes : n + s.size ≤ 140737488355328) (hbase : base ≤ w.heap.size) :
 ∃ v' w', (Builtin.append_ #[t, u] ty #[v, .string s]).run P w = .ok v' w' ∧ w'.ownsRow base e 1 v' (n + s.size) (xs ++ Lib.strCells s) ∧ w.grownBy w' v.ownBlock ∧
  (v' = .slice none 0 0 ↔ v = .slice none 0 0 ∧ s.size = 0) ∧ (v'.ownBlock = v.ownBlock ∨ v'.ownBlock = some w.heap.size) := by
 obtain ⟨v', w', hr, h1, h2, h3⟩ := Lib.run_append_own_string (P := P) w base t u ty e i ht hu hi hz hsize hby v n xs hown s h63 hbytes hbase; refine ⟨v', w', hr, h1, h2, h3, ?_⟩
 have hsmall : n + s.size ≤ 9223372036854775807 := by simp only [maxLen] at h63; omega
 have hxl : xs.length = n := by simpa using hown.1
 rcases hown.2 with ⟨rfl, rfl⟩ | ⟨g, cap, cur, rfl, hbg, hg, hnc, hcm, hcs, htake⟩
 · by_cases hm : s.size = 0
   · exact .inl (by rw [h3.2 ⟨rfl, hm⟩])
   · have := run_append_nil_string (P := P) w t u ty e i (.int .u8 0) ht hu hi hz s (by omega) (by omega) (by rw [hby]; omega); rw [hr] at this
     injection this with this _
     subst this; exact .inr rfl
 · by_cases hroom : n + s.size ≤ cap
   · have hcs' : cur.size = cap := by simpa using hcs
     have := Lib.run_append_room_string (P := P) w t u ty e i ht hu hi hsize g n cap cur hg s hroom (by omega); rw [hr] at this
     injection this with this _
     subst this; exact .inl rfl
   · have := Lib.run_append_grow_string (P := P) w t u ty e i (.int .u8 0) ht hu hi hz ⟨g, 0, none⟩ n cap xs (by rw [hsize]; simpa using hxl) (hown.cells (g := g) rfl) s (by omega) (by omega) (by rw [hby]; exact growslice_fits (by omega) (by omega)); rw [hr] at this
     injection this with this _
     subst this; exact .inr rfl
theorem step_append_str {ops : Array Oper} {o : Oper} {a : Act} {K : Act → World → Prop} {Q : Exit → Act → World → Prop} {E : Prop} (hgd : o.guard = none) (sl x : Operand) (t u : TypeId)
 (ho : o.op = .call { callee := .builtin .append, args := #[sl, x], argTypes := #[t, u] })
 (base : Nat) (e : TypeId) (i : TypeInfo) (ht : P.underlying t = some (.slice e)) (hu : P.underlying u = some .string) (hi : P.info? e = some i) (hz : i.zero = some (.int .u8 0))
 (hsize : i.size = 1) (hby : i.bytes = 1)
 (v : Value) (n : Nat) (xs : List Value) (hs : a.eval sl = v) (hown : w.ownsRow base e 1 v n xs) (s : ByteArray) (hx : a.eval x = .string s)
 (h63 : n + s.size ≤ maxLen) (hbytes : n + s.size ≤ 140737488355328) (hbase : base ≤ w.heap.size)
 (h : ∀ v' w', w'.ownsRow base e 1 v' (n + s.size) (xs ++ Lib.strCells s) → w.grownBy w' v.ownBlock → (v' = .slice none 0 0 ↔ v = .slice none 0 0 ∧ s.size = 0) → (v'.ownBlock = v.ownBlock ∨ v'.ownBlock = some w.heap.size) → K (a.put o.dst v') w') :
 if Region.wanted o (yielded ops a.tmps) = true then Oper.wp P o a w K Q else E := by
 have hw : Region.wanted o (yielded ops a.tmps) = true := by simp [Region.wanted, hgd]
 rw [if_pos hw]; obtain ⟨v', w', hr, h2, h3, h4, h5⟩ := run_append_str_at (P := P) w base t u o.type e i ht hu hi hz hsize hby v n xs hown s h63 hbytes hbase; unfold Oper.wp execOp; simp only [ho, resolve, invoke, builtin, Sem.run_bind, Sem.run_pure, Result.andThen_ok, List.map_toArray, List.map_cons, List.map_nil, hs, hx, hr]; exact h v' w' h2 h3 h4 h5
end
theorem Ats.grownS {w' : World} {v' : Value} {m : Nat} {xs' : List Value} (A : Ats w0 w M (R ++ K)) (h : RowG T sz R v n xs)
 (hown : w'.ownsRow w0.heap.size T sz v' (n + m) xs') (hgr : w.grownBy w' v.ownBlock) (hnil : v' = .slice none 0 0 ↔ v = .slice none 0 0 ∧ m = 0) (hob : v'.ownBlock = v.ownBlock ∨ v'.ownBlock = some w.heap.size) :
 ∃ R', RowG T sz R' v' (n + m) xs' ∧ Ats w0 w' M (R' ++ K) := by
 by_cases hm : 0 < m
 · exact A.grownG h hown hgr hob hm
 obtain rfl : m = 0 := by omega
 obtain ⟨hl, ⟨rfl, h0⟩ | ⟨g', cap', cur', rfl, hg0, hg', c1, c2, c3, c4⟩⟩ := hown
 · obtain ⟨rfl, -⟩ := hnil.1 rfl
   rcases h with ⟨-, rfl, rfl, rfl⟩ | ⟨g, cap, cur, hv, -⟩
   · refine ⟨[], .inl ⟨rfl, rfl, ?_, rfl⟩, ?_⟩
     · exact List.eq_nil_of_length_eq_zero (by simpa using hl)
     · exact A.pure (Chg.grown (Chg.refl NoB w) hgr (fun k hk => by simp [Value.ownBlock] at hk))
   · simp at hv
 refine ⟨[(g', .cells cur' T)], .inr ⟨g', cap', cur', rfl, rfl, c1, c2, c3, c4, hl⟩, ?_⟩
 rcases h with ⟨rfl, rfl, rfl, rfl⟩ | ⟨g, cap, cur, rfl, rfl, -⟩
 · have C1 : Chg NoB w w' := Chg.grown (Chg.refl NoB w) hgr (fun k hk => by simp [Value.ownBlock] at hk); refine A.got C1 hg' ?_
   rcases hob with e | e
   · simp [Value.ownBlock] at e
   · simp [Value.ownBlock] at e; omega
 · have C1 : Chg (· = g) w w' := Chg.grown (Chg.refl (· = g) w) hgr (fun k hk => by simp [Value.ownBlock] at hk; exact .inl hk.symm); refine Ats.renewG A C1 hg' ?_
   rcases hob with e | e
   · simp [Value.ownBlock] at e; exact .inl e
   · simp [Value.ownBlock] at e; exact .inr (by omega)
end
abbrev partV (p : Int × Int × Int) : Value := .agg #[.int .i64 p.1, .int .i64 p.2.1, .int .i64 p.2.2]
theorem partLaw : WideMaps.KeyLaw Tryz.prog 92 := deep_law_laid (by kernel_rfl) (m := 2) (by omega) (of_decide_eq_true (by kernel_rfl)) (by kernel_rfl) (by kernel_rfl)
theorem part_kt : Tryz.prog.keyType 92 = true := by kernel_rfl
theorem part_cells : Tryz.prog.cellsOf 92 = 3 := by kernel_rfl
theorem int_cells8 : Tryz.prog.cellsOf 3 = 1 := by kernel_rfl
theorem part_size : (0 : Nat) < Tryz.prog.types.size := of_decide_eq_true (by kernel_rfl)
theorem part_formed (a b c : Int) : (partV (a, b, c)).formed Tryz.prog 92 = true := by simp [Value.formed, Tryz.underlying92, part_cells]
theorem int_lits (m : Nat) (a : Int) (h : (Lit.int .i64 a).wf = true) : Tryz.prog.keyLits (m + 1) 3 [.int .i64 a] = some [.int .i64 a] := by
 simp only [Program.keyLits, Tryz.underlying3, h]; simp
theorem part_lits (m : Nat) (a b c : Int) (ha : (Lit.int .i64 a).wf = true) (hb : (Lit.int .i64 b).wf = true) (hc : (Lit.int .i64 c).wf = true) :
 Tryz.prog.keyLits (m + 2) 92 [.int .i64 a, .int .i64 b, .int .i64 c] = some [.int .i64 a, .int .i64 b, .int .i64 c] := by
 unfold Program.keyLits; simp only [Tryz.underlying92, part_cells]; rw [if_pos (by exact ⟨rfl, by simp⟩)]; simp only [List.mapM_cons, List.mapM_nil, int_cells8, List.drop_zero, List.drop_succ_cons, List.take_succ_cons, List.take_zero, int_lits m a ha, int_lits m b hb, int_lits m c hc]; rfl
theorem part_key (a b c : Int) (ha : (Lit.int .i64 a).wf = true) (hb : (Lit.int .i64 b).wf = true) (hc : (Lit.int .i64 c).wf = true) : ∃ l, keyOf Tryz.prog 92 (partV (a, b, c)) = some l := by
 obtain ⟨m, hm⟩ : ∃ m, Tryz.prog.types.size = m + 1 := ⟨Tryz.prog.types.size - 1, by have := part_size; omega⟩
 unfold keyOf; simp only [Tryz.underlying92]; rw [part_kt, part_formed, if_pos (by rfl), hm]; have := part_lits m a b c ha hb hc; simp only [Value.cells]; rw [this]; exact ⟨_, rfl⟩
def PartOk (p : Int × Int × Int) : Prop := (Lit.int .i64 p.1).wf = true ∧ (Lit.int .i64 p.2.1).wf = true ∧ (Lit.int .i64 p.2.2).wf = true
def MapP (es : Array MapEntry) (ks : List (Int × Int × Int)) : Prop := es.toList.map (fun e => (e.key, e.val)) = ks.map (fun p => (partV p, Value.bool true)) ∧ ∀ p ∈ ks, PartOk p
theorem partV_inj {p q : Int × Int × Int} (h : partV p = partV q) : p = q := by
 obtain ⟨a, b, c⟩ := p; obtain ⟨d, e, f⟩ := q; simp at h
 obtain ⟨rfl, rfl, rfl⟩ := h; rfl
theorem MapP.mem {es : Array MapEntry} {ks : List (Int × Int × Int)} (h : MapP es ks) {e : MapEntry} (he : e ∈ es.toList) : ∃ q ∈ ks, e.key = partV q ∧ e.val = .bool true := by
 have h1 : (e.key, e.val) ∈ ks.map (fun p => (partV p, Value.bool true)) := by rw [← h.1]; exact List.mem_map.2 ⟨e, he, rfl⟩
 obtain ⟨q, hq, e2⟩ := List.mem_map.1 h1; simp only [Prod.mk.injEq] at e2; exact ⟨q, hq, e2.1.symm, e2.2.symm⟩
theorem MapP.has {es : Array MapEntry} {ks : List (Int × Int × Int)} (h : MapP es ks) {q : Int × Int × Int} (hq : q ∈ ks) : ∃ e ∈ es.toList, e.key = partV q := by
 have h1 : (partV q, Value.bool true) ∈ es.toList.map (fun e => (e.key, e.val)) := by rw [h.1]; exact List.mem_map.2 ⟨q, hq, rfl⟩
 obtain ⟨e, he, e2⟩ := List.mem_map.1 h1; simp only [Prod.mk.injEq] at e2; exact ⟨e, he, e2.1⟩
theorem MapP.find {es : Array MapEntry} {ks : List (Int × Int × Int)} (h : MapP es ks) {p : Int × Int × Int} (hp : PartOk p) (w : World) :
 (p ∉ ks ∧ (Instr.findKey 92 (partV p) es.toList).run Tryz.prog w = .ok none w) ∨ (p ∈ ks ∧ ∃ j, (Instr.findKey 92 (partV p) es.toList).run Tryz.prog w = .ok (some (j, .bool true)) w) := by
 obtain ⟨l, hl⟩ := part_key p.1 p.2.1 p.2.2 hp.1 hp.2.1 hp.2.2
 rcases partLaw.find w hl es.toList (fun e he => by
  obtain ⟨q, hq, e1, -⟩ := h.mem he; obtain ⟨h1, h2, h3⟩ := h.2 q hq; rw [e1]
  exact part_key q.1 q.2.1 q.2.2 h1 h2 h3) with ⟨h1, h2⟩ | ⟨j, e, h1, h2, h3⟩
 · refine .inl ⟨fun hm => ?_, h1⟩; obtain ⟨e, he, e1⟩ := h.has hm; exact h2 e he e1
 · obtain ⟨q, hq, e1, e2⟩ := h.mem (List.mem_of_getElem? h2); have : q = p := partV_inj (e1.symm.trans h3); subst this; exact .inr ⟨hq, j, by rw [h1, e2]⟩
theorem part_check {p : Int × Int × Int} (hp : PartOk p) (w : World) (em : Bool) : (Instr.checkKey em 10000 92 (partV p)).run Tryz.prog w = .ok () w := by
 obtain ⟨l, hl⟩ := part_key p.1 p.2.1 p.2.2 hp.1 hp.2.1 hp.2.2; exact partLaw.check w em hl
theorem run_mmP (w : World) : (Instr.makeMap 90 none).run Tryz.prog w = .ok (.map (some w.heap.size)) (w.alloc (.map #[] 0)) := rfl
set_option maxRecDepth 100000 in
theorem run_lookP {r : Nat} {es : Array MapEntry} {c : Nat} {ks : List (Int × Int × Int)} (hb : w.heap[r]? = some (.map es c)) (h : MapP es ks) {p : Int × Int × Int} (hp : PartOk p) (b : Bool) (hbb : b = decide (p ∈ ks)) :
 (Instr.lookup 90 (.map (some r)) (partV p) false).run Tryz.prog w = .ok (.bool b) w := by
 subst hbb; have hz : (zeroValue 4).run Tryz.prog w = .ok (.bool false) w := rfl; have hc := fun em => part_check hp w em
 rcases h.find hp w with ⟨h1, h2⟩ | ⟨h1, j, h2⟩
 · rw [decide_eq_false h1]; simp [Instr.lookup, run_underlying Tryz.underlying90, MapKept.run_getObj_map hb, hc, h2, Result.andThen, hz]
 · rw [decide_eq_true h1]; simp [Instr.lookup, run_underlying Tryz.underlying90, MapKept.run_getObj_map hb, hc, h2, Result.andThen]
theorem run_updP {r : Nat} {es : Array MapEntry} {c : Nat} {ks : List (Int × Int × Int)} (hb : w.heap[r]? = some (.map es c)) (h : MapP es ks) {p : Int × Int × Int} (hp : PartOk p) (hn : p ∉ ks) :
 ∃ es' c', (Instr.mapUpdate 90 (.map (some r)) (partV p) (.bool true)).run Tryz.prog w = .ok () { w with heap := w.heap.setIfInBounds r (.map es' c') } ∧ MapP es' (ks ++ [p]) := by
 rcases h.find hp w with ⟨-, h2⟩ | ⟨h1, -⟩
 · refine ⟨es.push { key := partV p, val := .bool true, born := c }, c + 1, ?_, ?_, ?_⟩
   · have hc := part_check hp w false; simp [Instr.mapUpdate, run_underlying Tryz.underlying90, MapKept.run_getObj_map hb, hc, h2, MapKept.run_setObj_map _ hb, Result.andThen]
   · have := h.1; simp only [Array.toList_push, List.map_append, List.map_cons, List.map_nil] at this ⊢; rw [this]
   · intro q hq
     rcases List.mem_append.1 hq with hq | hq
     · exact h.2 q hq
     · rw [List.mem_singleton.1 hq]; exact hp
 · exact absurd h1 hn
section
attribute [local go_sem ↓] Go.wp_at_zero Go.wp_at_succ
theorem infoU8 : (Tryz.prog.info? 5).map (fun i => (i.zero, i.size, i.bytes)) = some (some (.int .u8 0), 1, 1) := by kernel_rfl
abbrev tlBox (hp : Nat) (v : Value) : Obj := .cells #[ptr hp, v] 101 (0, 0)
def Told (w0 w : World) (M : List (Nat × List C)) (K : List (Nat × Obj)) (hp bt : Nat) (b : List UInt8) : Prop :=
 ∃ v R, RowG 5 1 R v b.length (b.map vu8) ∧ Ats w0 w M ((bt, tlBox hp v) :: (R ++ K))
theorem hidE {p : Prop} (h : p) : Hid p := h
theorem rowG_val (h : RowG T sz R v n xs) : ∃ a c, v = .slice a n c := by
 rcases h with ⟨rfl, h0, -⟩ | ⟨g, cap, cur, rfl, -⟩
 · exact ⟨none, 0, by rw [h0]⟩
 · exact ⟨_, _, rfl⟩
theorem strCells_eq (s : ByteArray) : Lib.strCells s = s.toList.map vu8 := by rw [ByteArray.toList_eq]; rfl
theorem take_1000 (b s : List UInt8) (hb : b.length ≤ 1000) : b ++ s.take (1000 - b.length) = (b ++ s).take 1000 := by
 rw [List.take_append, List.take_of_length_le hb]
set_option maxRecDepth 100000 in
set_option maxHeartbeats 400000 in
theorem at_tput {hp bt : Nat} {b : List UInt8} (A : Told w0 w M K hp bt b) (hb : b.length ≤ 1000) (s : ByteArray) (hs : s.size ≤ 1000000) :
 Calls Tryz.prog 94 #[ptr bt, .string s] w fun r w' => r = .returned (.bool (decide ((b ++ s.toList).length < 1000))) ∧ Told w0 w' M K hp bt ((b ++ s.toList).take 1000) := by
 obtain ⟨v, R, hR, A⟩ := A; have hbx := A.box _ (List.mem_cons_self ..); have R0 := cells_of hbx; have l0 := blk_lt hbx; obtain ⟨i0, hi, hz0, hz1, hz2⟩ := info_parts infoU8
 obtain ⟨va, vc, rfl⟩ : ∃ va vc, v = .slice va b.length vc := by
  rcases hR with ⟨rfl, h0, -⟩ | ⟨g, cap, cur, rfl, -⟩
  · exact ⟨none, 0, by rw [h0]⟩
  · exact ⟨_, _, rfl⟩
 have hbl : (b.length : Int) ≤ 1000 := by omega
 have c0 : w.cell? ⟨bt, 0, none⟩ = some (ptr hp) := by rw [R0 0]; rfl
 have c1 : w.cell? ⟨bt, 1, none⟩ = some (.slice va b.length vc) := by rw [R0 1]; rfl
 clear R0; go_enter Tryz.func94, Tryz.ntmps94
 go_wp2_with fail
 obtain ⟨m, hm, hms⟩ : ∃ m : Nat, (if 1000 - (b.length : Int) < (s.size : Int) then 1000 - (b.length : Int) else (s.size : Int)) = (m : Int) ∧ m = min s.size (1000 - b.length) := by
  refine ⟨min s.size (1000 - b.length), ?_, rfl⟩
  split <;> omega
 have hm0 : (0 : Int) ≤ m := by omega
 have hm1 : (m : Int) ≤ s.size := by omega
 have hm2 : m ≤ s.size ∧ m ≤ 1000 - b.length := by omega
 have hsl : (s.extract 0 m).toList = s.toList.take (1000 - b.length) := by
  have e := ByteArray.toList_eq (bs := s)
  have hsz : s.toList.length = s.size := by rw [e]; rfl
  rw [ByteArray.toList_eq, e, ByteArray.data_extract]; simp only [Array.toList_extract, List.extract_eq_take_drop, List.drop_zero, Nat.sub_zero]; rw [hms]
  by_cases c : s.size ≤ 1000 - b.length
  · rw [Nat.min_eq_left c, List.take_of_length_le (by rw [← e, hsz]; exact Nat.le_refl _), List.take_of_length_le (by rw [← e, hsz]; exact c)]
  · rw [Nat.min_eq_right (by omega)]
 have hel : (s.extract 0 m).size = m := by rw [ByteArray.size_extract]; omega
 have hA := A.perm (List.perm_middle (l₁ := R) (l₂ := K) (a := (bt, tlBox hp (.slice va b.length vc)))).symm; have w1 : IntKind.i64.wrap (1000 - (b.length : Int)) = 1000 - (b.length : Int) := IntWalk.i64_in _ (by omega); have HE := hidE hel; have HS := hidE hsl
 have hlen : ((b ++ s.toList).take 1000).length = b.length + m := by
  have hsz : s.toList.length = s.size := by rw [ByteArray.toList_eq]; rfl
  rw [List.length_take, List.length_append, hsz]; omega
 have hbool : decide ((b ++ s.toList).length < 1000) = decide (b.length + m < 1000) := by
  have hsz : s.toList.length = s.size := by rw [ByteArray.toList_eq]; rfl
  rw [List.length_append, hsz]
  refine decide_eq_decide.2 ⟨fun h => ?_, fun h => ?_⟩ <;> omega
 have hmap : b.map vu8 ++ Lib.strCells (s.extract 0 m) = ((b ++ s.toList).take 1000).map vu8 := by
  rw [strCells_eq, hsl, ← take_1000 b _ hb, List.map_append]
 have HLN := hidE hlen; have HBL := hidE hbool; have HMP := hidE hmap; clear hel hsl hbx A hms hlen hbool hmap
 go_region_law (first | (refine step_append_str _ (by rfl) (.tmp 9) (.tmp 20) 99 9 (by rfl) w0.heap.size 5 i0 Tryz.underBytes Tryz.underStr hi hz0 hz1 hz2 (.slice va b.length vc) b.length (b.map vu8) (by rfl) (Ats.ownsG (hA.pure (Chg.drew (Chg.refl NoB w))) hR) (s.extract 0 m) (by rfl) (by unfold maxLen; rw [HE.out]; omega) (by rw [HE.out]; omega) (by have := hA.chg.size; exact this) ?_; intro v' w2 hown hgr hnil hat; obtain ⟨R', hR', A2⟩ := Ats.grownS (hA.pure (Chg.drew (Chg.refl NoB w))) hR hown hgr hnil hat; obtain ⟨v2a, v2c, rfl⟩ := rowG_val hR'; have R2 := cells_of (A2.box (bt, tlBox hp (.slice va b.length vc)) (List.mem_append_right _ (List.mem_cons_self ..))); have Z2 := free_of (A2.box (bt, tlBox hp (.slice va b.length vc)) (List.mem_append_right _ (List.mem_cons_self ..))); have l2 := blk_lt (A2.box (bt, tlBox hp (.slice va b.length vc)) (List.mem_append_right _ (List.mem_cons_self ..)))) | fail)
 all_goals
  rw [HE.out, HMP.out] at hR'; have A3 := (A2.perm List.perm_middle).put 1 (.slice v2a (b.length + m) v2c); simp only [List.setIfInBounds_toArray, List.set_cons_zero, List.set_cons_succ] at A3; have HA3 := hidE A3; have HR3 := hidE hR'; clear R2 Z2 l2 A2 hown hgr hnil hat hR' hR hA c0 c1 w1; generalize w2.setCell ⟨bt, 1, none⟩ (.slice v2a (b.length + m) v2c) = w3 at *; have R3 := cells_of (A3.box _ (List.mem_cons_self ..)); have l3 := blk_lt (A3.box _ (List.mem_cons_self ..)); simp only at R3 l3; clear A3; go_wp2_with fail
  go_ret; refine ⟨?_, .slice v2a (b.length + m) v2c, R', ?_, HA3.out⟩
  · rw [HBL.out]; exact congrArg (fun z => Ending.returned (.bool z)) (decide_eq_decide.2 (by omega))
  · rw [HLN.out]; exact HR3.out
end
def RowIn (J : List (Nat × Obj)) (T : TypeId) (sz : Nat) (v : Value) (n : Nat) (xs : List Value) : Prop :=
 (v = .slice none 0 0 ∧ n = 0 ∧ xs = []) ∨
 ∃ g cap cur fz, v = .slice (some ⟨g, 0, none⟩) n cap ∧ (g, Obj.cells cur T fz) ∈ J ∧ n ≤ cap ∧ cap ≤ maxLen ∧ cur.size = cap * sz ∧ cur.toList.take (n * sz) = xs ∧ xs.length = n * sz
theorem RowIn.mono {J' : List (Nat × Obj)} (h : RowIn J T sz v n xs) (hJ : ∀ q ∈ J, q ∈ J') : RowIn J' T sz v n xs := by
 rcases h with h | ⟨g, cap, cur, fz, h1, h2, h3⟩
 · exact .inl h
 · exact .inr ⟨g, cap, cur, fz, h1, hJ _ h2, h3⟩
theorem RowIn.slice (h : RowIn J T sz v n xs) : ∃ a c, v = .slice a n c ∧ n ≤ c := by
 rcases h with ⟨rfl, rfl, -⟩ | ⟨g, cap, cur, fz, rfl, -, h1, -⟩
 · exact ⟨none, 0, rfl, Nat.le_refl _⟩
 · exact ⟨_, _, rfl, h1⟩
def CellIn (J : List (Nat × Obj)) (c : C) (vs : List Value) : Prop :=
 ∃ vi vb, vs = [.int .i64 c.kind, vi, vb, .bool c.locked] ∧ RowIn J 39 6 vi c.items.length (c.items.flatMap O.cells) ∧ RowIn J 5 1 vb c.bytes.length (c.bytes.map vu8) ∧ (c.text = true → c.items = []) ∧ (c.text = false → c.bytes = [])
theorem CellIn.mono {J' : List (Nat × Obj)} (h : CellIn J c vs) (hJ : ∀ q ∈ J, q ∈ J') : CellIn J' c vs := by
 obtain ⟨vi, vb, h1, h2, h3, h4⟩ := h; exact ⟨vi, vb, h1, h2.mono hJ, h3.mono hJ, h4⟩
theorem CellIn.size (h : CellIn J c vs) : c.items.length + c.bytes.length = c.size := by
 obtain ⟨vi, vb, h1, h2, h3, h4, h5⟩ := h; unfold C.size
 cases hc : c.text
 · rw [h5 hc]; simp
 · rw [h4 hc]; simp
theorem CellIn.len (h : CellIn J c vs) : vs.length = 4 := by
 obtain ⟨vi, vb, rfl, -⟩ := h; rfl
abbrev refBox (lv : Value) : Obj := .cells #[lv] 29
def joinV (rows : List (List Value)) : List Value := rows.flatMap id
def RefK (J0 : List (Nat × Obj)) (gp : Nat) (L : List C) (E : List (Nat × Obj)) : Prop :=
 ∃ J R lv rows, (∀ q ∈ J0, q ∈ J) ∧ E = J ++ (R ++ [(gp, refBox lv)]) ∧ RowG 108 4 R lv L.length (joinV rows) ∧ rows.length = L.length ∧ (∀ (i : Nat) (c : C) (vs : List Value), L[i]? = some c → rows[i]? = some vs → CellIn J c vs) ∧ L.length ≤ 2000 ∧ used L ≤ 40000 ∧ (L = [] → lv = .slice none 0 0)
abbrev RefB (gp : Nat) (L : List C) (E : List (Nat × Obj)) : Prop := RefK [] gp L E
theorem RefK.new (gp : Nat) : RefB gp [] [(gp, refBox (.slice none 0 0))] :=
 ⟨[], [], .slice none 0 0, [], fun _ h => h, rfl, .inl ⟨rfl, rfl, rfl, rfl⟩, rfl, fun i c vs h => by simp at h, by simp, by simp [used], fun _ => rfl⟩
theorem joinV_get : ∀ (rows : List (List Value)) (i j : Nat) (vs : List Value), (∀ r ∈ rows, r.length = 4) → rows[i]? = some vs → j < 4 → (joinV rows)[i * 4 + j]? = vs[j]?
 | [], i, j, vs, _, h, _ => by simp at h
 | r :: rows, 0, j, vs, hl, h, hj => by
  simp only [List.getElem?_cons_zero, Option.some.injEq] at h; subst h; have := hl r (List.mem_cons_self ..); rw [Nat.zero_mul, Nat.zero_add]; unfold joinV; rw [List.flatMap_cons, List.getElem?_append_left (by simp only [id]; omega)]; rfl
 | r :: rows, i + 1, j, vs, hl, h, hj => by
  have h4 := hl r (List.mem_cons_self ..); have := joinV_get rows i j vs (fun x hx => hl x (List.mem_cons_of_mem _ hx)) (by simpa using h) hj; unfold joinV at this ⊢; rw [List.flatMap_cons, List.getElem?_append_right (by simp only [id]; omega), ← this]
  congr 1
  simp only [id]; omega
theorem used_take (L : List C) (i : Nat) (c : C) (h : L[i]? = some c) : used (L.take (i + 1)) = used (L.take i) + c.size := by
 unfold used; rw [List.take_add_one, h]; simp
theorem used_le (L : List C) (i : Nat) : used (L.take i) ≤ used L := by
 unfold used
 conv => rhs; rw [← List.take_append_drop i L]
 rw [List.map_append, List.sum_append]; omega
set_option maxRecDepth 100000 in
theorem rsize_any (k : Int) (a b : Option Addr) (n c m d : Nat) (lk : Bool) (hn : n ≤ 100000) (hm : m ≤ 100000) (w : World) :
 Calls Tryz.prog 54 #[.agg #[.int .i64 k, .slice a n c, .slice b m d, .bool lk]] w fun e w' => e = .returned (.int .i64 ((n + m : Nat) : Int)) ∧ Chg NoB w w' := by
 have h1 : (n : Int) ≤ 100000 := by omega
 have h2 : (m : Int) ≤ 100000 := by omega
 go_enter Tryz.func54, Tryz.ntmps54
 go_wp2_with fail
 go_ret; exact ⟨by simp, (Chg.refl NoB w).alloc _⟩
theorem RefK.parts (h : RefK J0 gp L E) : ∃ lv, (gp, refBox lv) ∈ E ∧ ((L = [] ∧ lv = .slice none 0 0) ∨ ∃ g cap cur, lv = .slice (some ⟨g, 0, none⟩) L.length cap ∧ L.length ≤ cap ∧ (g, Obj.cells cur 108) ∈ E ∧ 0 < L.length ∧
 ∀ (i : Nat) (c : C), L[i]? = some c → ∃ vs, CellIn E c vs ∧ ∀ j, j < 4 → cur[i * 4 + j]? = vs[j]?) := by
 obtain ⟨J, R, lv, rows, hJ0, rfl, hr, hl, hc, h1, h2, h3⟩ := h; refine ⟨lv, by simp, ?_⟩
 by_cases hL : L = []
 · exact .inl ⟨hL, h3 hL⟩
 · have hpos : 0 < L.length := List.length_pos_iff.2 hL; obtain ⟨g, cap, cur, rfl, rfl, hcur⟩ := hr.shape hpos
   have hcap : L.length ≤ cap := by
    rcases hr with ⟨h, -⟩ | ⟨_, _, _, h, -, h2, -⟩
    · simp at h
    · simp only [Value.slice.injEq] at h; omega
   refine .inr ⟨g, cap, cur, rfl, hcap, by simp, hpos, fun i c hi => ?_⟩; have hi' := (List.getElem?_eq_some_iff.1 hi).1
   obtain ⟨vs, hvs⟩ : ∃ vs, rows[i]? = some vs := ⟨rows[i]'(by omega), List.getElem?_eq_getElem _⟩
   have hcell := hc i c vs hi hvs; refine ⟨vs, hcell.mono (fun q hq => by simp [hq]), fun j hj => ?_⟩; rw [hcur _ (by omega)]; refine joinV_get rows i j vs (fun r hr => ?_) hvs hj; obtain ⟨k, hk, rfl⟩ := List.getElem_of_mem hr; exact (hc k (L[k]'(by omega)) rows[k] (List.getElem?_eq_getElem _) (List.getElem?_eq_getElem _)).len
theorem RefK.bounds (h : RefK J0 gp L E) : L.length ≤ 2000 ∧ used L ≤ 40000 := by
 obtain ⟨J, R, lv, rows, hJ0, rfl, hr, hl, hc, h1, h2, h3⟩ := h; exact ⟨h1, h2⟩
set_option maxRecDepth 100000 in
set_option maxHeartbeats 1000000 in
theorem rused_any (H : RefK J0 gp L E) (A : Ats w0 w M K) (hE : ∀ q ∈ E, q ∈ K) :
 Calls Tryz.prog 21 #[ptr gp] w fun e w' => e = .returned (.int .i64 (used L)) ∧ Ats w0 w' M K := by
 obtain ⟨h1, h2⟩ := H.bounds; obtain ⟨lv, hb, hrow⟩ := H.parts; have hbK := hE _ hb; have HA := hid' A; have HB := hid' hbK
 rcases hrow with ⟨rfl, rfl⟩ | ⟨g, cap, cur, rfl, hcap, hg, hpos, hcell⟩
 · clear A hb; go_enter Tryz.func21, Tryz.ntmps21
   go_wp2_with fail
   go_loopw [3, 4] (fun nv iv wr => nv = .int .i64 0 ∧ iv = .int .i64 0 ∧ Ats w0 wr M K) (fun _ _ _ => 0)
   case atStart => exact ⟨rfl, rfl, HA.out⟩
   case round =>
    obtain ⟨rfl, rfl, A1⟩ := hrel
    (try clear Rs); (try clear ys); (try clear Zs)
    have Rs := cells_of (A1.box _ HB.out); have ys := blk_lt (A1.box _ HB.out)
    (try simp only at Rs ys)
    go_wp2_with fail
    go_ret; exact ⟨rfl, A1⟩
 · have hgK := hE _ hg; have HC := hid' hcell; have HG := hid' hgK
   obtain ⟨n, hn⟩ : ∃ n, L.length = n := ⟨_, rfl⟩
   rw [hn] at hbK HB hcap hpos h1 hb
   have hni : (n : Int) ≤ 2000 := by omega
   have hnc : (n : Int) ≤ cap := by omega
   have HN := hid' hn; clear A hcell hgK hbK hn hb hg; go_enter Tryz.func21, Tryz.ntmps21
   go_wp2_with fail
   go_loopw [3, 4] (fun nv iv wr => ∃ i : Nat, i ≤ n ∧ nv = .int .i64 (used (L.take i)) ∧ iv = .int .i64 i ∧ Ats w0 wr M K) (fun _ iv _ => n - (intOf iv).toNat)
   case atStart => exact ⟨0, Nat.zero_le _, by simp [used], rfl, HA.out⟩
   case round =>
    obtain ⟨i, hi, rfl, rfl, A1⟩ := hrel
    (try clear Rs); (try clear ys); (try clear Zs)
    have Rs := cells_of (A1.box _ HB.out); have ys := blk_lt (A1.box _ HB.out)
    (try clear Rg); (try clear yg); (try clear Zg)
    have Rg := cells_of (A1.box _ HG.out); have yg := blk_lt (A1.box _ HG.out)
    (try simp only at Rs ys Rg yg)
    by_cases hlt : i < n
    · obtain ⟨c, hc⟩ : ∃ c, L[i]? = some c := ⟨L[i]'(by rw [HN.out]; exact hlt), List.getElem?_eq_getElem _⟩
      obtain ⟨vs, ⟨vi, vb, rfl, hi6, hb1, ht1, ht2⟩, hv⟩ := HC.out i c hc; have hsz : c.items.length + c.bytes.length = c.size := CellIn.size ⟨vi, vb, rfl, hi6, hb1, ht1, ht2⟩; have HT := hid' (used_take L i c hc); have hle := used_le L (i + 1); rw [HT.out] at hle; obtain ⟨a, ca, rfl, -⟩ := hi6.slice; obtain ⟨b, cb, rfl, -⟩ := hb1.slice; have HS := hid' (fun w' => rsize_any c.kind a b c.items.length ca c.bytes.length cb c.locked (by omega) (by omega) w'); rw [hsz] at HS; have v0 := hv 0 (by omega); have v1 := hv 1 (by omega); have v2 := hv 2 (by omega); have v3 := hv 3 (by omega); simp only [List.getElem?_cons_zero, List.getElem?_cons_succ, Nat.add_zero] at v0 v1 v2 v3
      have u1 : (used (L.take i) : Int) ≤ 40000 := by omega
      have u2 : (c.size : Int) ≤ 40000 := by omega
      have u3 : (0 : Int) ≤ used (L.take i) := by omega
      have u4 : (0 : Int) ≤ c.size := by omega
      have hlt' : (i : Int) < n := by omega
      clear hv hle hsz hc hi6 hb1 ht1 ht2
      obtain ⟨U, hU⟩ : ∃ U : Int, (used (L.take i) : Int) = U := ⟨_, rfl⟩
      obtain ⟨Z, hZ⟩ : ∃ Z : Int, (c.size : Int) = Z := ⟨_, rfl⟩
      have HU := hid' hU; have HZ := hid' hZ; rw [hU] at u1 u3 ⊢; rw [hZ] at u2 u4 HS; clear hU hZ; generalize c.items.length = ni at *; generalize c.bytes.length = nb at *; generalize c.kind = ck at *; generalize c.locked = clk at *; go_wp2_with fail
      refine (HS.out _).mono ?_; rintro r w2 ⟨rfl, X2⟩; have A2 := A1.pure X2; clear A1 X2; go_wp2_with fail
      go_roundw
      case rel => exact ⟨i + 1, by omega, by rw [HT.out]; push_cast; rw [HU.out, HZ.out], by go_num, A2⟩
      case measure => simp [intOf]; omega
    · obtain rfl : i = n := by omega
      rw [List.take_of_length_le (by rw [HN.out]; exact Nat.le_refl _)]; go_wp2_with fail
      go_ret; exact ⟨rfl, A1⟩
theorem Tryz.infoRcell : (Tryz.prog.info? 108).map (fun i => (i.zero, i.size, i.bytes)) = some (some (.agg #[.int .i64 0, .slice none 0 0, .slice none 0 0, .bool false]), 4, 64) := by kernel_rfl
theorem Tryz.underRcells : Tryz.prog.underlying 27 = some (.slice 108) := by kernel_rfl
def AnyA (w0 : World) (M : List (Nat × List C)) (KL : List (Nat × Obj)) (W : World) : Prop := Ats w0 W M KL
theorem AnyA.drew (h : AnyA w0 M KL W) : AnyA w0 M KL W.drew := Ats.drew h
theorem AnyA.pure {W' : World} (h : AnyA w0 M KL W) (X : Chg NoB W W') : AnyA w0 M KL W' := Ats.pure h X
theorem AnyA.cells {cs : Array Value} (hm : (g, Obj.cells cs T fz) ∈ KL) : ∀ W, AnyA w0 M KL W → ∀ i, W.cell? ⟨g, i, none⟩ = cs[i]? :=
 fun _W h => cells_of (Ats.box h _ hm)
theorem step_app {ops : Array Oper} {o : Oper} {a : Act} {Q : Act → World → Prop} {Q' : Exit → Act → World → Prop} {E : Prop} (hgd : o.guard = none) (s x : Operand) (t : TypeId)
 (ho : o.op = .call { callee := .builtin .append, args := #[s, x], argTypes := #[t, t] })
 (T : TypeId) (i : TypeInfo) (z : Value) (size bytes : Nat) (ht : Tryz.prog.underlying t = some (.slice T)) (hi : Tryz.prog.info? T = some i) (hz : i.zero = some z)
 (hsize : i.size = size) (hby : i.bytes = bytes) (hzs : z.cells.size = size) (hsz : 0 < size)
 {w0 : World} {M : List (Nat × List C)} (R K : List (Nat × Obj)) (v : Value) (n : Nat) (xs : List Value) (A : Ats w0 w M (R ++ K)) (hR : RowG T size R v n xs) (hs : a.eval s = v)
 (ad : Addr) (m c : Nat) (news : List Value) (hx : a.eval x = .slice (some ad) m c) (hl : news.length = m * size) (hnews : ∀ j u, news[j]? = some u → w.cell? (ad.add j) = some u) (h1 : ∀ u ∈ news, u.oneCell' = true)
 (hm : 0 < m) (h63 : n + m ≤ maxLen) (hbytes : (n + m) * bytes ≤ 140737488355328)
 (h : ∀ g cap w' R', RowG T size R' (.slice (some ⟨g, 0, none⟩) (n + m) cap) (n + m) (xs ++ news) → Ats w0 w' M (R' ++ K) → Q (a.put o.dst (.slice (some ⟨g, 0, none⟩) (n + m) cap)) w') :
 if Region.wanted o (yielded ops a.tmps) = true then Oper.wp Tryz.prog o a w Q Q' else E := by
 refine step_append_lies w hgd s x t ho w0.heap.size T i z size bytes ht hi hz hsize hby hzs hsz v n xs hs (Ats.ownsG A hR) ad m c news hx hl hnews h1 hm h63 hbytes A.chg.size _ rfl ?_; intro g cap w' hown hgr hg hgl
 obtain ⟨R', hR', A'⟩ := Ats.grownG A hR hown hgr (by
  rcases hg with e | e
  · exact .inl (by rw [e]; simp [Value.ownBlock])
  · exact .inr (by simp [Value.ownBlock, e])) hm
 exact h g cap w' R' hR' A'
theorem step_app0 {ops : Array Oper} {o : Oper} {a : Act} {Q : Act → World → Prop} {Q' : Exit → Act → World → Prop} {E : Prop} (hgd : o.guard = none) (s x : Operand) (t : TypeId)
 (ho : o.op = .call { callee := .builtin .append, args := #[s, x], argTypes := #[t, t] })
 (T : TypeId) (i : TypeInfo) (z : Value) (size bytes : Nat) (ht : Tryz.prog.underlying t = some (.slice T)) (hi : Tryz.prog.info? T = some i) (hz : i.zero = some z)
 (hsize : i.size = size) (hby : i.bytes = bytes) (hzs : z.cells.size = size) (hsz : 0 < size)
 {w0 : World} {M : List (Nat × List C)} (K : List (Nat × Obj)) (A : Ats w0 w M K) (hs : a.eval s = .slice none 0 0)
 (ad : Addr) (m c : Nat) (news : List Value) (hx : a.eval x = .slice (some ad) m c) (hl : news.length = m * size) (hnews : ∀ j u, news[j]? = some u → w.cell? (ad.add j) = some u) (h1 : ∀ u ∈ news, u.oneCell' = true)
 (hm : 0 < m) (h63 : m ≤ maxLen) (hbytes : m * bytes ≤ 140737488355328)
 (h : ∀ g cap w' R', RowG T size R' (.slice (some ⟨g, 0, none⟩) m cap) m news → Ats w0 w' M (R' ++ K) → Q (a.put o.dst (.slice (some ⟨g, 0, none⟩) m cap)) w') :
 if Region.wanted o (yielded ops a.tmps) = true then Oper.wp Tryz.prog o a w Q Q' else E := by
 refine step_app hgd s x t ho T i z size bytes ht hi hz hsize hby hzs hsz [] K (.slice none 0 0) 0 [] A (.inl ⟨rfl, rfl, rfl, rfl⟩) hs ad m c news hx hl hnews h1 hm (by omega) (by rw [Nat.zero_add]; exact hbytes) ?_; intro g cap w' R'; rw [Nat.zero_add, List.nil_append]; exact h g cap w' R'
theorem news_take {cur : Array Value} (hb : w.heap[g]? = some (.cells cur T fz)) (n : Nat) (xs : List Value) (hx : cur.toList.take n = xs) : ∀ j u, xs[j]? = some u → w.cell? ((⟨g, 0, none⟩ : Addr).add j) = some u := by
 intro j u hj; refine World.news_of_block hb j u ?_; rw [← hx, List.getElem?_take] at hj; split at hj
 · exact hj
 · simp at hj
theorem news_box {cs : List Value} (A : Ats w0 w M K) (hm : (g, Obj.cells cs.toArray T fz) ∈ K) : ∀ j u, cs[j]? = some u → w.cell? ((⟨g, 0, none⟩ : Addr).add j) = some u :=
 news_take (A.box _ hm) cs.length cs (by simp)
theorem CellIn.one (h : CellIn J c vs) : ∀ u ∈ vs, u.oneCell' = true := by
 obtain ⟨vi, vb, rfl, h1, h2, -⟩ := h; obtain ⟨a, ca, rfl, -⟩ := h1.slice; obtain ⟨b, cb, rfl, -⟩ := h2.slice; intro u hu; simp only [List.mem_cons, List.not_mem_nil, or_false] at hu
 rcases hu with rfl | rfl | rfl | rfl <;> rfl
theorem RowIn.less (h : RowIn (J ++ [(gp, refBox lv)]) T sz v n xs) (hT : T ≠ 29) : RowIn J T sz v n xs := by
 rcases h with h | ⟨g, cap, cur, fz, h1, h2, h3⟩
 · exact .inl h
 · refine .inr ⟨g, cap, cur, fz, h1, ?_, h3⟩
   rcases List.mem_append.1 h2 with h | h
   · exact h
   · have := List.mem_singleton.1 h; simp only [Prod.mk.injEq, Obj.cells.injEq] at this; exact absurd this.2.2.1 hT
theorem CellIn.less (h : CellIn (J ++ (R ++ [(gp, refBox lv)])) c vs) : CellIn (J ++ R) c vs := by
 rw [← List.append_assoc] at h; obtain ⟨vi, vb, h1, h2, h3, h4⟩ := h; exact ⟨vi, vb, h1, h2.less (by decide), h3.less (by decide), h4⟩
theorem joinV_len : ∀ (rows : List (List Value)), (∀ r ∈ rows, r.length = 4) → (joinV rows).length = rows.length * 4
 | [], _ => rfl
 | r :: rows, h => by
  have := joinV_len rows (fun x hx => h x (List.mem_cons_of_mem _ hx)); have h4 := h r (List.mem_cons_self ..); unfold joinV at this ⊢; rw [List.flatMap_cons, List.length_append, this, List.length_cons]; simp only [id]; omega
theorem RefK.grow {R2 : List (Nat × Obj)} {rows : List (List Value)}
 (A : Ats w0 w M (R2 ++ ((J ++ (R ++ [(gp, refBox lv)])) ++ K))) (hR : RowG 108 4 R2 v (L.length + 1) (joinV rows ++ vs)) (hl : rows.length = L.length) (hc : ∀ (i : Nat) (c : C) (vs : List Value), L[i]? = some c → rows[i]? = some vs → CellIn J c vs)
 (hx : CellIn (J ++ R) c vs) (h1 : L.length < 2000) (h2 : used L + c.size ≤ 40000) (hJ0 : ∀ q ∈ J0, q ∈ J) :
 ∃ E', RefK J0 gp (L ++ [c]) E' ∧ Ats w0 (w.setCell ⟨gp, 0, none⟩ v) M (E' ++ K) := by
 have A1 := (A.perm (K' := (gp, refBox lv) :: ((J ++ R) ++ R2 ++ K)) ?_).put 0 v
 · refine ⟨(J ++ R) ++ (R2 ++ [(gp, refBox v)]), ⟨J ++ R, R2, v, rows ++ [vs], fun q hq => List.mem_append_left _ (hJ0 q hq), rfl, ?_, by simp [hl], ?_, by simp; omega, ?_, fun h => by simp at h⟩, A1.perm ?_⟩
   · rw [List.length_append, List.length_singleton]; unfold joinV at hR ⊢; rw [List.flatMap_append, List.flatMap_singleton]; exact hR
   · intro i d us hi hu
     rcases Nat.lt_or_ge i L.length with h | h
     · rw [List.getElem?_append_left h] at hi; rw [List.getElem?_append_left (by omega)] at hu; exact (hc i d us hi hu).mono fun q hq => List.mem_append_left _ hq
     · rw [List.getElem?_append_right h] at hi; rw [List.getElem?_append_right (by omega), hl] at hu
       have hi0 : i - L.length = 0 := by
        rcases Nat.eq_zero_or_pos (i - L.length) with e | e
        · exact e
        · rw [List.getElem?_eq_none (by simp; omega)] at hi; simp at hi
       rw [hi0] at hi hu; simp only [List.getElem?_cons_zero, Option.some.injEq] at hi hu; subst hi; subst hu; exact hx
   · unfold used at h2 ⊢; rw [List.map_append, List.sum_append]
     simpa using h2
   · change List.Perm ((gp, refBox v) :: ((J ++ R) ++ R2 ++ K)) _
     classical refine List.perm_iff_count.2 fun q => ?_
     simp only [List.count_append, List.count_cons, List.count_nil]; omega
 · classical refine List.perm_iff_count.2 fun q => ?_
   simp only [List.count_append, List.count_cons, List.count_nil]; omega
theorem RefK.more (h : RefK J0 gp L E) (q : Nat × Obj) : RefK J0 gp L (q :: E) := by
 obtain ⟨J, R, lv, rows, hJ0, rfl, h1, h2, h3, h4⟩ := h; exact ⟨q :: J, R, lv, rows, fun x hx => List.mem_cons_of_mem _ (hJ0 x hx), rfl, h1, h2, fun i c vs hi hv => (h3 i c vs hi hv).mono fun q hq => List.mem_cons_of_mem _ hq, h4⟩
theorem rused_anyA (H : RefK J0 gp L E) (hE : ∀ q ∈ E, q ∈ K) (U : Int) (hU : (used L : Int) = U) (A : AnyA w0 M K w) :
 Calls Tryz.prog 21 #[ptr gp] w fun e w' => e = .returned (.int .i64 U) ∧ AnyA w0 M K w' := by
 rw [← hU]; exact rused_any H A hE
theorem Ats.two (A : Ats w0 w M K) (o1 o2 : Obj) : ∃ KL, AnyA w0 M KL ((w.alloc o1).alloc o2) ∧ (w.heap.size, o1) ∈ KL ∧ (w.heap.size + 1, o2) ∈ KL ∧ (∀ q ∈ K, q ∈ KL) ∧ K.Sublist KL ∧ KL = (w.heap.size + 1, o2) :: (w.heap.size, o1) :: K := by
 have h := (A.alloc o1).alloc o2; rw [World.size_alloc] at h; exact ⟨_, h, by simp, by simp, fun q hq => by simp [hq], (List.sublist_cons_self _ _).trans (List.sublist_cons_self _ _), rfl⟩
theorem Ats.outR {K2 : List (Nat × Obj)} {x r c : Nat × Obj} (A : Ats w0 w M (x :: (E ++ K2))) (hK : K2 = r :: c :: K) : Ats w0 w M (r :: (E ++ K)) := by
 subst hK; have h1 : (E ++ r :: c :: K).Perm (r :: c :: (E ++ K)) := List.perm_middle.trans (List.perm_middle.cons _); exact (A.perm (h1.cons x)).keep ((List.Sublist.cons_cons r (List.sublist_cons_self c _)).trans (List.sublist_cons_self x _))
theorem Ats.twoE (A : Ats w0 w M (E ++ K)) (o1 o2 : Obj) : ∃ KL, AnyA w0 M (E ++ KL) ((w.alloc o1).alloc o2) ∧ (w.heap.size, o1) ∈ KL ∧ (w.heap.size + 1, o2) ∈ KL ∧ KL = (w.heap.size + 1, o2) :: (w.heap.size, o1) :: K := by
 obtain ⟨KL, h, h1, h2, h3, h4, rfl⟩ := A.two o1 o2; refine ⟨_, Ats.perm h ?_, ?_, ?_, rfl⟩
 · exact ((List.perm_middle.symm.cons _).trans List.perm_middle.symm)
 · simp
 · simp
theorem news_new {cs : List Value} (hb : W.heap[g]? = some (.cells cs.toArray T fz)) : ∀ j u, cs[j]? = some u → W.cell? ((⟨g, 0, none⟩ : Addr).add j) = some u := news_take hb cs.length cs (by simp)
set_option maxRecDepth 100000 in
set_option maxHeartbeats 2000000 in
theorem rmake_err {ck : Int} {vi vb : Value} {clk : Bool} (H : RefK J0 gp L E) (A : Ats w0 w M (E ++ K)) (hc : CellIn E c [.int .i64 ck, vi, vb, .bool clk]) (hb : c.size ≤ 100000) (he : addE L c ≠ 0) :
 Calls Tryz.prog 66 #[ptr gp, .agg #[.int .i64 ck, vi, vb, .bool clk]] w fun e w' => e = .returned (.tuple #[O.nil.val, .int .i64 5]) ∧ Ats w0 w' M (E ++ K) := by
 obtain ⟨h1, h2⟩ := H.bounds; obtain ⟨lv, hmem, hrow⟩ := H.parts; have hsz := hc.size; obtain ⟨vi', vb', hvs, hi6, hb1, -⟩ := hc; simp only [List.cons.injEq, Value.int.injEq, Value.bool.injEq, true_and, and_true] at hvs; obtain ⟨-, rfl, rfl, -⟩ := hvs; obtain ⟨a, ca, rfl, -⟩ := hi6.slice; obtain ⟨b, cb, rfl, -⟩ := hb1.slice
 obtain ⟨cap, al, rfl, hcap⟩ : ∃ cap al, lv = .slice al L.length cap ∧ L.length ≤ cap := by
  rcases hrow with ⟨rfl, rfl⟩ | ⟨g, cap, cur, rfl, h, -⟩
  · exact ⟨0, none, rfl, Nat.le_refl _⟩
  · exact ⟨_, _, rfl, h⟩
 have HS := fun w' => rsize_any ck a b c.items.length ca c.bytes.length cb clk (by omega) (by omega) w'; rw [hsz] at HS; obtain ⟨KL, A1, mC, mR, hKL, hsub, hKe⟩ := A.two (.cells #[.int .i64 ck, .slice a c.items.length ca, .slice b c.bytes.length cb, .bool clk] 108) (Obj.cells #[.int .i64 0, .bool false, .int .i64 0, .int .i64 0, .int .i64 0, .string ⟨#[]⟩] 39)
 have hbnd : (40000 < (used L : Int) + (c.size : Int) ∧ (L.length : Int) < 2000) ∨ (2000 : Int) ≤ L.length := by
  unfold addE at he
  by_cases c1 : 2000 ≤ L.length
  · right; omega
  · left
    by_cases c2 : 40000 - used L < c.size
    · omega
    · exact absurd (if_neg (by omega)) he
 have u1 : (used L : Int) ≤ 40000 := by omega
 have u2 : (c.size : Int) ≤ 100000 := by omega
 have u3 : (0 : Int) ≤ used L := by omega
 have u4 : (0 : Int) ≤ c.size := by omega
 obtain ⟨U, hU⟩ : ∃ U : Int, (used L : Int) = U := ⟨_, rfl⟩
 obtain ⟨Z, hZ⟩ : ∃ Z : Int, (c.size : Int) = Z := ⟨_, rfl⟩
 have HU := fun W (h : AnyA w0 M KL W) => rused_anyA H (fun q hq => hKL q (List.mem_append_left K hq)) U hU h; rw [hU] at u1 u3 hbnd; rw [hZ] at u2 u4 hbnd HS; clear hU hZ hsz hi6 hb1 he A h2 hb hrow H; generalize c.items.length = ni at *; generalize c.bytes.length = nb at *; generalize L.length = n at *; have HUH := hid' HU; have HKe := hid' hKe; clear hKe; have HSH := hid' HS; have Rg := AnyA.cells (w0 := w0) (M := M) (hKL _ (List.mem_append_left K hmem)); have Rc := AnyA.cells (w0 := w0) (M := M) mC; have hS1 := A1; have wr := IntWalk.i64_in (U + Z) (by omega); clear HU HS hmem hKL mC; go_enter Tryz.func66, Tryz.ntmps66
 go_wp2_with fail
 generalize hW : (w.alloc _).alloc _ = w1 at *; clear hW
 rcases hbnd with ⟨hb1, hb2⟩ | hb1
 · have hd1 : decide ((2000 : Int) ≤ (n : Int)) = false := by simp; omega
   have hd2 : decide ((40000 : Int) < U + Z) = true := by simp; omega
   go_region_held3 (fun W' => AnyA w0 M KL W') (first | (with_reducible assumption) | (with_reducible exact AnyA.pure (by with_reducible assumption) (by with_reducible assumption)) | (with_reducible exact AnyA.drew (by with_reducible assumption)))
    (first | (go_at_call 21; refine (HUH.out _ (by first | (with_reducible exact A1) | (with_reducible exact A1.drew) | (with_reducible assumption) | (with_reducible exact AnyA.drew (by with_reducible assumption)))).mono ?_; rintro r w4 ⟨rfl, S4⟩) | (go_at_call 54; refine (HSH.out _).mono ?_; rintro r w5 ⟨rfl, X5⟩))
   have A6 : Ats w0 w5 M KL := Ats.pure S4 X5; clear Rg Rc A1 hS1 S4 X5; generalize w5 = w6 at *; have R6 := cells_of (A6.box _ mR); have y6 := blk_lt (A6.box _ mR); have Z6 := free_of (A6.box _ mR); have A7 := (HKe.out ▸ A6 : Ats w0 w6 M ((w.heap.size + 1, Obj.cells #[.int .i64 0, .bool false, .int .i64 0, .int .i64 0, .int .i64 0, .string ⟨#[]⟩] 39) :: _)).putO 0 false 0 0 0 ⟨#[]⟩; go_wp2_with fail
   have R7 := cells_of (A7.box _ m0); refine bodyPost_ret (v := .tuple #[O.nil.val, .int .i64 5]) ?_ rfl ⟨rfl, A7.keep ((List.sublist_cons_self _ _).trans (List.sublist_cons_self _ _))⟩; simp [results, Tryz.results66, go_sem, R7, O.nil]
 · have hd1 : decide ((2000 : Int) ≤ (n : Int)) = true := by simp; omega
   have Rg1 := Rg w1 A1; have Rc1 := Rc w1 A1; clear Rg Rc
   go_quiet (fail)
   have A6 : Ats w0 (w1.drewN nq) M KL := Ats.pure A1 ((Chg.refl NoB w1).drewN nq); clear Rg1 Rc1 A1 hS1; generalize w1.drewN nq = w6 at *; have R6 := cells_of (A6.box _ mR); have y6 := blk_lt (A6.box _ mR); have Z6 := free_of (A6.box _ mR); have A7 := (HKe.out ▸ A6 : Ats w0 w6 M ((w.heap.size + 1, Obj.cells #[.int .i64 0, .bool false, .int .i64 0, .int .i64 0, .int .i64 0, .string ⟨#[]⟩] 39) :: _)).putO 0 false 0 0 0 ⟨#[]⟩; go_wp2_with fail
   have R7 := cells_of (A7.box _ m0); refine bodyPost_ret (v := .tuple #[O.nil.val, .int .i64 5]) ?_ rfl ⟨rfl, A7.keep ((List.sublist_cons_self _ _).trans (List.sublist_cons_self _ _))⟩; simp [results, Tryz.results66, go_sem, R7, O.nil]
end Go.Proofs.YtoogmimbmgdflaaGreat
