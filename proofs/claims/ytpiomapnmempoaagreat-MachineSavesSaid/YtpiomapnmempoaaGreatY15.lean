/- Parts of the proof: Uta, Vma, Vmb, Vmc, Vmd, Ums, Umg. -/
import Derived.Test.YtpiomapnmempoaaGreatY13
import Derived.Test.YtpiomapnmempoaaGreatY14
namespace Go.Proofs.YtpiomapnmempoaaGreat
open Go.RowKit
variable {b cp f g hp n sp sz : Nat} {cs cur : Array Value} {T T' : TypeId} {fz : Nat × Nat} {b0 b1 b2 b3 b4 b5 c4 c5 r v : Value} {ds ds' l : List O} {M : List (Nat × List C)} {K KB R : List (Nat × Obj)} {xs : List Value} {w w0 : World} {a : O}
section
def TabAt (w0 w : World) (M : List (Nat × List C)) (K : List (Nat × Obj)) (cp hp sp : Nat) (ds l : List O) : Prop :=
 ∃ g cap cur, ds.length ≤ cap ∧ cap ≤ maxLen ∧ cur.size = cap * 6 ∧ cur.toList.take (ds.length * 6) = ds.flatMap O.cells ∧ StkAt w0 w M ((g, .cells cur 49) :: (cp, scpBox hp g ds.length cap) :: K) sp l
section
variable {w0 w w' : World} {M M' : List (Nat × List C)} {K K' : List (Nat × Obj)} {cp hp sp : Nat} {ds ds' l l' : List O}
theorem TabAt.pure (S : TabAt w0 w M K cp hp sp ds l) (X : Chg NoB w w') : TabAt w0 w' M K cp hp sp ds l := by
 obtain ⟨g, cap, cur, h1, h2, h3, h4, S⟩ := S; exact ⟨g, cap, cur, h1, h2, h3, h4, S.pure X⟩
theorem TabAt.drew (S : TabAt w0 w M K cp hp sp ds l) : TabAt w0 w.drew M K cp hp sp ds l := S.pure (Chg.refl NoB w).drew
theorem TabAt.chg (S : TabAt w0 w M K cp hp sp ds l) : Chg NoB w0 w := by
 obtain ⟨g, cap, cur, h1, h2, h3, h4, S⟩ := S; exact S.chg
theorem TabAt.box (S : TabAt w0 w M K cp hp sp ds l) (q : Nat × Obj) (hq : q ∈ K) : w.heap[q.1]? = some q.2 := by
 obtain ⟨g, cap, cur, h1, h2, h3, h4, S⟩ := S; exact S.box q (List.mem_cons_of_mem _ (List.mem_cons_of_mem _ hq))
theorem TabAt.len (S : TabAt w0 w M K cp hp sp ds l) : l.length ≤ 200 := by
 obtain ⟨g, cap, cur, h1, h2, h3, h4, S⟩ := S; exact S.len
theorem TabAt.may (S : TabAt w0 w M K cp hp sp ds l) : ∀ o ∈ l, mayO o = true := by
 obtain ⟨g, cap, cur, h1, h2, h3, h4, S⟩ := S; exact S.may
theorem TabAt.over (S : TabAt w0 w M K cp hp sp ds l) (h : ∀ E, StkAt w0 w M (E ++ K) sp l → StkAt w0 w' M' (E ++ K') sp l') : TabAt w0 w' M' K' cp hp sp ds l' := by
 obtain ⟨g, cap, cur, h1, h2, h3, h4, S⟩ := S; exact ⟨g, cap, cur, h1, h2, h3, h4, h [_, _] S⟩
theorem TabAt.alloc (S : TabAt w0 w M K cp hp sp ds l) (o : Obj) : TabAt w0 (w.alloc o) M ((w.heap.size, o) :: K) cp hp sp ds l :=
 S.over fun _ A => (A.alloc o).perm List.perm_middle.symm
theorem TabAt.keep (S : TabAt w0 w M K cp hp sp ds l) (h : K'.Sublist K) : TabAt w0 w M K' cp hp sp ds l := S.over fun _ A => A.keep (h.append_left _)
theorem TabAt.perm (S : TabAt w0 w M K cp hp sp ds l) (h : K.Perm K') : TabAt w0 w M K' cp hp sp ds l := S.over fun _ A => A.perm (h.append_left _)
theorem TabAt.put (S : TabAt w0 w M ((b, .cells cs T fz) :: K) cp hp sp ds l) (i : Nat) (v : Value) :
 TabAt w0 (w.setCell ⟨b, i, none⟩ v) M ((b, .cells (cs.setIfInBounds i v) T fz) :: K) cp hp sp ds l :=
 S.over fun _ A => ((A.perm List.perm_middle).put i v).perm List.perm_middle.symm
theorem TabAt.putO {c0 c1 c2 c3 : Value} (S : TabAt w0 w M ((b, .cells #[c0, c1, c2, c3, c4, c5] T) :: K) cp hp sp ds l) (kk : Int) (kx : Bool) (kn kp kl : Int) (ks : ByteArray) :
 TabAt w0 ((((((w.setCell ⟨b, 0, none⟩ (.int .i64 kk)).setCell ⟨b, 1, none⟩ (.bool kx)).setCell ⟨b, 2, none⟩ (.int .i64 kn)).setCell ⟨b, 3, none⟩ (.int .i64 kp)).setCell ⟨b, 4, none⟩ (.int .i64 kl)).setCell ⟨b, 5, none⟩ (.string ks)) M ((b, .cells #[.int .i64 kk, .bool kx, .int .i64 kn, .int .i64 kp, .int .i64 kl, .string ks] T) :: K) cp hp sp ds l :=
 S.over fun _ A => ((A.perm List.perm_middle).putO kk kx kn kp kl ks).perm List.perm_middle.symm
theorem TabAt.stk {args : Array Value} (S : TabAt w0 w M K cp hp sp ds l)
 (h : ∀ K', StkAt w0 w M K' sp l → Calls Tryz.prog f args w fun e w' => e = .returned r ∧ StkAt w0 w' M' K' sp l') :
 Calls Tryz.prog f args w fun e w' => e = .returned r ∧ TabAt w0 w' M' K cp hp sp ds l' := by
 obtain ⟨g, cap, cur, h1, h2, h3, h4, S⟩ := S
 exact (h _ S).mono fun e w' ⟨e1, e2⟩ => ⟨e1, g, cap, cur, h1, h2, h3, h4, e2⟩
theorem TabAt.ask {args : Array Value} (S : TabAt w0 w M K cp hp sp ds l)
 (h : ∀ K', Ats w0 w M K' → Calls Tryz.prog f args w fun e w' => e = .returned r ∧ Ats w0 w' M' K') :
 Calls Tryz.prog f args w fun e w' => e = .returned r ∧ TabAt w0 w' M' K cp hp sp ds l := S.stk fun _ S2 => S2.ask h
theorem tab_perm {α : Type} (a b s : α) (R K : List α) : (R ++ s :: a :: b :: K).Perm (a :: b :: (R ++ s :: K)) := by
 classical refine List.perm_iff_count.2 fun q => ?_
 simp only [List.count_append, List.count_cons]; omega
theorem TabAt.scp {args : Array Value} (S : TabAt w0 w M K cp hp sp ds l)
 (h : ∀ K', ScpAt w0 w M K' cp hp ds → Calls Tryz.prog f args w fun e w' => e = .returned r ∧ ScpAt w0 w' M' K' cp hp ds') :
 Calls Tryz.prog f args w fun e w' => e = .returned r ∧ TabAt w0 w' M' K cp hp sp ds' l := by
 obtain ⟨g, cap, cur, h1, h2, h3, h4, hl, R, lv, hR, A⟩ := S; refine (h _ ⟨g, cap, cur, h1, h2, h3, h4, A.perm (tab_perm _ _ _ _ _)⟩).mono ?_; rintro e w' ⟨e1, g', cap', cur', i1, i2, i3, i4, A'⟩; exact ⟨e1, g', cap', cur', i1, i2, i3, i4, hl, R, lv, hR, A'.perm (tab_perm _ _ _ _ _).symm⟩
def TTaken (w0 : World) (M : List (Nat × List C)) (K : List (Nat × Obj)) (cp hp sp : Nat) (ds l ops : List O) (n : Nat) (e : Ending) (w' : World) : Prop :=
 ∃ g cur, e = .returned (.tuple #[.slice (some ⟨g, 0, none⟩) n n, .int .i64 0]) ∧ cur.toList = ops.flatMap O.cells ∧ TabAt w0 w' M ((g, .cells cur 49) :: K) cp hp sp ds l
theorem TabAt.take {args : Array Value} {ops : List O} (S : TabAt w0 w M K cp hp sp ds l)
 (h : ∀ E, StkAt w0 w M (E ++ K) sp l → Calls Tryz.prog f args w (Taken w0 M (E ++ K) sp l ops n)) : Calls Tryz.prog f args w (TTaken w0 M K cp hp sp ds l ops n) := by
 obtain ⟨g, cap, cur, h1, h2, h3, h4, S⟩ := S; refine (h [_, _] S).mono ?_; rintro e w' ⟨g', cur', e1, e2, S'⟩; exact ⟨g', cur', e1, e2, g, cap, cur, h1, h2, h3, h4, S'.perm (List.perm_middle (l₁ := [_, _])).symm⟩
end
end
section
inductive Fr where
 | body (o : O) (i : Nat)
 | single (o : O)
 | counted (fx : Bool) (now step last : Int) (dn : Bool) (p : O)
 | again (left : Int) (p : O)
 | items (row : O) (i : Nat) (p : O)
 | stopt
def Fr.cells : Fr → List Value
 | .body o i => o.cells ++ [.int .i64 i]
 | .single o => o.cells
 | .counted fx now step last dn p => .bool fx :: .int .i64 now :: .int .i64 step :: .int .i64 last :: .bool dn :: p.cells
 | .again k p => .int .i64 k :: p.cells
 | .items r i p => r.cells ++ .int .i64 i :: p.cells
 | .stopt => []
def Fr.st : Fr → TypeId
 | .body _ _ => 70
 | .single _ => 148
 | .counted _ _ _ _ _ _ => 179
 | .again _ _ => 153
 | .items _ _ _ => 184
 | .stopt => 274
def Fr.pt : Fr → TypeId
 | .body _ _ => 68
 | .single _ => 146
 | .counted _ _ _ _ _ _ => 149
 | .again _ _ => 151
 | .items _ _ _ => 154
 | .stopt => 106
abbrev frV (q : Nat × Fr) : Value := .iface q.2.pt (ptr q.1)
abbrev frB (q : Nat × Fr) : Nat × Obj := (q.1, .cells q.2.cells.toArray q.2.st)
structure MX where
 L : List C
 ds : List O
 l : List O
 kp : List (Int × List C)
 sl : Int
 tx : List UInt8
 most : Int
 steps : Int
 doing : Int
 want : Int
 en : Int
 la : Int
 ew : ByteArray
 lw : ByteArray
abbrev mBox (hp cp sp vp : Nat) (fv tv : Value) (x : MX) : Obj :=
 .cells #[ptr hp, ptr cp, ptr sp, ptr vp, fv, tv, .int .i64 x.most, .int .i64 x.steps, .int .i64 x.doing, .int .i64 x.want, .int .i64 x.en, .int .i64 x.la, .string x.ew, .string x.lw] 61
structure MP where
 hp : Nat
 cp : Nat
 sp : Nat
 vp : Nat
 mp : Nat
def KeptIn (kp : List (Int × List C)) (NM : List (Nat × List C)) (sv : List (Int × Nat)) : Prop := sv.length = kp.length ∧ ∀ (i : Nat) (q : Int × Nat) (c : Int × List C), sv[i]? = some q → kp[i]? = some c → q.1 = c.1 ∧ (q.2, c.2) ∈ NM
def MAt (w0 : World) (p : MP) (K : List (Nat × Obj)) (x : MX) (fs : List (Nat × Fr)) (w : World) : Prop :=
 (fs.length ≤ 100 ∧ x.tx.length ≤ 20000) ∧ ∃ NM sv, KeptIn x.kp NM sv ∧ ∃ R fv R2 tv, RowG 101 1 R fv fs.length (fs.map frV) ∧ RowG 5 1 R2 tv x.tx.length (x.tx.map vu8) ∧
  TabAt w0 w ((p.hp, x.L) :: NM) (R ++ (R2 ++ ((p.mp, mBox p.hp p.cp p.sp p.vp fv tv x) :: (p.vp, svBox sv x.sl) :: (fs.map frB ++ K)))) p.cp p.hp p.sp x.ds x.l
section
variable {w0 w w' : World} {p : MP} {K K' : List (Nat × Obj)} {x y : MX} {fs : List (Nat × Fr)}
theorem MAt.pure (S : MAt w0 p K x fs w) (X : Chg NoB w w') : MAt w0 p K x fs w' := by
 obtain ⟨hb, NM, sv, hkp, R, fv, R2, tv, h1, h2, S⟩ := S; exact ⟨hb, NM, sv, hkp, R, fv, R2, tv, h1, h2, S.pure X⟩
theorem MAt.drew (S : MAt w0 p K x fs w) : MAt w0 p K x fs w.drew := S.pure (Chg.refl NoB w).drew
theorem MAt.chg (S : MAt w0 p K x fs w) : Chg NoB w0 w := by
 obtain ⟨hb, NM, sv, hkp, R, fv, R2, tv, h1, h2, S⟩ := S; exact S.chg
theorem MAt.me (S : MAt w0 p K x fs w) : ∃ fv tv, w.heap[p.mp]? = some (mBox p.hp p.cp p.sp p.vp fv tv x) := by
 obtain ⟨hb, NM, sv, hkp, R, fv, R2, tv, h1, h2, S⟩ := S; exact ⟨fv, tv, S.box (p.mp, mBox p.hp p.cp p.sp p.vp fv tv x) (List.mem_append_right _ (List.mem_append_right _ (List.mem_cons_self ..)))⟩
theorem MAt.frame (S : MAt w0 p K x fs w) {q : Nat × Fr} (hq : q ∈ fs) : w.heap[q.1]? = some (frB q).2 := by
 obtain ⟨hb, NM, sv, hkp, R, fv, R2, tv, h1, h2, S⟩ := S; exact S.box (frB q) (List.mem_append_right _ (List.mem_append_right _ (List.mem_cons_of_mem _ (List.mem_cons_of_mem _ (List.mem_append_left _ (List.mem_map_of_mem hq))))))
theorem MAt.box (S : MAt w0 p K x fs w) (q : Nat × Obj) (hq : q ∈ K) : w.heap[q.1]? = some q.2 := by
 obtain ⟨hb, NM, sv, hkp, R, fv, R2, tv, h1, h2, S⟩ := S; exact S.box q (List.mem_append_right _ (List.mem_append_right _ (List.mem_cons_of_mem _ (List.mem_cons_of_mem _ (List.mem_append_right _ hq)))))
theorem MAt.tab {args : Array Value} {L' : List C} {l' : List O} (S : MAt w0 p K x fs w)
 (h : ∀ NM K', TabAt w0 w ((p.hp, x.L) :: NM) K' p.cp p.hp p.sp x.ds x.l → Calls Tryz.prog f args w fun e w' => e = .returned r ∧ TabAt w0 w' ((p.hp, L') :: NM) K' p.cp p.hp p.sp ds' l') :
 Calls Tryz.prog f args w fun e w' => e = .returned r ∧ MAt w0 p K { x with L := L', ds := ds', l := l' } fs w' := by
 obtain ⟨hb, NM, sv, hkp, R, fv, R2, tv, h1, h2, S⟩ := S
 exact (h _ _ S).mono fun e w' ⟨e1, e2⟩ => ⟨e1, hb, NM, sv, hkp, R, fv, R2, tv, h1, h2, e2⟩
theorem MAt.alloc (S : MAt w0 p K x fs w) (o : Obj) : MAt w0 p ((w.heap.size, o) :: K) x fs (w.alloc o) := by
 obtain ⟨hb, NM, sv, hkp, R, fv, R2, tv, h1, h2, S⟩ := S; refine ⟨hb, NM, sv, hkp, R, fv, R2, tv, h1, h2, (S.alloc o).perm ?_⟩
 classical refine List.perm_iff_count.2 fun q => ?_
 simp only [List.count_append, List.count_cons]; omega
theorem MAt.keep (S : MAt w0 p K x fs w) (h : K'.Sublist K) : MAt w0 p K' x fs w := by
 obtain ⟨hb, NM, sv, hkp, R, fv, R2, tv, h1, h2, S⟩ := S; exact ⟨hb, NM, sv, hkp, R, fv, R2, tv, h1, h2, S.keep ((((h.append_left _).cons_cons _).cons_cons _ |>.append_left _).append_left _)⟩
theorem MAt.over (S : MAt w0 p K x fs w) (h : ∀ NM E, TabAt w0 w ((p.hp, x.L) :: NM) (E ++ K) p.cp p.hp p.sp x.ds x.l → TabAt w0 w' ((p.hp, x.L) :: NM) (E ++ K') p.cp p.hp p.sp x.ds x.l) : MAt w0 p K' x fs w' := by
 obtain ⟨hb, NM, sv, hkp, R, fv, R2, tv, h1, h2, S⟩ := S; refine ⟨hb, NM, sv, hkp, R, fv, R2, tv, h1, h2, ?_⟩; have := h NM (R ++ (R2 ++ ((p.mp, mBox p.hp p.cp p.sp p.vp fv tv x) :: (p.vp, svBox sv x.sl) :: fs.map frB))) (by simpa only [List.append_assoc, List.cons_append] using S)
 simpa only [List.append_assoc, List.cons_append] using this
theorem perm_row {α : Type} (R R' K : List α) (a b c : α) : (R' ++ a :: b :: c :: (R ++ K)).Perm (R ++ (R' ++ a :: b :: c :: K)) := by
 classical refine List.perm_iff_count.2 fun q => ?_
 simp only [List.count_append, List.count_cons]; omega
theorem TabAt.ownsG (S : TabAt w0 w M (R ++ K) cp hp sp ds l) (h : RowG T sz R v n xs) : w.ownsRow w0.heap.size T sz v n xs := by
 obtain ⟨g, cap, cur, h1, h2, h3, h4, hl, R', lv, hr, A⟩ := S; exact Ats.ownsG (A.perm (perm_row R R' K _ _ _)) h
theorem TabAt.grownG {m : Nat} {v' : Value} {xs' : List Value} (S : TabAt w0 w M (R ++ K) cp hp sp ds l) (h : RowG T sz R v n xs)
 (hown : w'.ownsRow w0.heap.size T sz v' (n + m) xs') (hgr : w.grownBy w' v.ownBlock) (hob : v'.ownBlock = v.ownBlock ∨ v'.ownBlock = some w.heap.size) (hm : 0 < m) :
 ∃ R', RowG T sz R' v' (n + m) xs' ∧ TabAt w0 w' M (R' ++ K) cp hp sp ds l := by
 obtain ⟨g, cap, cur, h1, h2, h3, h4, hl, R1, lv, hr, A⟩ := S; obtain ⟨R', hR', A'⟩ := Ats.grownG (A.perm (perm_row R R1 K _ _ _)) h hown hgr hob hm; exact ⟨R', hR', g, cap, cur, h1, h2, h3, h4, hl, R1, lv, hr, A'.perm (perm_row R' R1 K _ _ _).symm⟩
theorem TabAt.put2 {A B Z : List (Nat × Obj)} (S : TabAt w0 w M (A ++ (B ++ ((b, .cells cs T fz) :: Z))) cp hp sp ds l) (i : Nat) (v : Value) :
 TabAt w0 (w.setCell ⟨b, i, none⟩ v) M (A ++ (B ++ ((b, .cells (cs.setIfInBounds i v) T fz) :: Z))) cp hp sp ds l := by
 have e : ∀ q : Nat × Obj, (A ++ (B ++ (q :: Z))).Perm (q :: (A ++ (B ++ Z))) := fun q => by
  have := (List.perm_middle (l₁ := A ++ B) (l₂ := Z) (a := q))
  simpa only [List.append_assoc] using this
 exact ((S.perm (e _)).put i v).perm (e _).symm
theorem mem_me {R2 Z : List (Nat × Obj)} {q : Nat × Obj} : q ∈ R ++ (R2 ++ (q :: Z)) := List.mem_append_right _ (List.mem_append_right _ (List.mem_cons_self ..))
end
end
theorem RowG.parts (h : RowG T sz R v n xs) (hn : 0 < n) :
 ∃ g cap cur, v = .slice (some ⟨g, 0, none⟩) n cap ∧ R = [(g, .cells cur T)] ∧ n ≤ cap ∧ cap ≤ maxLen ∧ cur.size = cap * sz ∧ cur.toList.take (n * sz) = xs ∧ ∀ i, i < n * sz → cur[i]? = xs[i]? := by
 rcases h with ⟨-, h0, -⟩ | ⟨g, cap, cur, h1, h2, h3, h4, h5, h6, -⟩
 · omega
 · exact ⟨g, cap, cur, h1, h2, h3, h4, h5, h6, fun i hi => by rw [← h6, List.getElem?_take_of_lt hi, Array.getElem?_toList]⟩
set_option maxRecDepth 100000 in
theorem m_top {p : MP} {x : MX} {fs : List (Nat × Fr)} {q : Nat × Fr} (S : MAt w0 p K x (fs ++ [q]) w) :
 Calls Tryz.prog 42 #[ptr p.mp] w fun e w' => e = .returned (frV q) ∧ Chg NoB w w' := by
 obtain ⟨⟨hb, -⟩, NM, sv, hkp, R, fv, R2, tv, hR, -, S⟩ := S
 obtain ⟨n, hn⟩ : ∃ n, fs.length = n := ⟨_, rfl⟩
 have hl : (fs ++ [q]).length = n + 1 := by simp [hn]
 rw [hl] at hR hb; obtain ⟨g, cap, cur, rfl, rfl, h1, h2, -, -, hcur⟩ := hR.parts (by omega)
 have hc : cur[n]? = some (frV q) := by
  rw [hcur n (by omega), List.map_append, List.getElem?_append_right (by simp [hn])]; simp [hn]
 have R0 := cells_of (S.box (p.mp, mBox p.hp p.cp p.sp p.vp (.slice (some ⟨g, 0, none⟩) (n + 1) cap) tv x) mem_me); have y0 := blk_lt (S.box (p.mp, mBox p.hp p.cp p.sp p.vp (.slice (some ⟨g, 0, none⟩) (n + 1) cap) tv x) mem_me); have R1 := cells_of (S.box (g, .cells cur 101) (List.mem_cons_self ..)); have y1 := blk_lt (S.box (g, .cells cur 101) (List.mem_cons_self ..)); simp only at y0 y1
 have hn2 : (n : Int) < 100 := by omega
 generalize frV q = v at *; clear hR hcur hl S; go_enter Tryz.func42, Tryz.ntmps42
 go_upto_region 3 with (fail)
 go_quiet (fail)
 go_wp2_with fail
 go_ret; exact ⟨rfl, (Chg.refl NoB w).drewN _⟩
theorem RowG.less {a : Option Addr} {cap : Nat} {ys : List Value} (h : RowG T sz R (.slice a (n + 1) cap) (n + 1) (xs ++ ys)) (hx : xs.length = n * sz) : RowG T sz R (.slice a n cap) n xs := by
 rcases h with ⟨h, -⟩ | ⟨g, cap', cur, h1, h2, h3, h4, h5, h6, h7⟩
 · simp at h
 · simp only [Value.slice.injEq] at h1; obtain ⟨rfl, -, rfl⟩ := h1; refine .inr ⟨g, cap, cur, rfl, h2, by omega, h4, h5, ?_, hx⟩
   have ht : cur.toList.take (n * sz) = (cur.toList.take ((n + 1) * sz)).take (n * sz) := by
    rw [List.take_take]; congr 1; rw [Nat.min_eq_left]; exact Nat.mul_le_mul_right _ (Nat.le_succ n)
   rw [ht, h6, List.take_left' hx]
theorem boxes_snoc (fs : List (Nat × Fr)) (q : Nat × Fr) (K : List (Nat × Obj)) : (fs ++ [q]).map frB ++ K = fs.map frB ++ (frB q :: K) := by simp
set_option maxRecDepth 100000 in
theorem m_drop {p : MP} {x : MX} {fs : List (Nat × Fr)} {q : Nat × Fr} (S : MAt w0 p K x (fs ++ [q]) w) :
 Calls Tryz.prog 43 #[ptr p.mp] w fun e w' => e = .returned (.tuple #[]) ∧ MAt w0 p (frB q :: K) x fs w' := by
 obtain ⟨⟨hb, ht⟩, NM, sv, hkp, R, fv, R2, tv, hR, hT, S⟩ := S
 obtain ⟨n, hn⟩ : ∃ n, fs.length = n := ⟨_, rfl⟩
 have hl : (fs ++ [q]).length = n + 1 := by simp [hn]
 rw [hl] at hR hb; rw [boxes_snoc] at S; obtain ⟨a, cap, rfl, hcap⟩ := rowG_slice hR; rw [List.map_append] at hR; have hR' := hid' (hR.less (by simp [hn]))
 have hcm : (n : Int) ≤ cap := by omega
 have R0 := cells_of (S.box (p.mp, mBox p.hp p.cp p.sp p.vp (.slice a (n + 1) cap) tv x) mem_me); have y0 := blk_lt (S.box (p.mp, mBox p.hp p.cp p.sp p.vp (.slice a (n + 1) cap) tv x) mem_me); have Z0 := free_of (S.box (p.mp, mBox p.hp p.cp p.sp p.vp (.slice a (n + 1) cap) tv x) mem_me); simp only at y0
 have hn2 : (n : Int) < 100 := by omega
 have HS := hid' (S.put2 4 (.slice a n cap)).drew; have HN := hid' hn; clear hR hl S hn; go_enter Tryz.func43, Tryz.ntmps43
 go_region
 go_end0; have S2 := HS.out; simp only [List.setIfInBounds_toArray, List.set_cons_zero, List.set_cons_succ] at S2; exact ⟨rfl, ⟨by rw [HN.out]; omega, ht⟩, NM, sv, hkp, R, _, R2, tv, by rw [HN.out]; exact hR'.out, hT, S2⟩
theorem new_read (w : World) (v : Value) (T : TypeId) : ∀ j u, [v][j]? = some u → (w.alloc (.cells #[v] T)).cell? ((⟨w.heap.size, 0, none⟩ : Addr).add j) = some u := by
 intro j u h
 rcases j with _ | j
 · exact (cells_of (blk_new w (.cells #[v] T)) 0).trans (by simpa using h)
 · simp at h
theorem infoFrame : (Tryz.prog.info? 101).map (fun i => (i.zero, i.size, i.bytes)) = some (some .nilIface, 1, 16) := by kernel_rfl
theorem underFrames : Tryz.prog.underlying 58 = some (.slice 101) := by kernel_rfl
set_option maxRecDepth 100000 in
set_option maxHeartbeats 1000000 in
theorem m_push {p : MP} {x : MX} {fs : List (Nat × Fr)} {q : Nat × Fr} (S : MAt w0 p (frB q :: K) x fs w) (hl : fs.length < 100) :
 Calls Tryz.prog 27 #[ptr p.mp, frV q] w fun e w' => e = .returned (.int .i64 0) ∧ MAt w0 p K x (fs ++ [q]) w' := by
 obtain ⟨i0, hi, hz0, hz1, hz2⟩ := info_parts infoFrame; obtain ⟨⟨hb, ht⟩, NM, sv, hkp, R, fv, R2, tv, hR, hT, S⟩ := S
 obtain ⟨n, hn⟩ : ∃ n, fs.length = n := ⟨_, rfl⟩
 have hfl : (fs.map frV).length = n := by simp [hn]
 rw [← boxes_snoc] at S; have HF : Hid (fs.map frV ++ [frV q] = (fs ++ [q]).map frV) := hid' (by simp); have HL : Hid ((fs ++ [q]).length = n + 1) := hid' (by simp [hn]); have HT := hid' hT; rw [hn] at hR hl
 obtain ⟨fb, hfb⟩ : ∃ fb, (fs ++ [q]).map frB = fb := ⟨_, rfl⟩
 rw [hfb] at S; have HFB := hid' hfb; clear hfb
 obtain ⟨T, b, hqv⟩ : ∃ T b, frV q = .iface T (ptr b) := ⟨_, _, rfl⟩
 rw [hqv] at HF ⊢; generalize fs.map frV = xs at *; obtain ⟨a, cap, rfl, hcap⟩ := rowG_slice hR
 have hn2 : (n : Int) < 100 := by omega
 have S0 := S.pure ((Chg.refl NoB w).alloc (.cells #[.iface T (ptr b)] 101)); have R0 := cells_of (S0.box (p.mp, mBox p.hp p.cp p.sp p.vp (.slice a n cap) tv x) mem_me); have y0 := blk_lt (S0.box (p.mp, mBox p.hp p.cp p.sp p.vp (.slice a n cap) tv x) mem_me); have R1 := cells_of (S.box (p.mp, mBox p.hp p.cp p.sp p.vp (.slice a n cap) tv x) mem_me); have y1 := blk_lt (S.box (p.mp, mBox p.hp p.cp p.sp p.vp (.slice a n cap) tv x) mem_me); simp only at y0 y1
 have hone : ∀ u ∈ [Value.iface T (ptr b)], u.oneCell' = true := fun u hu => by rw [List.mem_singleton.1 hu]; rfl
 have HFR := hid' hR; have HS0 := hid' S0; have hn3 : n < 100 := hl; clear hn hT hfl hR S0 S hqv hl; go_enter Tryz.func27, Tryz.ntmps27
 go_upto_region 3 with (fail)
 go_wp2_with (at_builtin; refine wpList_append_own_at _ rfl (.tmp 15) (.tmp 17) 58 rfl w0.heap.size 101 i0 .nilIface 1 16 underFrames hi hz0 hz1 hz2 rfl (by decide) (.slice a n cap) n xs rfl (HS0.out.ownsG HFR.out) ⟨w.heap.size, 0, none⟩ 1 1 [.iface T (ptr b)] rfl rfl (new_read w (.iface T (ptr b)) _) hone ?_ ?_ ?_ ?_; (unfold maxLen; omega); omega; (have := HS0.out.chg.size; exact this); intro v5 w5 hown5 hgr5 _ hob5; obtain ⟨R', hR', S5⟩ := TabAt.grownG HS0.out HFR.out hown5 hgr5 hob5 (by decide); obtain ⟨g5, cap5, cur5, rfl, rfl, -⟩ := hR'.parts (Nat.succ_pos _); have R6 := cells_of (S5.box (p.mp, mBox p.hp p.cp p.sp p.vp (.slice a n cap) tv x) mem_me); have Z6 := free_of (S5.box (p.mp, mBox p.hp p.cp p.sp p.vp (.slice a n cap) tv x) mem_me); have y6 := blk_lt (S5.box (p.mp, mBox p.hp p.cp p.sp p.vp (.slice a n cap) tv x) mem_me); simp only at y6; have HS6 := hid' (S5.put2 4 (.slice (some ⟨g5, 0, none⟩) (n + 1) cap5)); have HR6 := hid' hR'; clear hown5 hgr5 hob5 hR' S5)
 go_wp2_with fail
 go_ret; have S7 := HS6.out; simp only [List.setIfInBounds_toArray, List.set_cons_zero, List.set_cons_succ] at S7; have hR7 := HR6.out; rw [HF.out] at hR7; rw [← HFB.out] at S7; refine ⟨rfl, ⟨by rw [HL.out]; omega, ht⟩, NM, sv, hkp, _, _, R2, tv, by rw [HL.out]; exact hR7, HT.out, ?_⟩; exact S7
set_option maxRecDepth 100000 in
theorem m_finish {p : MP} {x : MX} {fs : List (Nat × Fr)} (S : MAt w0 p K x fs w) (e : Int) (word : ByteArray) :
 Calls Tryz.prog 44 #[ptr p.mp, .int .i64 e, .string word] w fun r w' => r = .returned (.tuple #[]) ∧ MAt w0 p K { x with doing := 2, want := 0, en := e, ew := word } [] w' := by
 obtain ⟨⟨hb, ht⟩, NM, sv, hkp, R, fv, R2, tv, hR, hT, S⟩ := S; have R0 := cells_of (S.box (p.mp, mBox p.hp p.cp p.sp p.vp fv tv x) mem_me); have y0 := blk_lt (S.box (p.mp, mBox p.hp p.cp p.sp p.vp fv tv x) mem_me); have Z0 := free_of (S.box (p.mp, mBox p.hp p.cp p.sp p.vp fv tv x) mem_me); simp only at y0; have HS := hid' (((((S.put2 4 (.slice none 0 0)).put2 8 (.int .i64 2)).put2 9 (.int .i64 0)).put2 10 (.int .i64 e)).put2 12 (.string word)); have HT := hid' hT; clear hR S hT; go_enter Tryz.func44, Tryz.ntmps44
 go_wp2_with fail
 go_end0; have S2 := HS.out; simp only [List.setIfInBounds_toArray, List.set_cons_zero, List.set_cons_succ] at S2; refine ⟨rfl, ⟨by decide, ht⟩, NM, sv, hkp, [], .slice none 0 0, R2, tv, .inl ⟨rfl, rfl, rfl, rfl⟩, HT.out, S2.keep ?_⟩; exact (List.Sublist.append_left (((List.sublist_append_right _ _).cons_cons _).cons_cons _) _).trans (List.sublist_append_right _ _)
set_option maxRecDepth 100000 in
theorem m_awake {p : MP} {x : MX} {fs : List (Nat × Fr)} (S : MAt w0 p K x fs w) (hd : x.doing = 2) :
 Calls Tryz.prog 28 #[ptr p.mp] w fun r w' => r = .returned (.tuple #[]) ∧ MAt w0 p K { x with doing := 0, en := 0, ew := ⟨#[]⟩ } fs w' := by
 obtain ⟨hb, NM, sv, hkp, R, fv, R2, tv, hR, hT, S⟩ := S; have R0 := cells_of (S.box (p.mp, mBox p.hp p.cp p.sp p.vp fv tv x) mem_me); have y0 := blk_lt (S.box (p.mp, mBox p.hp p.cp p.sp p.vp fv tv x) mem_me); have Z0 := free_of (S.box (p.mp, mBox p.hp p.cp p.sp p.vp fv tv x) mem_me); simp only at y0; rw [hd] at R0; have HS := hid' (((S.put2 8 (.int .i64 0)).put2 10 (.int .i64 0)).put2 12 (.string ⟨#[]⟩)); have HT := hid' hT; have HR := hid' hR; clear hR S hT; go_enter Tryz.func28, Tryz.ntmps28
 go_wp2_with fail
 go_end0; have S2 := HS.out; simp only [List.setIfInBounds_toArray, List.set_cons_zero, List.set_cons_succ] at S2; exact ⟨rfl, hb, NM, sv, hkp, R, fv, R2, tv, HR.out, HT.out, S2⟩
section
def MS (w0 : World) (p : MP) (K : List (Nat × Obj)) (x : MX) (F : List Fr) (w : World) : Prop := ∃ qs, qs.map Prod.snd = F ∧ MAt w0 p K x qs w
def AnyM (w0 : World) (p : MP) (K : List (Nat × Obj)) (w : World) : Prop := ∃ x qs, MAt w0 p K x qs w
def Mc (p : MP) (f : Nat) (args : Array Value) (r : Value) (x : MX) (F : List Fr) (y : MX) (G : List Fr) : Prop :=
 ∀ w0 K w, MS w0 p K x F w → Calls Tryz.prog f args w fun e w' => e = .returned r ∧ MS w0 p K y G w'
section
variable {w0 w w' : World} {p : MP} {K K' : List (Nat × Obj)} {x y : MX} {F G : List Fr}
theorem MS.pure (S : MS w0 p K x F w) (X : Chg NoB w w') : MS w0 p K x F w' := by obtain ⟨qs, h, S⟩ := S; exact ⟨qs, h, S.pure X⟩
theorem MS.drew (S : MS w0 p K x F w) : MS w0 p K x F w.drew := S.pure (Chg.refl NoB w).drew
theorem MS.alloc (S : MS w0 p K x F w) (o : Obj) : MS w0 p ((w.heap.size, o) :: K) x F (w.alloc o) := by obtain ⟨qs, h, S⟩ := S; exact ⟨qs, h, S.alloc o⟩
theorem MS.keep (S : MS w0 p K x F w) (h : K'.Sublist K) : MS w0 p K' x F w := by obtain ⟨qs, e, S⟩ := S; exact ⟨qs, e, S.keep h⟩
theorem MS.over (S : MS w0 p K x F w) (h : ∀ NM E, TabAt w0 w ((p.hp, x.L) :: NM) (E ++ K) p.cp p.hp p.sp x.ds x.l → TabAt w0 w' ((p.hp, x.L) :: NM) (E ++ K') p.cp p.hp p.sp x.ds x.l) : MS w0 p K' x F w' := by
 obtain ⟨qs, e, S⟩ := S; exact ⟨qs, e, S.over h⟩
theorem MS.perm (S : MS w0 p K x F w) (h : K.Perm K') : MS w0 p K' x F w := S.over fun _ _ A => A.perm (h.append_left _)
theorem MS.putO {c0 c1 c2 c3 : Value} (S : MS w0 p ((b, .cells #[c0, c1, c2, c3, c4, c5] T) :: K) x F w) (kk : Int) (kx : Bool) (kn kp kl : Int) (ks : ByteArray) :
 MS w0 p ((b, .cells #[.int .i64 kk, .bool kx, .int .i64 kn, .int .i64 kp, .int .i64 kl, .string ks] T) :: K) x F ((((((w.setCell ⟨b, 0, none⟩ (.int .i64 kk)).setCell ⟨b, 1, none⟩ (.bool kx)).setCell ⟨b, 2, none⟩ (.int .i64 kn)).setCell ⟨b, 3, none⟩ (.int .i64 kp)).setCell ⟨b, 4, none⟩ (.int .i64 kl)).setCell ⟨b, 5, none⟩ (.string ks)) :=
 S.over fun _ _ A => ((A.perm List.perm_middle).putO kk kx kn kp kl ks).perm List.perm_middle.symm
theorem MS.two_old {a : Nat} {c0 c1 c2 c3 : Value} (S : MS w0 p ((b, .cells #[c0, c1, c2, c3, c4, c5] T) :: (a, .cells #[b0, b1, b2, b3, b4, b5] T') :: K) x F w)
 (vk : Int) (vx : Bool) (vn vp vl : Int) (vs : ByteArray) (dk : Int) (dx : Bool) (dn dp dl : Int) (dS : ByteArray) : MS w0 p
  ((a, .cells #[.int .i64 vk, .bool vx, .int .i64 vn, .int .i64 vp, .int .i64 vl, .string vs] T') :: (b, .cells #[.int .i64 dk, .bool dx, .int .i64 dn, .int .i64 dp, .int .i64 dl, .string dS] T) :: K) x F ((((((((((((w.setCell ⟨a, 0, none⟩ (.int .i64 vk)).setCell ⟨a, 1, none⟩ (.bool vx)).setCell ⟨a, 2, none⟩ (.int .i64 vn)).setCell ⟨a, 3, none⟩ (.int .i64 vp)).setCell ⟨a, 4, none⟩ (.int .i64 vl)).setCell ⟨a, 5, none⟩ (.string vs)).setCell ⟨b, 0, none⟩ (.int .i64 dk)).setCell ⟨b, 1, none⟩ (.bool dx)).setCell ⟨b, 2, none⟩ (.int .i64 dn)).setCell ⟨b, 3, none⟩ (.int .i64 dp)).setCell ⟨b, 4, none⟩ (.int .i64 dl)).setCell ⟨b, 5, none⟩ (.string dS)) :=
 (((S.perm (List.Perm.swap _ _ _)).putO vk vx vn vp vl vs).perm (List.Perm.swap _ _ _)).putO dk dx dn dp dl dS |>.perm (List.Perm.swap _ _ _)
theorem MS.two_new {a : Nat} {c0 c1 c2 c3 : Value} (S : MS w0 p ((b, .cells #[c0, c1, c2, c3, c4, c5] T) :: (a, .cells #[b0, b1, b2, b3, b4, b5] T') :: K) x F w)
 (vk : Int) (vx : Bool) (vn vp vl : Int) (vs : ByteArray) (dk : Int) (dx : Bool) (dn dp dl : Int) (dS : ByteArray) : MS w0 p
  ((b, .cells #[.int .i64 vk, .bool vx, .int .i64 vn, .int .i64 vp, .int .i64 vl, .string vs] T) :: (a, .cells #[.int .i64 dk, .bool dx, .int .i64 dn, .int .i64 dp, .int .i64 dl, .string dS] T') :: K) x F ((((((((((((w.setCell ⟨b, 0, none⟩ (.int .i64 vk)).setCell ⟨b, 1, none⟩ (.bool vx)).setCell ⟨b, 2, none⟩ (.int .i64 vn)).setCell ⟨b, 3, none⟩ (.int .i64 vp)).setCell ⟨b, 4, none⟩ (.int .i64 vl)).setCell ⟨b, 5, none⟩ (.string vs)).setCell ⟨a, 0, none⟩ (.int .i64 dk)).setCell ⟨a, 1, none⟩ (.bool dx)).setCell ⟨a, 2, none⟩ (.int .i64 dn)).setCell ⟨a, 3, none⟩ (.int .i64 dp)).setCell ⟨a, 4, none⟩ (.int .i64 dl)).setCell ⟨a, 5, none⟩ (.string dS)) :=
 ((S.putO vk vx vn vp vl vs).perm (List.Perm.swap _ _ _)).putO dk dx dn dp dl dS |>.perm (List.Perm.swap _ _ _)
theorem MS.more {q : Nat × Obj} (S : MS w0 p (q :: K) x F w) : AnyM w0 p K w := by obtain ⟨qs, h, S⟩ := S; exact ⟨x, qs, S.keep (List.sublist_cons_self _ _)⟩
theorem MS.more2 {q q' : Nat × Obj} (S : MS w0 p (q :: q' :: K) x F w) : AnyM w0 p K w := by obtain ⟨qs, h, S⟩ := S; exact ⟨x, qs, S.keep ((List.sublist_cons_self _ _).trans (List.sublist_cons_self _ _))⟩
theorem MS.any (S : MS w0 p K x F w) : AnyM w0 p K w := by obtain ⟨qs, h, S⟩ := S; exact ⟨x, qs, S⟩
theorem MS.box (S : MS w0 p K x F w) (q : Nat × Obj) (hq : q ∈ K) : w.heap[q.1]? = some q.2 := by obtain ⟨qs, h, S⟩ := S; exact S.box q hq
theorem MS.chg (S : MS w0 p K x F w) : Chg NoB w0 w := by obtain ⟨qs, h, S⟩ := S; exact S.chg
theorem AnyM.pure (S : AnyM w0 p K w) (X : Chg NoB w w') : AnyM w0 p K w' := by obtain ⟨x, qs, S⟩ := S; exact ⟨x, qs, S.pure X⟩
theorem AnyM.drew (S : AnyM w0 p K w) : AnyM w0 p K w.drew := S.pure (Chg.refl NoB w).drew
theorem AnyM.alloc (S : AnyM w0 p K w) (o : Obj) : AnyM w0 p K (w.alloc o) := S.pure ((Chg.refl NoB w).alloc o)
theorem AnyM.cells (hm : (g, Obj.cells cs T fz) ∈ K) : ∀ W, AnyM w0 p K W → ∀ i, W.cell? ⟨g, i, none⟩ = cs[i]? := by
 rintro W ⟨x, qs, S⟩ i; exact cells_of (S.box _ hm) i
theorem AnyM.lt {q : Nat × Obj} (hm : q ∈ K) : ∀ W, AnyM w0 p K W → q.1 < W.heap.size := by
 rintro W ⟨x, qs, S⟩; exact blk_lt (S.box _ hm)
theorem AnyM.c0 : ∀ W, AnyM w0 p K W → W.cell? ⟨p.mp, 0, none⟩ = some (ptr p.hp) := by
 rintro W ⟨x, qs, S⟩; obtain ⟨fv, tv, h⟩ := S.me; exact cells_of h 0
theorem AnyM.c1 : ∀ W, AnyM w0 p K W → W.cell? ⟨p.mp, 1, none⟩ = some (ptr p.cp) := by
 rintro W ⟨x, qs, S⟩; obtain ⟨fv, tv, h⟩ := S.me; exact cells_of h 1
theorem AnyM.c2 : ∀ W, AnyM w0 p K W → W.cell? ⟨p.mp, 2, none⟩ = some (ptr p.sp) := by
 rintro W ⟨x, qs, S⟩; obtain ⟨fv, tv, h⟩ := S.me; exact cells_of h 2
theorem AnyM.c3 : ∀ W, AnyM w0 p K W → W.cell? ⟨p.mp, 3, none⟩ = some (ptr p.vp) := by
 rintro W ⟨x, qs, S⟩; obtain ⟨fv, tv, h⟩ := S.me; exact cells_of h 3
theorem AnyM.mlt : ∀ W, AnyM w0 p K W → p.mp < W.heap.size := by
 rintro W ⟨x, qs, S⟩; obtain ⟨fv, tv, h⟩ := S.me; exact blk_lt h
theorem MS.tab {args : Array Value} {L' : List C} {l' : List O} (S : MS w0 p K x F w)
 (h : ∀ NM K', TabAt w0 w ((p.hp, x.L) :: NM) K' p.cp p.hp p.sp x.ds x.l → Calls Tryz.prog f args w fun e w' => e = .returned r ∧ TabAt w0 w' ((p.hp, L') :: NM) K' p.cp p.hp p.sp ds' l') :
 Calls Tryz.prog f args w fun e w' => e = .returned r ∧ MS w0 p K { x with L := L', ds := ds', l := l' } F w' := by
 obtain ⟨qs, e, S⟩ := S
 exact (S.tab h).mono fun _ _ ⟨h1, h2⟩ => ⟨h1, qs, e, h2⟩
theorem MS.spush (S : MS w0 p K x F w) (o : O) (hm : mayO o = true) (hl : x.l.length < 200) :
 Calls Tryz.prog 46 #[ptr p.sp, o.val] w fun e w' => e = .returned (.int .i64 0) ∧ MS w0 p K { x with l := x.l ++ [o] } F w' :=
 S.tab fun _ _ T => T.stk fun _ S2 => stk_push S2 o hm hl
theorem MS.fpush {q : Nat × Fr} (S : MS w0 p (frB q :: K) x F w) (hl : F.length < 100) :
 Calls Tryz.prog 27 #[ptr p.mp, frV q] w fun e w' => e = .returned (.int .i64 0) ∧ MS w0 p K x (F ++ [q.2]) w' := by
 obtain ⟨qs, e, S⟩ := S
 exact (m_push S (by rw [← e, List.length_map] at hl; exact hl)).mono fun _ _ ⟨h1, h2⟩ => ⟨h1, _, by rw [List.map_append, e]; rfl, h2⟩
end
section
variable {p : MP} {x y : MX} {F G : List Fr}
set_option maxRecDepth 100000 in
theorem stands_lit (o : O) (nm : ByteArray) (hx : o.exec = false) (hm : mayO o = true) (hl : x.l.length < 200) :
 Mc p 101 #[ptr p.mp, o.val, .string nm] (.tuple #[.string nm, .int .i64 0]) x F { x with l := x.l ++ [o] } F := by
 intro w0 K w S; have HP := hid' (fun W K' (S' : MS w0 p K' x F W) => S'.spush o hm hl); have S1 := S.alloc (obox o); have RC := AnyM.cells (w0 := w0) (p := p) (K := (w.heap.size, obox o) :: K) (List.mem_cons_self ..); have M2 := AnyM.c2 (w0 := w0) (p := p) (K := (w.heap.size, obox o) :: K); have lt := AnyM.mlt _ S1.any; have lw := blk_lt (S1.box _ (List.mem_cons_self ..)); have hS1 := S1.any; have HS := hid' S1; obtain ⟨kk, kx, kn, kp, kl, ks⟩ := o; simp only at hx; subst hx; clear hm hl S S1; generalize hg : w.heap.size = b at *; have R0 := RC _ hS1; simp only at lw; go_enter Tryz.func101, Tryz.ntmps101
 go_upto_region 2 with (fail)
 clear hg R0; generalize w.alloc _ = w1 at *
 go_region_held3 (fun W' => AnyM w0 p ((b, obox ⟨kk, false, kn, kp, kl, ks⟩) :: K) W') (first | (with_reducible assumption) | (with_reducible exact MS.any S4) | (with_reducible exact AnyM.drew (by with_reducible assumption)))
  ((go_at_call 46; refine (HP.out _ _ (by first | exact HS.out | exact HS.out.drew)).mono ?_; rintro r w4 ⟨rfl, S4⟩))
 go_wp2_with fail
 refine bodyPost_ret (v := .tuple #[.string nm, .int .i64 0]) ?_ rfl ⟨rfl, ?_⟩
 · simp [results, Tryz.results101, go_sem]
 · exact S4.keep (List.sublist_cons_self _ _)
end
end
section
section
variable {p : MP} {x y : MX} {F G : List Fr}
set_option maxRecDepth 100000 in
theorem stands_arr (o : O) (nm : ByteArray) (hx : o.exec = true) (hk : o.kind = 9) (hl : F.length < 100) :
 Mc p 101 #[ptr p.mp, o.val, .string nm] (.tuple #[.string nm, .int .i64 0]) x F x (F ++ [.body o 0]) := by
 intro w0 K w S; have HP := hid' (fun W K' (q : Nat × Fr) (S' : MS w0 p (frB q :: K') x F W) => S'.fpush hl); have S1 := S.alloc (obox o); have lw := blk_lt (S1.box _ (List.mem_cons_self ..)); obtain ⟨kk, kx, kn, kp, kl, ks⟩ := o; simp only at hx hk; subst hx hk; have R0 := cells_of (S1.box (w.heap.size, obox ⟨9, true, kn, kp, kl, ks⟩) (List.mem_cons_self ..)); clear hl S; generalize hg : w.heap.size = b at *; simp only at lw; go_enter Tryz.func101, Tryz.ntmps101
 go_upto_region 5 with (fail)
 clear hg; generalize w.alloc _ = w1 at *; have S2 := S1.alloc (.cells (O.cells ⟨9, true, kn, kp, kl, ks⟩ ++ [Value.int .i64 0]).toArray 70); simp only [O.cells, List.cons_append, List.nil_append] at S2; clear S1; go_wp2_with fail
 refine (HP.out _ _ (w1.heap.size, .body ⟨9, true, kn, kp, kl, ks⟩ 0) S2).mono ?_; rintro r w4 ⟨rfl, S4⟩; go_wp2_with fail
 refine bodyPost_ret (v := .tuple #[.string nm, .int .i64 0]) ?_ rfl ⟨rfl, ?_⟩
 · simp [results, Tryz.results101, go_sem]
 · exact S4.keep (List.sublist_cons_self _ _)
set_option maxRecDepth 100000 in
theorem stands_op (n e : Int) (nm on : ByteArray) (hn : ∀ w, Calls Tryz.prog 31 #[.int .i64 n] w fun r w' => r = .returned (.string on) ∧ Chg NoB w w') (hd : Mc p 121 #[ptr p.mp, .int .i64 n] (.int .i64 e) x F y G) (b : Bool) (hb : b = true) :
 Mc p 101 #[ptr p.mp, (⟨7, b, n, 0, 0, ⟨#[]⟩⟩ : O).val, .string nm] (.tuple #[.string on, .int .i64 e]) x F y G := by
 subst hb; intro w0 K w S; have HP := hid' (fun W K' (S' : MS w0 p K' x F W) => hd w0 K' W S'); have HN := hid' hn; have S1 := S.alloc (obox ⟨7, true, n, 0, 0, ⟨#[]⟩⟩); have RC := AnyM.cells (w0 := w0) (p := p) (K := (w.heap.size, obox ⟨7, true, n, 0, 0, ⟨#[]⟩⟩) :: K) (List.mem_cons_self ..); have hS1 := S1.any; have lw := blk_lt (S1.box _ (List.mem_cons_self ..)); have HS := hid' S1; clear S S1 hd hn; generalize hg : w.heap.size = b at *; have R0 := RC _ hS1; simp only at lw; go_enter Tryz.func101, Tryz.ntmps101
 go_upto_region 9 with (fail)
 clear hg R0; generalize w.alloc _ = w1 at *
 go_region_held3 (fun W' => AnyM w0 p ((b, obox ⟨7, true, n, 0, 0, ⟨#[]⟩⟩) :: K) W') (first | (with_reducible assumption) | (with_reducible exact MS.any S4) | (with_reducible exact AnyM.drew (by with_reducible assumption)) | (with_reducible exact AnyM.pure (by with_reducible assumption) (by with_reducible assumption)))
  (first | (go_at_call 31; refine (HN.out _).mono ?_; rintro r w3 ⟨rfl, X3⟩) | (go_at_call 121; refine (HP.out _ _ (by first | exact HS.out | exact HS.out.drew | exact HS.out.pure X3 | exact (HS.out.pure X3).drew | exact HS.out.drew.pure X3)).mono ?_; rintro r w4 ⟨rfl, S4⟩))
 all_goals
  go_wp2_with fail
  refine bodyPost_ret (v := .tuple #[.string on, .int .i64 e]) ?_ rfl ⟨rfl, ?_⟩
  · simp [results, Tryz.results101, go_sem]
  · first | exact S4.keep (List.sublist_cons_self _ _) | exact (S4.pure X3).keep (List.sublist_cons_self _ _)
end
end
section
abbrev wkBox (hp cp sp : Nat) (lv gv : Value) : Obj := .cells #[ptr hp, ptr cp, ptr sp, lv, gv] 237
def TB (w0 : World) (cp hp sp : Nat) (KB : List (Nat × Obj)) (W : World) : Prop := ∃ M ds l E, TabAt w0 W M (E ++ KB) cp hp sp ds l
section
variable {w0 W : World} {M : List (Nat × List C)} {cp hp sp : Nat} {ds l : List O} {KB : List (Nat × Obj)}
theorem TB.of (S : TabAt w0 W M KB cp hp sp ds l) : TB w0 cp hp sp KB W := ⟨M, ds, l, [], S⟩
theorem TB.more {q : Nat × Obj} (S : TabAt w0 W M (q :: KB) cp hp sp ds l) : TB w0 cp hp sp KB W := ⟨M, ds, l, [q], S⟩
theorem TB.more2 {q q' : Nat × Obj} (S : TabAt w0 W M (q :: q' :: KB) cp hp sp ds l) : TB w0 cp hp sp KB W := ⟨M, ds, l, [q, q'], S⟩
theorem TB.drew (h : TB w0 cp hp sp KB W) : TB w0 cp hp sp KB W.drew := by obtain ⟨M, ds, l, E, S⟩ := h; exact ⟨M, ds, l, E, S.drew⟩
theorem TB.alloc (h : TB w0 cp hp sp KB W) (o : Obj) : TB w0 cp hp sp KB (W.alloc o) := by obtain ⟨M, ds, l, E, S⟩ := h; exact ⟨M, ds, l, _ :: E, S.alloc o⟩
theorem TB.cells (hm : (g, Obj.cells cs T fz) ∈ KB) : ∀ W, TB w0 cp hp sp KB W → ∀ i, W.cell? ⟨g, i, none⟩ = cs[i]? := by
 rintro W ⟨M, ds, l, E, S⟩ i; exact cells_of (S.box _ (List.mem_append_right _ hm)) i
end
theorem give_any {wb : Nat} {lv gv : Value} (S : TabAt w0 w M ((wb, wkBox hp cp sp lv gv) :: K) cp hp sp ds l) (a : Option Addr) (k c : Nat) :
 Calls Tryz.prog 222 #[ptr wb, .slice a k c] w fun e w' => e = .returned (.tuple #[]) ∧ TabAt w0 w' M ((wb, wkBox hp cp sp lv (.slice a k c)) :: K) cp hp sp ds l := by
 (try clear Ra); (try clear ya); (try clear Za)
 have Ra := cells_of (S.box _ m0); have ya := blk_lt (S.box _ m0); have Za := free_of (S.box _ m0)
 (try simp only at Ra ya Za)
 go_enter Tryz.func222, Tryz.ntmps222
 go_wp2_with fail
 go_end0; exact ⟨rfl, S.put 4 _⟩
theorem at6a (hc : cur.toList = [a].flatMap O.cells) : cur[0]? = some (.int .i64 a.kind) ∧ cur[1]? = some (.bool a.exec) ∧ cur[2]? = some (.int .i64 a.n) ∧ cur[3]? = some (.int .i64 a.pos) ∧ cur[4]? = some (.int .i64 a.len) ∧ cur[5]? = some (.string a.s) := at6 (m := 0) hc rfl
theorem at6b {b : O} (hc : cur.toList = [a, b].flatMap O.cells) : (cur[0]? = some (.int .i64 a.kind) ∧ cur[1]? = some (.bool a.exec) ∧ cur[2]? = some (.int .i64 a.n) ∧ cur[3]? = some (.int .i64 a.pos) ∧ cur[4]? = some (.int .i64 a.len) ∧ cur[5]? = some (.string a.s)) ∧
 cur[6]? = some (.int .i64 b.kind) ∧ cur[7]? = some (.bool b.exec) ∧ cur[8]? = some (.int .i64 b.n) ∧ cur[9]? = some (.int .i64 b.pos) ∧ cur[10]? = some (.int .i64 b.len) ∧ cur[11]? = some (.string b.s) := ⟨at6 (m := 0) hc rfl, at6 (m := 1) hc rfl⟩
set_option maxRecDepth 100000 in
set_option maxHeartbeats 1000000 in
theorem m_def {M' : List (Nat × List C)} {wb : Nat} {b : O} {gv : Value} {e : Int} (S : TabAt w0 w M KB cp hp sp ds l) (hw : (wb, wkBox hp cp sp (.slice (some ⟨g, 0, none⟩) 2 2) gv) ∈ KB) (hg : (g, .cells cur 49) ∈ KB) (hc : cur.toList = [a, b].flatMap O.cells)
 (H : ∀ w', TabAt w0 w' M KB cp hp sp ds l → Calls Tryz.prog 225 #[ptr cp, a.val, b.val] w' fun r w2 => r = .returned (.int .i64 e) ∧ TabAt w0 w2 M' KB cp hp sp ds' l) :
 Calls Tryz.prog 163 #[ptr wb] w fun r w2 => r = .returned (.int .i64 e) ∧ TabAt w0 w2 M' KB cp hp sp ds' l := by
 obtain ⟨⟨q0, q1, q2, q3, q4, q5⟩, p0, p1, p2, p3, p4, p5⟩ := at6b hc; obtain ⟨ak, ax, an, ap, al, aS⟩ := a; obtain ⟨bk, bx, bn, bp, bl, bs⟩ := b; simp only at q0 q1 q2 q3 q4 q5 p0 p1 p2 p3 p4 p5; have HH := hid' H; have HS := hid' S; have RW := TB.cells (w0 := w0) (cp := cp) (hp := hp) (sp := sp) hw; have RG := TB.cells (w0 := w0) (cp := cp) (hp := hp) (sp := sp) hg; have lw := blk_lt (S.box _ hw); have lg := blk_lt (S.box _ hg); simp only at lw lg; have hS1 := TB.of S; clear H hw hg S hc; go_enter Tryz.func163, Tryz.ntmps163
 go_wp2_with fail
 go_region_held3 (fun W' => TB w0 cp hp sp KB W') (first | (with_reducible assumption) | (with_reducible exact TB.of S4) | (with_reducible exact TB.drew (by with_reducible assumption)))
  ((go_at_call 225; refine (HH.out _ (by first | exact HS.out | exact HS.out.drew)).mono ?_; rintro r w4 ⟨rfl, S4⟩))
 go_wp2_with fail
 go_ret; exact ⟨rfl, S4⟩
end
def GV (E : List (Nat × Obj)) (v : Value) (gv : List O) : Prop := (v = .slice none 0 0 ∧ gv = []) ∨ ∃ nb cur k, v = .slice (some ⟨nb, 0, none⟩) k k ∧ (nb, Obj.cells cur 49) ∈ E ∧ cur.toList = gv.flatMap O.cells ∧ gv.length = k
def Gave (w0 : World) (M : List (Nat × List C)) (K : List (Nat × Obj)) (cp hp sp : Nat) (ds l : List O) (wb n : Nat) (gv : List O) (e : Int) (r : Ending) (w' : World) : Prop :=
 r = .returned (.int .i64 e) ∧ ∃ a c v E, TabAt w0 w' M ((wb, wkBox hp cp sp (.slice a n c) v) :: (E ++ K)) cp hp sp ds l ∧ GV E v gv
theorem TabAt.two_old {p q : Nat} {c0 c1 c2 c3 : Value} (S : TabAt w0 w M ((q, .cells #[c0, c1, c2, c3, c4, c5] T) :: (p, .cells #[b0, b1, b2, b3, b4, b5] T') :: KB) cp hp sp ds l)
 (vk : Int) (vx : Bool) (vn vp vl : Int) (vs : ByteArray) (dk : Int) (dx : Bool) (dn dp dl : Int) (dS : ByteArray) : TabAt w0 ((((((((((((w.setCell ⟨p, 0, none⟩ (.int .i64 vk)).setCell ⟨p, 1, none⟩ (.bool vx)).setCell ⟨p, 2, none⟩ (.int .i64 vn)).setCell ⟨p, 3, none⟩ (.int .i64 vp)).setCell ⟨p, 4, none⟩ (.int .i64 vl)).setCell ⟨p, 5, none⟩ (.string vs)).setCell ⟨q, 0, none⟩ (.int .i64 dk)).setCell ⟨q, 1, none⟩ (.bool dx)).setCell ⟨q, 2, none⟩ (.int .i64 dn)).setCell ⟨q, 3, none⟩ (.int .i64 dp)).setCell ⟨q, 4, none⟩ (.int .i64 dl)).setCell ⟨q, 5, none⟩ (.string dS)) M
  ((p, .cells #[.int .i64 vk, .bool vx, .int .i64 vn, .int .i64 vp, .int .i64 vl, .string vs] T') :: (q, .cells #[.int .i64 dk, .bool dx, .int .i64 dn, .int .i64 dp, .int .i64 dl, .string dS] T) :: KB) cp hp sp ds l :=
 (((S.perm (List.Perm.swap _ _ _)).putO vk vx vn vp vl vs).perm (List.Perm.swap _ _ _)).putO dk dx dn dp dl dS |>.perm (List.Perm.swap _ _ _)
theorem TabAt.two_new {p q : Nat} {c0 c1 c2 c3 : Value} (S : TabAt w0 w M ((q, .cells #[c0, c1, c2, c3, c4, c5] T) :: (p, .cells #[b0, b1, b2, b3, b4, b5] T') :: KB) cp hp sp ds l)
 (vk : Int) (vx : Bool) (vn vp vl : Int) (vs : ByteArray) (dk : Int) (dx : Bool) (dn dp dl : Int) (dS : ByteArray) : TabAt w0 ((((((((((((w.setCell ⟨q, 0, none⟩ (.int .i64 vk)).setCell ⟨q, 1, none⟩ (.bool vx)).setCell ⟨q, 2, none⟩ (.int .i64 vn)).setCell ⟨q, 3, none⟩ (.int .i64 vp)).setCell ⟨q, 4, none⟩ (.int .i64 vl)).setCell ⟨q, 5, none⟩ (.string vs)).setCell ⟨p, 0, none⟩ (.int .i64 dk)).setCell ⟨p, 1, none⟩ (.bool dx)).setCell ⟨p, 2, none⟩ (.int .i64 dn)).setCell ⟨p, 3, none⟩ (.int .i64 dp)).setCell ⟨p, 4, none⟩ (.int .i64 dl)).setCell ⟨p, 5, none⟩ (.string dS)) M
  ((q, .cells #[.int .i64 vk, .bool vx, .int .i64 vn, .int .i64 vp, .int .i64 vl, .string vs] T) :: (p, .cells #[.int .i64 dk, .bool dx, .int .i64 dn, .int .i64 dp, .int .i64 dl, .string dS] T') :: KB) cp hp sp ds l :=
 ((S.putO vk vx vn vp vl vs).perm (List.Perm.swap _ _ _)).putO dk dx dn dp dl dS |>.perm (List.Perm.swap _ _ _)
def LC (w0 : World) (M : List (Nat × List C)) (KB : List (Nat × Obj)) (cp hp sp : Nat) (ds l : List O) (v d : O) (e : Int) (s3 s4 s5 : Value) (wx : World) : Prop :=
 s5 = .int .i64 e ∧ ∃ q p, s3 = ptr q ∧ s4 = ptr p ∧ TabAt w0 wx M ((q, .cells v.cells.toArray 49) :: (p, .cells d.cells.toArray 49) :: KB) cp hp sp ds l
theorem truth20 (b : Bool) (w : World) : Calls Tryz.prog 47 #[.bool b] w fun e w' => e = .returned (bO b).val ∧ Chg NoB w w' := by
 cases b
 all_goals
  go_enter Tryz.func47, Tryz.ntmps47
  go_wp2_with fail
  refine bodyPost_ret (v := O.val (bO _)) ?_ rfl ⟨rfl, ?_⟩
  · simp [results, Tryz.results47, go_sem, bO]
  · exact ((Chg.refl NoB w).alloc _).alloc _
end Go.Proofs.YtpiomapnmempoaaGreat
