/- append of a string's bytes onto a row of the call's own, and where the new slice lies; a row among the boxes, what is appended may be nothing. -/
import Derived.Test.YtgllgemjfpiogaaRow
import Derived.Test.YtgllgemjfpiogaaStr
import Derived.Lib.AppendStr
import Derived.Deep.AppendLies
namespace Go.Proofs.Ytgllgemjfpiogaa
open Go.RowKit

section
variable {P : Program} (w : World)
theorem run_append_str_at (base : Nat) (t u ty e : TypeId) (i : TypeInfo) (ht : P.underlying t = some (.slice e)) (hu : P.underlying u = some .string) (hi : P.info? e = some i) (hz : i.zero = some (.int .u8 0))
    (hsize : i.size = 1) (hby : i.bytes = 1)
    (v : Value) (n : Nat) (xs : List Value) (hown : w.ownsRow base e 1 v n xs) (s : ByteArray)
    (h63 : n + s.size ≤ maxLen) (hbytes : n + s.size ≤ 140737488355328) (hbase : base ≤ w.heap.size) :
    ∃ v' w', (Builtin.append_ #[t, u] ty #[v, .string s]).run P w = .ok v' w' ∧ w'.ownsRow base e 1 v' (n + s.size) (xs ++ Lib.strCells s) ∧ w.grownBy w' v.ownBlock ∧
      (v' = .slice none 0 0 ↔ v = .slice none 0 0 ∧ s.size = 0) ∧ (v'.ownBlock = v.ownBlock ∨ v'.ownBlock = some w.heap.size) := by
  obtain ⟨v', w', hr, h1, h2, h3⟩ := Lib.run_append_own_string (P := P) w base t u ty e i ht hu hi hz hsize hby v n xs hown s h63 hbytes hbase
  refine ⟨v', w', hr, h1, h2, h3, ?_⟩
  have hsmall : n + s.size ≤ 9223372036854775807 := by simp only [maxLen] at h63; omega
  have hxl : xs.length = n := by simpa using hown.1
  rcases hown.2 with ⟨rfl, rfl⟩ | ⟨g, cap, cur, rfl, hbg, hg, hnc, hcm, hcs, htake⟩
  · by_cases hm : s.size = 0
    · exact .inl (by rw [h3.2 ⟨rfl, hm⟩])
    · have := run_append_nil_string (P := P) w t u ty e i (.int .u8 0) ht hu hi hz s (by omega) (by omega) (by rw [hby]; omega)
      rw [hr] at this
      injection this with this _
      subst this
      exact .inr rfl
  · by_cases hroom : n + s.size ≤ cap
    · have hcs' : cur.size = cap := by simpa using hcs
      have := Lib.run_append_room_string (P := P) w t u ty e i ht hu hi hsize g n cap cur hg s hroom (by omega)
      rw [hr] at this
      injection this with this _
      subst this
      exact .inl rfl
    · have := Lib.run_append_grow_string (P := P) w t u ty e i (.int .u8 0) ht hu hi hz ⟨g, 0, none⟩ n cap xs (by rw [hsize]; simpa using hxl) (hown.cells (g := g) rfl) s (by omega) (by omega) (by rw [hby]; exact growslice_fits (by omega) (by omega))
      rw [hr] at this
      injection this with this _
      subst this
      exact .inr rfl
theorem step_append_str {ops : Array Oper} {o : Oper} {a : Act} {K : Act → World → Prop} {Q : Exit → Act → World → Prop} {E : Prop} (hgd : o.guard = none) (sl x : Operand) (t u : TypeId)
    (ho : o.op = .call { callee := .builtin .append, args := #[sl, x], argTypes := #[t, u] })
    (base : Nat) (e : TypeId) (i : TypeInfo) (ht : P.underlying t = some (.slice e)) (hu : P.underlying u = some .string) (hi : P.info? e = some i) (hz : i.zero = some (.int .u8 0))
    (hsize : i.size = 1) (hby : i.bytes = 1)
    (v : Value) (n : Nat) (xs : List Value) (hs : a.eval sl = v) (hown : w.ownsRow base e 1 v n xs) (s : ByteArray) (hx : a.eval x = .string s)
    (h63 : n + s.size ≤ maxLen) (hbytes : n + s.size ≤ 140737488355328) (hbase : base ≤ w.heap.size)
    (h : ∀ v' w', w'.ownsRow base e 1 v' (n + s.size) (xs ++ Lib.strCells s) → w.grownBy w' v.ownBlock → (v' = .slice none 0 0 ↔ v = .slice none 0 0 ∧ s.size = 0) → (v'.ownBlock = v.ownBlock ∨ v'.ownBlock = some w.heap.size) → K (a.put o.dst v') w') :
    if Region.wanted o (yielded ops a.tmps) = true then Oper.wp P o a w K Q else E := by
  have hw : Region.wanted o (yielded ops a.tmps) = true := by simp [Region.wanted, hgd]
  rw [if_pos hw]
  obtain ⟨v', w', hr, h2, h3, h4, h5⟩ := run_append_str_at (P := P) w base t u o.type e i ht hu hi hz hsize hby v n xs hown s h63 hbytes hbase
  unfold Oper.wp execOp
  simp only [ho, resolve, invoke, builtin, Sem.run_bind, Sem.run_pure, Result.andThen_ok, List.map_toArray, List.map_cons, List.map_nil, hs, hx, hr]
  exact h v' w' h2 h3 h4 h5
end

/-- As Ats.grownG, what is appended may be nothing. -/
theorem Ats.grownS {w0 w w' : World} {M : List (Nat × List C)} {K R : List (Nat × Obj)} {T : TypeId} {sz : Nat} {v v' : Value} {n m : Nat} {xs xs' : List Value} (A : Ats w0 w M (R ++ K)) (h : RowG T sz R v n xs)
    (hown : w'.ownsRow w0.heap.size T sz v' (n + m) xs') (hgr : w.grownBy w' v.ownBlock) (hnil : v' = .slice none 0 0 ↔ v = .slice none 0 0 ∧ m = 0) (hob : v'.ownBlock = v.ownBlock ∨ v'.ownBlock = some w.heap.size) :
    ∃ R', RowG T sz R' v' (n + m) xs' ∧ Ats w0 w' M (R' ++ K) := by
  by_cases hm : 0 < m
  · exact A.grownG h hown hgr hob hm
  obtain rfl : m = 0 := by omega
  obtain ⟨hl, ⟨rfl, h0⟩ | ⟨g', cap', cur', rfl, hg0, hg', c1, c2, c3, c4⟩⟩ := hown
  · obtain ⟨rfl, -⟩ := hnil.1 rfl
    rcases h with ⟨-, rfl, rfl, rfl⟩ | ⟨g, cap, cur, hv, -⟩
    · refine ⟨[], .inl ⟨rfl, rfl, ?_, rfl⟩, ?_⟩
      · exact List.eq_nil_of_length_eq_zero (by simpa using hl)
      · exact A.pure (Chg.grown (Chg.refl NoB w) hgr (fun k hk => by simp [Value.ownBlock] at hk))
    · simp at hv
  refine ⟨[(g', .cells cur' T)], .inr ⟨g', cap', cur', rfl, rfl, c1, c2, c3, c4, hl⟩, ?_⟩
  rcases h with ⟨rfl, rfl, rfl, rfl⟩ | ⟨g, cap, cur, rfl, rfl, -⟩
  · have C1 : Chg NoB w w' := Chg.grown (Chg.refl NoB w) hgr (fun k hk => by simp [Value.ownBlock] at hk)
    refine A.got C1 hg' ?_
    rcases hob with e | e
    · simp [Value.ownBlock] at e
    · simp [Value.ownBlock] at e; omega
  · have C1 : Chg (· = g) w w' := Chg.grown (Chg.refl (· = g) w) hgr (fun k hk => by simp [Value.ownBlock] at hk; exact .inl hk.symm)
    refine Ats.renewG A C1 hg' ?_
    rcases hob with e | e
    · simp [Value.ownBlock] at e; exact .inl e
    · simp [Value.ownBlock] at e; exact .inr (by omega)
end Go.Proofs.Ytgllgemjfpiogaa
