/- tympanlaw11.HeapPlays: the region that picks two objects, apart. -/
import Derived.Test.YthkhdbinkcgpgaaZHplayb
namespace Go.Proofs.Ythkhdbinkcgpgaa
open Go.RowKit

/-- A region of a code, by its number. -/
def reg (n : Nat) : Code → Option Code
  | .region i ops b => match Nat.beq i n with
    | true => some (.region i ops b)
    | false => none
  | .seq a b => match reg n a with
    | some c => some c
    | none => reg n b
  | .cond _ a b => match reg n a with
    | some c => some c
    | none => reg n b
  | .block _ c => reg n c
  | .loop c => reg n c
  | _ => none
/-- A post that is of the ordinary end alone. -/
def NPK (K : Act → World → Prop) : Exit → Act → World → Prop
  | .normal, a, w => K a w
  | _, _, _ => False
theorem npk_then {K : Act → World → Prop} {Q : Exit → Act → World → Prop} {code : Code} {a : Act} {w : World} (h : code.wp Try.prog (NPK K) a w) : code.wp Try.prog (Exit.then K Q) a w :=
  Code.wp_mono (fun e a w h => by cases e <;> first | exact h | exact h.elim) h
set_option maxRecDepth 100000 in
set_option maxHeartbeats 40000000 in
theorem picks (code : Code) (hcode : (Try.f3.body).bind (reg 13) = some code) {t0 t1 t2 t3 t4 t5 t6 t7 t8 t10 t12 t13 t14 t15 t16 t17 t18 t19 t20 t21 t22 t23 t24 t25 t26 t27 t28 t29 t30 t31 t32 t33 t34 t35 t36 t37 t38 t39 t40 t41 t42 t43 t44 t45 t46 t47 t48 t49 t50 t51 t52 t53 t54 t55 t56 t57 t58 t59 t60 t61 t62 t63 t64 t65 t66 t67 t68 t69 t70 t71 t72 t73 t74 t75 t76 t77 t78 t79 t80 t81 t82 t83 t84 t85 t86 t87 t88 t89 t90 t91 t92 t93 t94 t95 t96 t97 t98 t99 t100 t101 t102 t103 t104 t105 t106 t107 t108 t109 t110 t111 t112 t113 t114 t115 t116 t117 t118 t119 t120 t121 t122 t123 t124 t125 t126 t127 t128 t129 t130 t131 t132 t133 t134 t135 t136 t137 t138 t139 t140 t141 t142 t143 t144 t145 t146 t147 t148 t149 t150 t151 t152 t153 t154 t155 t156 t157 t158 t159 t160 t161 t162 t163 t164 t165 t166 t167 t168 t169 t170 t171 t172 t173 t174 t175 t176 t177 t178 t179 t180 t181 t182 t183 t184 t185 t186 t187 t188 t189 t190 t191 t192 t193 t194 t195 t196 t197 t198 t199 t200 t201 t202 t203 t204 t205 t206 t207 t208 t209 t210 t211 t212 t213 t214 : Value} {w5 : World} {b11 na c9 : Nat} {a9 : Option Addr} {sw sa sb sn sm ok on op ol uk un up ul dk dn dp dl : Int} {ox ux dx : Bool} {ss os us ds : ByteArray}
    (HPA : Hid (∀ W, Chg NoB w5 W → Calls Try.prog 9 #[.slice a9 na c9, .int .i64 sa, O.val ⟨ok, ox, on, op, ol, os⟩] W fun e w' => e = .returned (O.val ⟨uk, ux, un, up, ul, us⟩) ∧ Chg NoB W w'))
    (HPB : Hid (∀ W, Chg NoB w5 W → Calls Try.prog 9 #[.slice a9 na c9, .int .i64 sb, O.val ⟨ok, ox, on, op, ol, os⟩] W fun e w' => e = .returned (O.val ⟨dk, dx, dn, dp, dl, ds⟩) ∧ Chg NoB W w'))
    (hbs : w5.heap[b11]? = some (Obj.cells #[.int .i64 sw, .int .i64 sa, .int .i64 sb, .int .i64 sn, .int .i64 sm, .string ss, .int .i64 ok, .bool ox, .int .i64 on, .int .i64 op, .int .i64 ol, .string os] 35))
    (K' : Act → World → Prop) (hK : ∀ (s12 s13 u53 u54 u55 u56 u57 u58 u59 u60 u61 u62 u63 u64 : Value) (wx : World), HP2 w5 ⟨uk, ux, un, up, ul, us⟩ ⟨dk, dx, dn, dp, dl, ds⟩ s12 s13 wx → K' { tmps := #[t0, t1, t2, t3, t4, t5, t6, t7, t8, .slice a9 na c9, t10, .pointer (some ⟨b11, 0, none⟩), s12, s13, t14, t15, t16, t17, t18, t19, t20, t21, t22, t23, t24, t25, t26, t27, t28, t29, t30, t31, t32, t33, t34, t35, t36, t37, t38, t39, t40, t41, t42, t43, t44, t45, t46, t47, t48, t49, t50, t51, t52, u53, u54, u55, u56, u57, u58, u59, u60, u61, u62, u63, u64, t65, t66, t67, t68, t69, t70, t71, t72, t73, t74, t75, t76, t77, t78, t79, t80, t81, t82, t83, t84, t85, t86, t87, t88, t89, t90, t91, t92, t93, t94, t95, t96, t97, t98, t99, t100, t101, t102, t103, t104, t105, t106, t107, t108, t109, t110, t111, t112, t113, t114, t115, t116, t117, t118, t119, t120, t121, t122, t123, t124, t125, t126, t127, t128, t129, t130, t131, t132, t133, t134, t135, t136, t137, t138, t139, t140, t141, t142, t143, t144, t145, t146, t147, t148, t149, t150, t151, t152, t153, t154, t155, t156, t157, t158, t159, t160, t161, t162, t163, t164, t165, t166, t167, t168, t169, t170, t171, t172, t173, t174, t175, t176, t177, t178, t179, t180, t181, t182, t183, t184, t185, t186, t187, t188, t189, t190, t191, t192, t193, t194, t195, t196, t197, t198, t199, t200, t201, t202, t203, t204, t205, t206, t207, t208, t209, t210, t211, t212, t213, t214], defers := [] } wx) :
    code.wp Try.prog (NPK K') { tmps := #[t0, t1, t2, t3, t4, t5, t6, t7, t8, .slice a9 na c9, t10, .pointer (some ⟨b11, 0, none⟩), t12, t13, t14, t15, t16, t17, t18, t19, t20, t21, t22, t23, t24, t25, t26, t27, t28, t29, t30, t31, t32, t33, t34, t35, t36, t37, t38, t39, t40, t41, t42, t43, t44, t45, t46, t47, t48, t49, t50, t51, t52, t53, t54, t55, t56, t57, t58, t59, t60, t61, t62, t63, t64, t65, t66, t67, t68, t69, t70, t71, t72, t73, t74, t75, t76, t77, t78, t79, t80, t81, t82, t83, t84, t85, t86, t87, t88, t89, t90, t91, t92, t93, t94, t95, t96, t97, t98, t99, t100, t101, t102, t103, t104, t105, t106, t107, t108, t109, t110, t111, t112, t113, t114, t115, t116, t117, t118, t119, t120, t121, t122, t123, t124, t125, t126, t127, t128, t129, t130, t131, t132, t133, t134, t135, t136, t137, t138, t139, t140, t141, t142, t143, t144, t145, t146, t147, t148, t149, t150, t151, t152, t153, t154, t155, t156, t157, t158, t159, t160, t161, t162, t163, t164, t165, t166, t167, t168, t169, t170, t171, t172, t173, t174, t175, t176, t177, t178, t179, t180, t181, t182, t183, t184, t185, t186, t187, t188, t189, t190, t191, t192, t193, t194, t195, t196, t197, t198, t199, t200, t201, t202, t203, t204, t205, t206, t207, t208, t209, t210, t211, t212, t213, t214], defers := [] } w5 := by
  have h : (Try.f3.body).bind (reg 13) = some _ := rfl
  obtain rfl := Option.some.inj (hcode.symm.trans h)
  clear h hcode
  have Q5 := Chg.cells (S := NoB) hbs id
  have X5 := Chg.refl NoB w5
  go_region_held3 (fun w' => Chg NoB w5 w') (first | (with_reducible assumption) | (repeat' (first | (with_reducible assumption) | (with_reducible refine Chg.drew ?_) | (with_reducible refine Chg.alloc ?_ _) | (with_reducible refine Chg.setCell ?_ (Or.inr ?_) _) | omega | (dsimp only; omega))))
    (first
    | (go_at_call 9; with_reducible refine (HPA.out _ (by with_reducible assumption)).mono ?_; rintro r w6 ⟨rfl, X6⟩; have X56 : Chg NoB w5 w6 := Chg.pure (by with_reducible assumption) X6; have s6 := X56.size; (try (have bp := X6.blk (b := w5.heap.size) (x := Obj.cells #[.int .i64 0, .bool false, .int .i64 0, .int .i64 0, .int .i64 0, .string ⟨#[]⟩] 24) (by with_reducible first | exact blk_new w5 _ | exact blk_drew (blk_new w5 _) | exact blk_alloc (blk_new w5 _) _ | exact blk_drew (blk_alloc (blk_new w5 _) _)) id; have yp := blk_lt bp; have Rp := cells_of bp; have Zp := free_of bp)); (try (have bq := X6.blk (b := w5.heap.size + 1) (x := Obj.cells #[.int .i64 0, .bool false, .int .i64 0, .int .i64 0, .int .i64 0, .string ⟨#[]⟩] 24) (by with_reducible first | exact blk_new1 w5 _ _ | exact blk_drew (blk_new1 w5 _ _)) id; have yq := blk_lt bq; have Rq := cells_of bq; have Zq := free_of bq)))
    | (go_at_call 9; with_reducible refine (HPB.out _ (by with_reducible assumption)).mono ?_; rintro r w7 ⟨rfl, X7⟩; have X57 : Chg NoB w5 w7 := Chg.pure (by with_reducible assumption) X7; have s7 := X57.size; (try (have bu := X7.blk (b := w5.heap.size) (x := Obj.cells #[.int .i64 0, .bool false, .int .i64 0, .int .i64 0, .int .i64 0, .string ⟨#[]⟩] 24) (by with_reducible first | exact bp | exact blk_drew (bp) | exact blk_alloc bp _ | exact blk_drew (blk_alloc bp _) | exact blk_alloc (blk_alloc bp _) _ | exact blk_drew (blk_alloc (blk_alloc bp _) _)) id; have yu := blk_lt bu; have Ru := cells_of bu; have Zu := free_of bu)); (try (have bv := X7.blk (b := w5.heap.size + 1) (x := Obj.cells #[.int .i64 0, .bool false, .int .i64 0, .int .i64 0, .int .i64 0, .string ⟨#[]⟩] 24) (by with_reducible first | exact bq | exact blk_drew (bq) | exact blk_alloc bq _ | exact blk_drew (blk_alloc bq _) | exact blk_alloc (blk_alloc bq _) _ | exact blk_drew (blk_alloc (blk_alloc bq _) _)) id; have yv := blk_lt bv; have Rv := cells_of bv; have Zv := free_of bv)); (try (have bm := X7.blk (b := w6.heap.size) (x := Obj.cells #[.int .i64 0, .bool false, .int .i64 0, .int .i64 0, .int .i64 0, .string ⟨#[]⟩] 24) (by with_reducible first | exact blk_new w6 _ | exact blk_drew (blk_new w6 _) | exact blk_alloc (blk_new w6 _) _ | exact blk_drew (blk_alloc (blk_new w6 _) _)) id; have ym := blk_lt bm; have Rm := cells_of bm; have Zm := free_of bm)); (try (have bn := X7.blk (b := w6.heap.size + 1) (x := Obj.cells #[.int .i64 0, .bool false, .int .i64 0, .int .i64 0, .int .i64 0, .string ⟨#[]⟩] 24) (by with_reducible first | exact blk_new1 w6 _ _ | exact blk_drew (blk_new1 w6 _ _)) id; have yn := blk_lt bn; have Rn := cells_of bn; have Zn := free_of bn))))
  all_goals
    show K' _ _
  · refine hK _ _ _ _ _ _ _ _ _ _ _ _ _ _ _ ⟨_, _, rfl, rfl, by omega, by omega, by omega, by with_reducible assumption, (blk_alloc (blk_new _ _) _), (blk_new1 _ _ _)⟩
  · refine hK _ _ _ _ _ _ _ _ _ _ _ _ _ _ _ ⟨_, _, rfl, rfl, by omega, by omega, by omega, by with_reducible assumption, (blk_new1 _ _ _), (blk_alloc (blk_new _ _) _)⟩
  · refine hK _ _ _ _ _ _ _ _ _ _ _ _ _ _ _ ⟨_, _, rfl, rfl, by omega, by omega, by omega, by with_reducible assumption, (blk_alloc (six_blk bm _ _ _ _ _ _) _), (six_new _ _ _ _ _ _ _)⟩
  · refine hK _ _ _ _ _ _ _ _ _ _ _ _ _ _ _ ⟨_, _, rfl, rfl, by omega, by omega, by omega, by with_reducible assumption, (six_other (six_blk bm _ _ _ _ _ _) (by omega) _ _ _ _ _ _), (six_blk (six_other bn (by omega) _ _ _ _ _ _) _ _ _ _ _ _)⟩
  · refine hK _ _ _ _ _ _ _ _ _ _ _ _ _ _ _ ⟨_, _, rfl, rfl, by omega, by omega, by omega, by with_reducible assumption, (six_new _ _ _ _ _ _ _), (blk_alloc (six_blk bm _ _ _ _ _ _) _)⟩
  · refine hK _ _ _ _ _ _ _ _ _ _ _ _ _ _ _ ⟨_, _, rfl, rfl, by omega, by omega, by omega, by with_reducible assumption, (six_other (six_blk bn _ _ _ _ _ _) (by omega) _ _ _ _ _ _), (six_blk (six_other bm (by omega) _ _ _ _ _ _) _ _ _ _ _ _)⟩
  · refine hK _ _ _ _ _ _ _ _ _ _ _ _ _ _ _ ⟨_, _, rfl, rfl, by omega, by omega, by omega, by with_reducible assumption, (blk_alloc (six_blk bu _ _ _ _ _ _) _), (six_new _ _ _ _ _ _ _)⟩
  · refine hK _ _ _ _ _ _ _ _ _ _ _ _ _ _ _ ⟨_, _, rfl, rfl, by omega, by omega, by omega, by with_reducible assumption, (six_other (six_blk bu _ _ _ _ _ _) (by omega) _ _ _ _ _ _), (six_blk (six_other bm (by omega) _ _ _ _ _ _) _ _ _ _ _ _)⟩
  · refine hK _ _ _ _ _ _ _ _ _ _ _ _ _ _ _ ⟨_, _, rfl, rfl, by omega, by omega, by omega, by with_reducible assumption, (six_other (six_blk bu _ _ _ _ _ _) (by omega) _ _ _ _ _ _), (six_blk (six_other bv (by omega) _ _ _ _ _ _) _ _ _ _ _ _)⟩
  · refine hK _ _ _ _ _ _ _ _ _ _ _ _ _ _ _ ⟨_, _, rfl, rfl, by omega, by omega, by omega, by with_reducible assumption, (six_new _ _ _ _ _ _ _), (blk_alloc (six_blk bu _ _ _ _ _ _) _)⟩
  · refine hK _ _ _ _ _ _ _ _ _ _ _ _ _ _ _ ⟨_, _, rfl, rfl, by omega, by omega, by omega, by with_reducible assumption, (six_other (six_blk bm _ _ _ _ _ _) (by omega) _ _ _ _ _ _), (six_blk (six_other bu (by omega) _ _ _ _ _ _) _ _ _ _ _ _)⟩
  · refine hK _ _ _ _ _ _ _ _ _ _ _ _ _ _ _ ⟨_, _, rfl, rfl, by omega, by omega, by omega, by with_reducible assumption, (six_other (six_blk bv _ _ _ _ _ _) (by omega) _ _ _ _ _ _), (six_blk (six_other bu (by omega) _ _ _ _ _ _) _ _ _ _ _ _)⟩
end Go.Proofs.Ythkhdbinkcgpgaa
