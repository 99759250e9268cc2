/-
  The code over plain views of functions 43:1, 40:1.
-/
import Derived.Test.YtdkancgcefklfaaG1
namespace Go.Proofs.Ytdkancgcefklfaa
open Go.RowKit
@[reducible] def p43r0 : List GI := [⟨none, .mov ⟨.a, .a, .e⟩ (.k (.sl 0 [] .full))⟩]
@[reducible] def p43r1 : List GI := [⟨none, .mov ⟨.a, .b, .a⟩ (.s ⟨.a, .a, .a⟩)⟩,
  ⟨none, .mov ⟨.a, .b, .b⟩ (.s ⟨.a, .a, .b⟩)⟩,
  ⟨none, .call ⟨.a, .b, .c⟩ 47 [(.s ⟨.a, .b, .a⟩), (.s ⟨.a, .b, .b⟩)]⟩,
  ⟨none, .mov ⟨.a, .a, .f⟩ (.s ⟨.a, .b, .c⟩)⟩]
@[reducible] def p43r2 : List GI := [⟨none, .mov ⟨.a, .b, .d⟩ (.s ⟨.a, .a, .f⟩)⟩,
  ⟨none, .cmp ⟨.a, .b, .e⟩ .eql (.s ⟨.a, .b, .d⟩) (.k (.v (.int .i64 (-1))))⟩]
@[reducible] def p43r3 : List GI := [⟨none, .mov ⟨.a, .b, .f⟩ (.s ⟨.a, .a, .a⟩)⟩,
  ⟨none, .mov ⟨.a, .a, .e⟩ (.s ⟨.a, .b, .f⟩)⟩]
@[reducible] def p43c4 : PC := .seq (.reg p43r3) .ret
@[reducible] def p43c5 : PC := .cond (.s ⟨.a, .b, .e⟩) p43c4 .skip
@[reducible] def p43c6 : PC := .seq (.reg p43r2) p43c5
@[reducible] def p43r7 : List GI := [⟨none, .mov ⟨.a, .b, .g⟩ (.s ⟨.a, .a, .f⟩)⟩,
  ⟨none, .ar ⟨.a, .b, .h⟩ .add .i64 (.s ⟨.a, .b, .g⟩) (.k (.v (.int .i64 1)))⟩,
  ⟨none, .mov ⟨.a, .a, .g⟩ (.s ⟨.a, .b, .h⟩)⟩]
@[reducible] def p43r8 : List GI := [⟨none, .mov ⟨.a, .c, .a⟩ (.s ⟨.a, .a, .g⟩)⟩,
  ⟨none, .mov ⟨.a, .c, .b⟩ (.s ⟨.a, .a, .a⟩)⟩,
  ⟨none, .len ⟨.a, .c, .c⟩ (.s ⟨.a, .c, .b⟩)⟩,
  ⟨none, .cmp ⟨.a, .c, .d⟩ .lss (.s ⟨.a, .c, .a⟩) (.s ⟨.a, .c, .c⟩)⟩]
@[reducible] def p43c9 : PC := .cond (.s ⟨.a, .c, .d⟩) .skip (.exit 0)
@[reducible] def p43c10 : PC := .seq (.reg p43r8) p43c9
@[reducible] def p43r11 : List GI := [⟨none, .mov ⟨.a, .c, .g⟩ (.s ⟨.a, .a, .a⟩)⟩,
  ⟨none, .mov ⟨.a, .c, .h⟩ (.s ⟨.a, .a, .g⟩)⟩,
  ⟨none, .ia ⟨.a, .d, .a⟩ (.s ⟨.a, .c, .g⟩) (.s ⟨.a, .c, .h⟩) 3⟩,
  ⟨none, .ld ⟨.a, .d, .b⟩ 3 true (.s ⟨.a, .d, .a⟩)⟩,
  ⟨none, .new ⟨.a, .a, .h⟩ [(.v (.int .i64 0)), (.v (.int .i64 0)), (.v (.int .i64 0))]⟩,
  ⟨none, .st (.s ⟨.a, .a, .h⟩) (.s ⟨.a, .d, .b⟩) 3⟩]
@[reducible] def p43r12 : List GI := [⟨none, .mov ⟨.a, .d, .c⟩ (.s ⟨.a, .a, .b⟩)⟩,
  ⟨none, .ld ⟨.a, .d, .d⟩ 3 true (.s ⟨.a, .a, .h⟩)⟩,
  ⟨none, .calv ⟨.a, .d, .e⟩ (.s ⟨.a, .d, .c⟩) [(.s ⟨.a, .d, .d⟩)]⟩,
  ⟨none, .not ⟨.a, .d, .f⟩ (.s ⟨.a, .d, .e⟩)⟩]
@[reducible] def p43r13 : List GI := [⟨none, .mov ⟨.a, .d, .g⟩ (.s ⟨.a, .a, .a⟩)⟩,
  ⟨none, .mov ⟨.a, .d, .h⟩ (.s ⟨.a, .a, .f⟩)⟩,
  ⟨none, .ld ⟨.a, .e, .a⟩ 3 true (.s ⟨.a, .a, .h⟩)⟩,
  ⟨none, .ia ⟨.a, .e, .b⟩ (.s ⟨.a, .d, .g⟩) (.s ⟨.a, .d, .h⟩) 3⟩,
  ⟨none, .st (.s ⟨.a, .e, .b⟩) (.s ⟨.a, .e, .a⟩) 3⟩]
@[reducible] def p43r14 : List GI := [⟨none, .mov ⟨.a, .e, .c⟩ (.s ⟨.a, .a, .f⟩)⟩,
  ⟨none, .ar ⟨.a, .e, .d⟩ .add .i64 (.s ⟨.a, .e, .c⟩) (.k (.v (.int .i64 1)))⟩,
  ⟨none, .mov ⟨.a, .a, .f⟩ (.s ⟨.a, .e, .d⟩)⟩]
@[reducible] def p43c15 : PC := .seq (.reg p43r13) (.reg p43r14)
@[reducible] def p43c16 : PC := .cond (.s ⟨.a, .d, .f⟩) p43c15 .skip
@[reducible] def p43c17 : PC := .seq (.reg p43r12) p43c16
@[reducible] def p43c18 : PC := .seq (.reg p43r11) p43c17
@[reducible] def p43c19 : PC := .block 1 p43c18
@[reducible] def p43r20 : List GI := [⟨none, .mov ⟨.a, .c, .e⟩ (.s ⟨.a, .a, .g⟩)⟩,
  ⟨none, .ar ⟨.a, .c, .f⟩ .add .i64 (.s ⟨.a, .c, .e⟩) (.k (.v (.int .i64 1)))⟩,
  ⟨none, .mov ⟨.a, .a, .g⟩ (.s ⟨.a, .c, .f⟩)⟩]
@[reducible] def p43c21 : PC := .seq p43c19 (.reg p43r20)
@[reducible] def p43c22 : PC := .seq p43c10 p43c21
@[reducible] def p43l23 : PC := .loop 1 [⟨.a, .c, .a⟩, ⟨.a, .c, .b⟩, ⟨.a, .c, .c⟩, ⟨.a, .c, .d⟩, ⟨.a, .c, .g⟩, ⟨.a, .c, .h⟩, ⟨.a, .d, .a⟩, ⟨.a, .d, .b⟩, ⟨.a, .a, .h⟩, ⟨.a, .d, .c⟩, ⟨.a, .d, .d⟩, ⟨.a, .d, .e⟩, ⟨.a, .d, .f⟩, ⟨.a, .d, .g⟩, ⟨.a, .d, .h⟩, ⟨.a, .e, .a⟩, ⟨.a, .e, .b⟩, ⟨.a, .e, .c⟩, ⟨.a, .e, .d⟩, ⟨.a, .a, .f⟩, ⟨.a, .c, .e⟩, ⟨.a, .c, .f⟩, ⟨.a, .a, .g⟩] p43c22
@[reducible] def p43c24 : PC := .block 0 p43l23
@[reducible] def p43c25 : PC := .seq (.reg p43r7) p43c24
@[reducible] def p43r26 : List GI := [⟨none, .mov ⟨.a, .e, .e⟩ (.s ⟨.a, .a, .a⟩)⟩,
  ⟨none, .mov ⟨.a, .e, .f⟩ (.s ⟨.a, .a, .f⟩)⟩,
  ⟨none, .slc ⟨.a, .e, .g⟩ (.s ⟨.a, .e, .e⟩) (some (.s ⟨.a, .e, .f⟩)) none none 3⟩,
  ⟨none, .clr (.s ⟨.a, .e, .g⟩) 3 [(.v (.int .i64 0)), (.v (.int .i64 0)), (.v (.int .i64 0))]⟩]
@[reducible] def p43r27 : List GI := [⟨none, .mov ⟨.a, .e, .h⟩ (.s ⟨.a, .a, .a⟩)⟩,
  ⟨none, .mov ⟨.a, .f, .a⟩ (.s ⟨.a, .a, .f⟩)⟩,
  ⟨none, .slc ⟨.a, .f, .b⟩ (.s ⟨.a, .e, .h⟩) none (some (.s ⟨.a, .f, .a⟩)) none 3⟩,
  ⟨none, .mov ⟨.a, .a, .e⟩ (.s ⟨.a, .f, .b⟩)⟩]
@[reducible] def p43c28 : PC := .seq (.reg p43r27) .ret
@[reducible] def p43c29 : PC := .seq (.reg p43r26) p43c28
@[reducible] def p43c30 : PC := .seq p43c25 p43c29
@[reducible] def p43c31 : PC := .seq p43c6 p43c30
@[reducible] def p43c32 : PC := .seq (.reg p43r1) p43c31
@[reducible] def p43c33 : PC := .seq (.reg p43r0) p43c32
def p43 : PFun := ⟨p43c33, [(.t ⟨.a, .a, .e⟩)]⟩
@[simp] theorem p43_b : p43.body = p43c33 := rfl
@[simp] theorem p43_r : p43.res = [(.t ⟨.a, .a, .e⟩)] := rfl
theorem is43 : cFunB Try.prog 1 [] 43 = some p43 := by kernel_rfl
theorem na43 : ((Try.prog.funcs[43]?).map (·.ntmps)).any (2 ≤ ·) = true := by kernel_rfl
@[reducible] def p40r0 : List GI := [⟨none, .mov ⟨.a, .a, .g⟩ (.k (.sl 0 [] .full))⟩]
@[reducible] def p40r1 : List GI := [⟨none, .mov ⟨.a, .b, .a⟩ (.s ⟨.a, .a, .a⟩)⟩,
  ⟨none, .len ⟨.a, .b, .b⟩ (.s ⟨.a, .b, .a⟩)⟩,
  ⟨none, .mov ⟨.a, .b, .c⟩ (.k (.v (.int .i64 0)))⟩]
@[reducible] def p40r2 : List GI := [⟨none, .cmp ⟨.a, .b, .d⟩ .lss (.s ⟨.a, .b, .c⟩) (.s ⟨.a, .b, .b⟩)⟩]
@[reducible] def p40c3 : PC := .cond (.s ⟨.a, .b, .d⟩) .skip (.exit 0)
@[reducible] def p40r4 : List GI := [⟨none, .mov ⟨.a, .b, .e⟩ (.s ⟨.a, .b, .c⟩)⟩,
  ⟨none, .mov ⟨.a, .a, .h⟩ (.s ⟨.a, .b, .e⟩)⟩]
@[reducible] def p40r5 : List GI := [⟨none, .mov ⟨.a, .b, .f⟩ (.s ⟨.a, .a, .a⟩)⟩,
  ⟨none, .mov ⟨.a, .b, .g⟩ (.s ⟨.a, .a, .h⟩)⟩,
  ⟨none, .ia ⟨.a, .b, .h⟩ (.s ⟨.a, .b, .f⟩) (.s ⟨.a, .b, .g⟩) 3⟩,
  ⟨none, .fa ⟨.a, .c, .a⟩ (.s ⟨.a, .b, .h⟩) 0⟩,
  ⟨none, .ld ⟨.a, .c, .b⟩ 1 false (.s ⟨.a, .c, .a⟩)⟩,
  ⟨none, .mov ⟨.a, .c, .c⟩ (.s ⟨.a, .a, .b⟩)⟩,
  ⟨none, .cmp ⟨.a, .c, .d⟩ .geq (.s ⟨.a, .c, .b⟩) (.s ⟨.a, .c, .c⟩)⟩]
@[reducible] def p40r6 : List GI := [⟨none, .mov ⟨.a, .c, .e⟩ (.s ⟨.a, .a, .a⟩)⟩,
  ⟨none, .mov ⟨.a, .c, .f⟩ (.s ⟨.a, .a, .h⟩)⟩,
  ⟨none, .ia ⟨.a, .c, .g⟩ (.s ⟨.a, .c, .e⟩) (.s ⟨.a, .c, .f⟩) 3⟩,
  ⟨none, .fa ⟨.a, .c, .h⟩ (.s ⟨.a, .c, .g⟩) 0⟩,
  ⟨none, .ld ⟨.a, .d, .a⟩ 1 false (.s ⟨.a, .c, .h⟩)⟩,
  ⟨none, .mov ⟨.a, .d, .b⟩ (.s ⟨.a, .a, .c⟩)⟩,
  ⟨none, .ar ⟨.a, .d, .c⟩ .add .i64 (.s ⟨.a, .d, .a⟩) (.s ⟨.a, .d, .b⟩)⟩,
  ⟨none, .ia ⟨.a, .d, .d⟩ (.s ⟨.a, .c, .e⟩) (.s ⟨.a, .c, .f⟩) 3⟩,
  ⟨none, .fa ⟨.a, .d, .e⟩ (.s ⟨.a, .d, .d⟩) 0⟩,
  ⟨none, .st (.s ⟨.a, .d, .e⟩) (.s ⟨.a, .d, .c⟩) 1⟩]
@[reducible] def p40r7 : List GI := [⟨none, .mov ⟨.a, .d, .f⟩ (.s ⟨.a, .a, .a⟩)⟩,
  ⟨none, .mov ⟨.a, .d, .g⟩ (.s ⟨.a, .a, .h⟩)⟩,
  ⟨none, .ia ⟨.a, .d, .h⟩ (.s ⟨.a, .d, .f⟩) (.s ⟨.a, .d, .g⟩) 3⟩,
  ⟨none, .fa ⟨.a, .e, .a⟩ (.s ⟨.a, .d, .h⟩) 1⟩,
  ⟨none, .ld ⟨.a, .e, .b⟩ 1 false (.s ⟨.a, .e, .a⟩)⟩,
  ⟨none, .mov ⟨.a, .e, .c⟩ (.s ⟨.a, .a, .c⟩)⟩,
  ⟨none, .ar ⟨.a, .e, .d⟩ .add .i64 (.s ⟨.a, .e, .b⟩) (.s ⟨.a, .e, .c⟩)⟩,
  ⟨none, .ia ⟨.a, .e, .e⟩ (.s ⟨.a, .d, .f⟩) (.s ⟨.a, .d, .g⟩) 3⟩,
  ⟨none, .fa ⟨.a, .e, .f⟩ (.s ⟨.a, .e, .e⟩) 1⟩,
  ⟨none, .st (.s ⟨.a, .e, .f⟩) (.s ⟨.a, .e, .d⟩) 1⟩]
@[reducible] def p40c8 : PC := .seq (.reg p40r6) (.reg p40r7)
@[reducible] def p40c9 : PC := .cond (.s ⟨.a, .c, .d⟩) p40c8 .skip
@[reducible] def p40c10 : PC := .seq (.reg p40r5) p40c9
@[reducible] def p40c11 : PC := .seq (.reg p40r4) p40c10
@[reducible] def p40c12 : PC := .block 1 p40c11
@[reducible] def p40r13 : List GI := [⟨none, .ar ⟨.a, .e, .g⟩ .add .i64 (.s ⟨.a, .b, .c⟩) (.k (.v (.int .i64 1)))⟩,
  ⟨none, .mov ⟨.a, .b, .c⟩ (.s ⟨.a, .e, .g⟩)⟩]
@[reducible] def p40c14 : PC := .seq p40c12 (.reg p40r13)
@[reducible] def p40c15 : PC := .seq p40c3 p40c14
@[reducible] def p40c16 : PC := .seq (.reg p40r2) p40c15
@[reducible] def p40l17 : PC := .loop 1 [⟨.a, .b, .d⟩, ⟨.a, .b, .e⟩, ⟨.a, .a, .h⟩, ⟨.a, .b, .f⟩, ⟨.a, .b, .g⟩, ⟨.a, .b, .h⟩, ⟨.a, .c, .a⟩, ⟨.a, .c, .b⟩, ⟨.a, .c, .c⟩, ⟨.a, .c, .d⟩, ⟨.a, .c, .e⟩, ⟨.a, .c, .f⟩, ⟨.a, .c, .g⟩, ⟨.a, .c, .h⟩, ⟨.a, .d, .a⟩, ⟨.a, .d, .b⟩, ⟨.a, .d, .c⟩, ⟨.a, .d, .d⟩, ⟨.a, .d, .e⟩, ⟨.a, .d, .f⟩, ⟨.a, .d, .g⟩, ⟨.a, .d, .h⟩, ⟨.a, .e, .a⟩, ⟨.a, .e, .b⟩, ⟨.a, .e, .c⟩, ⟨.a, .e, .d⟩, ⟨.a, .e, .e⟩, ⟨.a, .e, .f⟩, ⟨.a, .e, .g⟩, ⟨.a, .b, .c⟩] p40c16
@[reducible] def p40c18 : PC := .block 0 p40l17
@[reducible] def p40c19 : PC := .seq (.reg p40r1) p40c18
@[reducible] def p40r20 : List GI := [⟨none, .mov ⟨.a, .e, .h⟩ (.s ⟨.a, .a, .a⟩)⟩,
  ⟨none, .mov ⟨.a, .a, .g⟩ (.s ⟨.a, .e, .h⟩)⟩]
@[reducible] def p40c21 : PC := .seq (.reg p40r20) .ret
@[reducible] def p40c22 : PC := .seq p40c19 p40c21
@[reducible] def p40c23 : PC := .seq (.reg p40r0) p40c22
def p40 : PFun := ⟨p40c23, [(.t ⟨.a, .a, .g⟩)]⟩
@[simp] theorem p40_b : p40.body = p40c23 := rfl
@[simp] theorem p40_r : p40.res = [(.t ⟨.a, .a, .g⟩)] := rfl
theorem is40 : cFunB Try.prog 1 [] 40 = some p40 := by kernel_rfl
theorem na40 : ((Try.prog.funcs[40]?).map (·.ntmps)).any (3 ≤ ·) = true := by kernel_rfl
end Go.Proofs.Ytdkancgcefklfaa
