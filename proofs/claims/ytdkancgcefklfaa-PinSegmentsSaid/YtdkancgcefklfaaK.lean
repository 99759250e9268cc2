/-
  The code over plain views of functions 10, 11, 13, 14, 15, 17, 19, 21, 22, 23, 24, 25, 26, 27, 39, 44, 28, 31, 38, 34, 30, 33, 37, 41, 42, 36, 32, 47, 16, 3, 4, 5, 6, 7.
-/
import Derived.Test.YtdkancgcefklfaaProg
import Derived.Test.YtdkancgcefklfaaPL
namespace Go.Proofs.Ytdkancgcefklfaa
open Go.RowKit
@[reducible] def p10r0 : List GI := [⟨none, .mov ⟨.a, .a, .e⟩ (.k (.sl 0 [] .full))⟩]
@[reducible] def p10r1 : List GI := [⟨none, .lit ⟨.a, .a, .h⟩ 3 [(.v (.int .i64 0)), (.v (.int .i64 0)), (.v (.int .i64 0))] 0 []⟩,
  ⟨none, .mov ⟨.a, .a, .f⟩ (.s ⟨.a, .a, .h⟩)⟩]
@[reducible] def p10r2 : List GI := [⟨none, .mov ⟨.a, .a, .g⟩ (.k (.v (.int .i64 0)))⟩]
@[reducible] def p10r3 : List GI := [⟨none, .mov ⟨.a, .b, .a⟩ (.s ⟨.a, .a, .g⟩)⟩,
  ⟨none, .mov ⟨.a, .b, .b⟩ (.s ⟨.a, .a, .a⟩)⟩,
  ⟨none, .len ⟨.a, .b, .c⟩ (.s ⟨.a, .b, .b⟩)⟩,
  ⟨none, .cmp ⟨.a, .b, .d⟩ .lss (.s ⟨.a, .b, .a⟩) (.s ⟨.a, .b, .c⟩)⟩,
  ⟨none, .mov ⟨.a, .b, .e⟩ (.s ⟨.a, .b, .d⟩)⟩,
  ⟨some (⟨.a, .b, .e⟩, true), .mov ⟨.a, .b, .f⟩ (.s ⟨.a, .a, .g⟩)⟩,
  ⟨some (⟨.a, .b, .e⟩, true), .cmp ⟨.a, .b, .g⟩ .lss (.s ⟨.a, .b, .f⟩) (.k (.v (.int .i64 5)))⟩,
  ⟨none, .pick ⟨.a, .b, .h⟩ (.s ⟨.a, .b, .e⟩) (.s ⟨.a, .b, .g⟩) (.k (.v (.bool false)))⟩]
@[reducible] def p10c4 : PC := .cond (.s ⟨.a, .b, .h⟩) .skip (.exit 0)
@[reducible] def p10c5 : PC := .seq (.reg p10r3) p10c4
@[reducible] def p10r6 : List GI := [⟨none, .mov ⟨.a, .c, .d⟩ (.s ⟨.a, .a, .f⟩)⟩,
  ⟨none, .mov ⟨.a, .c, .e⟩ (.s ⟨.a, .a, .a⟩)⟩,
  ⟨none, .mov ⟨.a, .c, .f⟩ (.s ⟨.a, .a, .g⟩)⟩,
  ⟨none, .ia ⟨.a, .c, .g⟩ (.s ⟨.a, .c, .e⟩) (.s ⟨.a, .c, .f⟩) 3⟩,
  ⟨none, .ld ⟨.a, .c, .h⟩ 3 true (.s ⟨.a, .c, .g⟩)⟩,
  ⟨none, .mov ⟨.a, .d, .a⟩ (.s ⟨.a, .a, .b⟩)⟩,
  ⟨none, .call ⟨.a, .d, .b⟩ 22 [(.s ⟨.a, .c, .h⟩), (.s ⟨.a, .d, .a⟩)]⟩,
  ⟨none, .mov ⟨.a, .d, .c⟩ (.s ⟨.a, .a, .b⟩)⟩,
  ⟨none, .call ⟨.a, .d, .d⟩ 13 [(.s ⟨.a, .c, .d⟩), (.s ⟨.a, .d, .b⟩), (.s ⟨.a, .d, .c⟩)]⟩,
  ⟨none, .mov ⟨.a, .c, .c⟩ (.s ⟨.a, .d, .d⟩)⟩,
  ⟨none, .ext ⟨.a, .d, .e⟩ (.s ⟨.a, .c, .c⟩) 0⟩,
  ⟨none, .ext ⟨.a, .d, .f⟩ (.s ⟨.a, .c, .c⟩) 1⟩,
  ⟨none, .mov ⟨.a, .a, .f⟩ (.s ⟨.a, .d, .e⟩)⟩]
@[reducible] def p10c7 : PC := .block 1 (.reg p10r6)
@[reducible] def p10r8 : List GI := [⟨none, .mov ⟨.a, .c, .a⟩ (.s ⟨.a, .a, .g⟩)⟩,
  ⟨none, .ar ⟨.a, .c, .b⟩ .add .i64 (.s ⟨.a, .c, .a⟩) (.k (.v (.int .i64 1)))⟩,
  ⟨none, .mov ⟨.a, .a, .g⟩ (.s ⟨.a, .c, .b⟩)⟩]
@[reducible] def p10c9 : PC := .seq p10c7 (.reg p10r8)
@[reducible] def p10c10 : PC := .seq p10c5 p10c9
@[reducible] def p10l11 : PC := .loop 0 [⟨.a, .b, .a⟩, ⟨.a, .b, .b⟩, ⟨.a, .b, .c⟩, ⟨.a, .b, .d⟩, ⟨.a, .b, .e⟩, ⟨.a, .b, .f⟩, ⟨.a, .b, .g⟩, ⟨.a, .b, .h⟩, ⟨.a, .c, .d⟩, ⟨.a, .c, .e⟩, ⟨.a, .c, .f⟩, ⟨.a, .c, .g⟩, ⟨.a, .c, .h⟩, ⟨.a, .d, .a⟩, ⟨.a, .d, .b⟩, ⟨.a, .d, .c⟩, ⟨.a, .d, .d⟩, ⟨.a, .c, .c⟩, ⟨.a, .d, .e⟩, ⟨.a, .d, .f⟩, ⟨.a, .a, .f⟩, ⟨.a, .c, .a⟩, ⟨.a, .c, .b⟩, ⟨.a, .a, .g⟩] p10c10
@[reducible] def p10c12 : PC := .block 0 p10l11
@[reducible] def p10c13 : PC := .seq (.reg p10r2) p10c12
@[reducible] def p10r14 : List GI := [⟨none, .mov ⟨.a, .d, .g⟩ (.s ⟨.a, .a, .f⟩)⟩,
  ⟨none, .mov ⟨.a, .a, .e⟩ (.s ⟨.a, .d, .g⟩)⟩]
@[reducible] def p10c15 : PC := .seq (.reg p10r14) .ret
@[reducible] def p10c16 : PC := .seq p10c13 p10c15
@[reducible] def p10c17 : PC := .seq (.reg p10r1) p10c16
@[reducible] def p10c18 : PC := .seq (.reg p10r0) p10c17
def p10 : PFun := ⟨p10c18, [(.t ⟨.a, .a, .e⟩)]⟩
@[simp] theorem p10_b : p10.body = p10c18 := rfl
@[simp] theorem p10_r : p10.res = [(.t ⟨.a, .a, .e⟩)] := rfl
theorem is10 : cFunB Try.prog 0 [] 10 = some p10 := by kernel_rfl
theorem na10 : ((Try.prog.funcs[10]?).map (·.ntmps)).any (2 ≤ ·) = true := by kernel_rfl
@[reducible] def p11r0 : List GI := [⟨none, .new ⟨.a, .a, .e⟩ [(.v (.int .i64 0)), (.sl 0 [] .full)]⟩]
@[reducible] def p11r1 : List GI := [⟨none, .mov ⟨.a, .b, .e⟩ (.s ⟨.a, .a, .b⟩)⟩,
  ⟨none, .bld ⟨.a, .b, .f⟩ [(.v (.int .i64 0)), (.sl 0 [] .full)] [(0, 1, (.s ⟨.a, .b, .e⟩))]⟩,
  ⟨none, .new ⟨.a, .a, .f⟩ [(.v (.int .i64 0)), (.sl 0 [] .full)]⟩,
  ⟨none, .st (.s ⟨.a, .a, .f⟩) (.s ⟨.a, .b, .f⟩) 2⟩]
@[reducible] def p11r2 : List GI := [⟨none, .mov ⟨.a, .a, .g⟩ (.k (.v (.int .i64 0)))⟩]
@[reducible] def p11r3 : List GI := [⟨none, .mov ⟨.a, .b, .g⟩ (.s ⟨.a, .a, .g⟩)⟩,
  ⟨none, .mov ⟨.a, .b, .h⟩ (.s ⟨.a, .a, .b⟩)⟩,
  ⟨none, .cmp ⟨.a, .c, .a⟩ .lss (.s ⟨.a, .b, .g⟩) (.s ⟨.a, .b, .h⟩)⟩]
@[reducible] def p11c4 : PC := .cond (.s ⟨.a, .c, .a⟩) .skip (.exit 0)
@[reducible] def p11c5 : PC := .seq (.reg p11r3) p11c4
@[reducible] def p11r6 : List GI := [⟨none, .mov ⟨.a, .c, .d⟩ (.s ⟨.a, .a, .g⟩)⟩,
  ⟨none, .ar ⟨.a, .c, .e⟩ .add .i64 (.s ⟨.a, .c, .d⟩) (.k (.v (.int .i64 1)))⟩,
  ⟨none, .mov ⟨.a, .a, .h⟩ (.s ⟨.a, .c, .e⟩)⟩]
@[reducible] def p11r7 : List GI := [⟨none, .mov ⟨.a, .c, .f⟩ (.s ⟨.a, .a, .h⟩)⟩,
  ⟨none, .mov ⟨.a, .c, .g⟩ (.s ⟨.a, .a, .b⟩)⟩,
  ⟨none, .cmp ⟨.a, .c, .h⟩ .leq (.s ⟨.a, .c, .f⟩) (.s ⟨.a, .c, .g⟩)⟩]
@[reducible] def p11c8 : PC := .cond (.s ⟨.a, .c, .h⟩) .skip (.exit 2)
@[reducible] def p11c9 : PC := .seq (.reg p11r7) p11c8
@[reducible] def p11r10 : List GI := [⟨none, .mov ⟨.a, .b, .a⟩ (.k (.v (.int .i64 0)))⟩]
@[reducible] def p11r11 : List GI := [⟨none, .mov ⟨.a, .d, .c⟩ (.s ⟨.a, .b, .a⟩)⟩,
  ⟨none, .cmp ⟨.a, .d, .d⟩ .lss (.s ⟨.a, .d, .c⟩) (.k (.v (.int .i64 3)))⟩]
@[reducible] def p11c12 : PC := .cond (.s ⟨.a, .d, .d⟩) .skip (.exit 4)
@[reducible] def p11c13 : PC := .seq (.reg p11r11) p11c12
@[reducible] def p11r14 : List GI := [⟨none, .mov ⟨.a, .b, .b⟩ (.k (.v (.bool false)))⟩]
@[reducible] def p11r15 : List GI := [⟨none, .mov ⟨.a, .b, .c⟩ (.k (.v (.int .i64 0)))⟩]
@[reducible] def p11r16 : List GI := [⟨none, .mov ⟨.a, .d, .g⟩ (.s ⟨.a, .b, .c⟩)⟩,
  ⟨none, .mov ⟨.a, .d, .h⟩ (.s ⟨.a, .a, .a⟩)⟩,
  ⟨none, .len ⟨.a, .e, .a⟩ (.s ⟨.a, .d, .h⟩)⟩,
  ⟨none, .cmp ⟨.a, .e, .b⟩ .lss (.s ⟨.a, .d, .g⟩) (.s ⟨.a, .e, .a⟩)⟩,
  ⟨none, .mov ⟨.a, .e, .c⟩ (.s ⟨.a, .e, .b⟩)⟩,
  ⟨some (⟨.a, .e, .c⟩, true), .mov ⟨.a, .e, .d⟩ (.s ⟨.a, .b, .c⟩)⟩,
  ⟨some (⟨.a, .e, .c⟩, true), .cmp ⟨.a, .e, .e⟩ .lss (.s ⟨.a, .e, .d⟩) (.k (.v (.int .i64 14)))⟩,
  ⟨none, .pick ⟨.a, .e, .f⟩ (.s ⟨.a, .e, .c⟩) (.s ⟨.a, .e, .e⟩) (.k (.v (.bool false)))⟩]
@[reducible] def p11c17 : PC := .cond (.s ⟨.a, .e, .f⟩) .skip (.exit 6)
@[reducible] def p11c18 : PC := .seq (.reg p11r16) p11c17
@[reducible] def p11r19 : List GI := [⟨none, .mov ⟨.a, .f, .a⟩ (.s ⟨.a, .a, .a⟩)⟩,
  ⟨none, .mov ⟨.a, .f, .b⟩ (.s ⟨.a, .b, .c⟩)⟩,
  ⟨none, .ia ⟨.a, .f, .c⟩ (.s ⟨.a, .f, .a⟩) (.s ⟨.a, .f, .b⟩) 3⟩,
  ⟨none, .ld ⟨.a, .f, .d⟩ 3 true (.s ⟨.a, .f, .c⟩)⟩,
  ⟨none, .mov ⟨.a, .f, .e⟩ (.s ⟨.a, .a, .b⟩)⟩,
  ⟨none, .call ⟨.a, .f, .f⟩ 22 [(.s ⟨.a, .f, .d⟩), (.s ⟨.a, .f, .e⟩)]⟩,
  ⟨none, .new ⟨.a, .b, .d⟩ [(.v (.int .i64 0)), (.v (.int .i64 0)), (.v (.int .i64 0))]⟩,
  ⟨none, .st (.s ⟨.a, .b, .d⟩) (.s ⟨.a, .f, .f⟩) 3⟩]
@[reducible] def p11r20 : List GI := [⟨none, .mov ⟨.a, .f, .g⟩ (.s ⟨.a, .b, .b⟩)⟩,
  ⟨none, .mov ⟨.a, .f, .h⟩ (.s ⟨.a, .f, .g⟩)⟩,
  ⟨some (⟨.a, .f, .h⟩, false), .fa ⟨.a, .g, .a⟩ (.s ⟨.a, .b, .d⟩) 0⟩,
  ⟨some (⟨.a, .f, .h⟩, false), .ld ⟨.a, .g, .b⟩ 1 false (.s ⟨.a, .g, .a⟩)⟩,
  ⟨some (⟨.a, .f, .h⟩, false), .mov ⟨.a, .g, .c⟩ (.s ⟨.a, .a, .g⟩)⟩,
  ⟨some (⟨.a, .f, .h⟩, false), .cmp ⟨.a, .g, .d⟩ .eql (.s ⟨.a, .g, .b⟩) (.s ⟨.a, .g, .c⟩)⟩,
  ⟨some (⟨.a, .f, .h⟩, false), .mov ⟨.a, .g, .e⟩ (.s ⟨.a, .g, .d⟩)⟩,
  ⟨some (⟨.a, .g, .e⟩, true), .fa ⟨.a, .g, .f⟩ (.s ⟨.a, .b, .d⟩) 1⟩,
  ⟨some (⟨.a, .g, .e⟩, true), .ld ⟨.a, .g, .g⟩ 1 false (.s ⟨.a, .g, .f⟩)⟩,
  ⟨some (⟨.a, .g, .e⟩, true), .mov ⟨.a, .g, .h⟩ (.s ⟨.a, .a, .h⟩)⟩,
  ⟨some (⟨.a, .g, .e⟩, true), .cmp ⟨.a, .h, .a⟩ .eql (.s ⟨.a, .g, .g⟩) (.s ⟨.a, .g, .h⟩)⟩,
  ⟨some (⟨.a, .f, .h⟩, false), .pick ⟨.a, .h, .b⟩ (.s ⟨.a, .g, .e⟩) (.s ⟨.a, .h, .a⟩) (.k (.v (.bool false)))⟩,
  ⟨some (⟨.a, .f, .h⟩, false), .mov ⟨.a, .h, .c⟩ (.s ⟨.a, .h, .b⟩)⟩,
  ⟨some (⟨.a, .h, .c⟩, true), .mov ⟨.a, .h, .d⟩ (.s ⟨.a, .a, .a⟩)⟩,
  ⟨some (⟨.a, .h, .c⟩, true), .mov ⟨.a, .h, .e⟩ (.s ⟨.a, .b, .c⟩)⟩,
  ⟨some (⟨.a, .h, .c⟩, true), .ia ⟨.a, .h, .f⟩ (.s ⟨.a, .h, .d⟩) (.s ⟨.a, .h, .e⟩) 3⟩,
  ⟨some (⟨.a, .h, .c⟩, true), .iap ⟨.a, .h, .g⟩ (.s ⟨.a, .h, .f⟩) (.k (.v (.int .i64 2))) 1 3⟩,
  ⟨some (⟨.a, .h, .c⟩, true), .ld ⟨.a, .h, .h⟩ 1 false (.s ⟨.a, .h, .g⟩)⟩,
  ⟨some (⟨.a, .h, .c⟩, true), .cvi ⟨.b, .a, .a⟩ .i64 (.s ⟨.a, .h, .h⟩)⟩,
  ⟨some (⟨.a, .h, .c⟩, true), .dv ⟨.b, .a, .b⟩ .rem .i64 (.s ⟨.b, .a, .a⟩) (.k (.v (.int .i64 3)))⟩,
  ⟨some (⟨.a, .h, .c⟩, true), .mov ⟨.b, .a, .c⟩ (.s ⟨.a, .b, .a⟩)⟩,
  ⟨some (⟨.a, .h, .c⟩, true), .cmp ⟨.b, .a, .d⟩ .eql (.s ⟨.b, .a, .b⟩) (.s ⟨.b, .a, .c⟩)⟩,
  ⟨some (⟨.a, .f, .h⟩, false), .pick ⟨.b, .a, .e⟩ (.s ⟨.a, .h, .c⟩) (.s ⟨.b, .a, .d⟩) (.k (.v (.bool false)))⟩,
  ⟨none, .pick ⟨.b, .a, .f⟩ (.s ⟨.a, .f, .h⟩) (.k (.v (.bool true))) (.s ⟨.b, .a, .e⟩)⟩,
  ⟨none, .mov ⟨.a, .b, .b⟩ (.s ⟨.b, .a, .f⟩)⟩]
@[reducible] def p11c21 : PC := .seq (.reg p11r19) (.reg p11r20)
@[reducible] def p11c22 : PC := .block 7 p11c21
@[reducible] def p11r23 : List GI := [⟨none, .mov ⟨.a, .e, .g⟩ (.s ⟨.a, .b, .c⟩)⟩,
  ⟨none, .ar ⟨.a, .e, .h⟩ .add .i64 (.s ⟨.a, .e, .g⟩) (.k (.v (.int .i64 1)))⟩,
  ⟨none, .mov ⟨.a, .b, .c⟩ (.s ⟨.a, .e, .h⟩)⟩]
@[reducible] def p11c24 : PC := .seq p11c22 (.reg p11r23)
@[reducible] def p11c25 : PC := .seq p11c18 p11c24
@[reducible] def p11l26 : PC := .loop 0 [⟨.a, .d, .g⟩, ⟨.a, .d, .h⟩, ⟨.a, .e, .a⟩, ⟨.a, .e, .b⟩, ⟨.a, .e, .c⟩, ⟨.a, .e, .d⟩, ⟨.a, .e, .e⟩, ⟨.a, .e, .f⟩, ⟨.a, .f, .a⟩, ⟨.a, .f, .b⟩, ⟨.a, .f, .c⟩, ⟨.a, .f, .d⟩, ⟨.a, .f, .e⟩, ⟨.a, .f, .f⟩, ⟨.a, .b, .d⟩, ⟨.a, .f, .g⟩, ⟨.a, .f, .h⟩, ⟨.a, .g, .a⟩, ⟨.a, .g, .b⟩, ⟨.a, .g, .c⟩, ⟨.a, .g, .d⟩, ⟨.a, .g, .e⟩, ⟨.a, .g, .f⟩, ⟨.a, .g, .g⟩, ⟨.a, .g, .h⟩, ⟨.a, .h, .a⟩, ⟨.a, .h, .b⟩, ⟨.a, .h, .c⟩, ⟨.a, .h, .d⟩, ⟨.a, .h, .e⟩, ⟨.a, .h, .f⟩, ⟨.a, .h, .g⟩, ⟨.a, .h, .h⟩, ⟨.b, .a, .a⟩, ⟨.b, .a, .b⟩, ⟨.b, .a, .c⟩, ⟨.b, .a, .d⟩, ⟨.b, .a, .e⟩, ⟨.b, .a, .f⟩, ⟨.a, .b, .b⟩, ⟨.a, .e, .g⟩, ⟨.a, .e, .h⟩, ⟨.a, .b, .c⟩] p11c25
@[reducible] def p11c27 : PC := .block 6 p11l26
@[reducible] def p11c28 : PC := .seq (.reg p11r15) p11c27
@[reducible] def p11r29 : List GI := [⟨none, .mov ⟨.b, .a, .g⟩ (.s ⟨.a, .b, .b⟩)⟩]
@[reducible] def p11r30 : List GI := [⟨none, .fa ⟨.b, .a, .h⟩ (.s ⟨.a, .a, .f⟩) 1⟩,
  ⟨none, .ld ⟨.b, .b, .a⟩ 1 false (.s ⟨.b, .a, .h⟩)⟩,
  ⟨none, .mov ⟨.b, .b, .b⟩ (.s ⟨.a, .a, .g⟩)⟩,
  ⟨none, .mov ⟨.b, .b, .c⟩ (.s ⟨.a, .a, .h⟩)⟩,
  ⟨none, .mov ⟨.b, .b, .d⟩ (.s ⟨.a, .b, .a⟩)⟩,
  ⟨none, .mov ⟨.b, .b, .e⟩ (.s ⟨.a, .a, .g⟩)⟩,
  ⟨none, .mov ⟨.b, .b, .f⟩ (.s ⟨.a, .b, .a⟩)⟩,
  ⟨none, .ar ⟨.b, .b, .g⟩ .add .i64 (.s ⟨.b, .b, .e⟩) (.s ⟨.b, .b, .f⟩)⟩,
  ⟨none, .bld ⟨.b, .b, .h⟩ [(.v (.int .i64 0)), (.v (.int .i64 0)), (.v (.int .i64 0)), (.v (.int .i64 0))] [(0, 1, (.s ⟨.b, .b, .b⟩)), (1, 1, (.s ⟨.b, .b, .c⟩)), (2, 1, (.s ⟨.b, .b, .d⟩)), (3, 1, (.s ⟨.b, .b, .g⟩))]⟩,
  ⟨none, .lit ⟨.b, .c, .a⟩ 4 [(.v (.int .i64 0)), (.v (.int .i64 0)), (.v (.int .i64 0)), (.v (.int .i64 0))] 1 [(0, (.s ⟨.b, .b, .h⟩))]⟩,
  ⟨none, .app ⟨.b, .c, .b⟩ (.s ⟨.b, .b, .a⟩) (.s ⟨.b, .c, .a⟩) 4 32 0 49⟩,
  ⟨none, .fa ⟨.b, .c, .c⟩ (.s ⟨.a, .a, .f⟩) 1⟩,
  ⟨none, .st (.s ⟨.b, .c, .c⟩) (.s ⟨.b, .c, .b⟩) 1⟩]
@[reducible] def p11c31 : PC := .cond (.s ⟨.b, .a, .g⟩) (.reg p11r30) .skip
@[reducible] def p11c32 : PC := .seq (.reg p11r29) p11c31
@[reducible] def p11c33 : PC := .seq p11c28 p11c32
@[reducible] def p11c34 : PC := .seq (.reg p11r14) p11c33
@[reducible] def p11c35 : PC := .block 5 p11c34
@[reducible] def p11r36 : List GI := [⟨none, .mov ⟨.a, .d, .e⟩ (.s ⟨.a, .b, .a⟩)⟩,
  ⟨none, .ar ⟨.a, .d, .f⟩ .add .i64 (.s ⟨.a, .d, .e⟩) (.k (.v (.int .i64 1)))⟩,
  ⟨none, .mov ⟨.a, .b, .a⟩ (.s ⟨.a, .d, .f⟩)⟩]
@[reducible] def p11c37 : PC := .seq p11c35 (.reg p11r36)
@[reducible] def p11c38 : PC := .seq p11c13 p11c37
@[reducible] def p11l39 : PC := .loop 0 [⟨.a, .d, .c⟩, ⟨.a, .d, .d⟩, ⟨.a, .b, .b⟩, ⟨.a, .b, .c⟩, ⟨.a, .d, .g⟩, ⟨.a, .d, .h⟩, ⟨.a, .e, .a⟩, ⟨.a, .e, .b⟩, ⟨.a, .e, .c⟩, ⟨.a, .e, .d⟩, ⟨.a, .e, .e⟩, ⟨.a, .e, .f⟩, ⟨.a, .f, .a⟩, ⟨.a, .f, .b⟩, ⟨.a, .f, .c⟩, ⟨.a, .f, .d⟩, ⟨.a, .f, .e⟩, ⟨.a, .f, .f⟩, ⟨.a, .b, .d⟩, ⟨.a, .f, .g⟩, ⟨.a, .f, .h⟩, ⟨.a, .g, .a⟩, ⟨.a, .g, .b⟩, ⟨.a, .g, .c⟩, ⟨.a, .g, .d⟩, ⟨.a, .g, .e⟩, ⟨.a, .g, .f⟩, ⟨.a, .g, .g⟩, ⟨.a, .g, .h⟩, ⟨.a, .h, .a⟩, ⟨.a, .h, .b⟩, ⟨.a, .h, .c⟩, ⟨.a, .h, .d⟩, ⟨.a, .h, .e⟩, ⟨.a, .h, .f⟩, ⟨.a, .h, .g⟩, ⟨.a, .h, .h⟩, ⟨.b, .a, .a⟩, ⟨.b, .a, .b⟩, ⟨.b, .a, .c⟩, ⟨.b, .a, .d⟩, ⟨.b, .a, .e⟩, ⟨.b, .a, .f⟩, ⟨.a, .e, .g⟩, ⟨.a, .e, .h⟩, ⟨.b, .a, .g⟩, ⟨.b, .a, .h⟩, ⟨.b, .b, .a⟩, ⟨.b, .b, .b⟩, ⟨.b, .b, .c⟩, ⟨.b, .b, .d⟩, ⟨.b, .b, .e⟩, ⟨.b, .b, .f⟩, ⟨.b, .b, .g⟩, ⟨.b, .b, .h⟩, ⟨.b, .c, .a⟩, ⟨.b, .c, .b⟩, ⟨.b, .c, .c⟩, ⟨.a, .d, .e⟩, ⟨.a, .d, .f⟩, ⟨.a, .b, .a⟩] p11c38
@[reducible] def p11c40 : PC := .block 4 p11l39
@[reducible] def p11c41 : PC := .seq (.reg p11r10) p11c40
@[reducible] def p11c42 : PC := .block 3 p11c41
@[reducible] def p11r43 : List GI := [⟨none, .mov ⟨.a, .d, .a⟩ (.s ⟨.a, .a, .h⟩)⟩,
  ⟨none, .ar ⟨.a, .d, .b⟩ .add .i64 (.s ⟨.a, .d, .a⟩) (.k (.v (.int .i64 1)))⟩,
  ⟨none, .mov ⟨.a, .a, .h⟩ (.s ⟨.a, .d, .b⟩)⟩]
@[reducible] def p11c44 : PC := .seq p11c42 (.reg p11r43)
@[reducible] def p11c45 : PC := .seq p11c9 p11c44
@[reducible] def p11l46 : PC := .loop 0 [⟨.a, .c, .f⟩, ⟨.a, .c, .g⟩, ⟨.a, .c, .h⟩, ⟨.a, .b, .a⟩, ⟨.a, .d, .c⟩, ⟨.a, .d, .d⟩, ⟨.a, .b, .b⟩, ⟨.a, .b, .c⟩, ⟨.a, .d, .g⟩, ⟨.a, .d, .h⟩, ⟨.a, .e, .a⟩, ⟨.a, .e, .b⟩, ⟨.a, .e, .c⟩, ⟨.a, .e, .d⟩, ⟨.a, .e, .e⟩, ⟨.a, .e, .f⟩, ⟨.a, .f, .a⟩, ⟨.a, .f, .b⟩, ⟨.a, .f, .c⟩, ⟨.a, .f, .d⟩, ⟨.a, .f, .e⟩, ⟨.a, .f, .f⟩, ⟨.a, .b, .d⟩, ⟨.a, .f, .g⟩, ⟨.a, .f, .h⟩, ⟨.a, .g, .a⟩, ⟨.a, .g, .b⟩, ⟨.a, .g, .c⟩, ⟨.a, .g, .d⟩, ⟨.a, .g, .e⟩, ⟨.a, .g, .f⟩, ⟨.a, .g, .g⟩, ⟨.a, .g, .h⟩, ⟨.a, .h, .a⟩, ⟨.a, .h, .b⟩, ⟨.a, .h, .c⟩, ⟨.a, .h, .d⟩, ⟨.a, .h, .e⟩, ⟨.a, .h, .f⟩, ⟨.a, .h, .g⟩, ⟨.a, .h, .h⟩, ⟨.b, .a, .a⟩, ⟨.b, .a, .b⟩, ⟨.b, .a, .c⟩, ⟨.b, .a, .d⟩, ⟨.b, .a, .e⟩, ⟨.b, .a, .f⟩, ⟨.a, .e, .g⟩, ⟨.a, .e, .h⟩, ⟨.b, .a, .g⟩, ⟨.b, .a, .h⟩, ⟨.b, .b, .a⟩, ⟨.b, .b, .b⟩, ⟨.b, .b, .c⟩, ⟨.b, .b, .d⟩, ⟨.b, .b, .e⟩, ⟨.b, .b, .f⟩, ⟨.b, .b, .g⟩, ⟨.b, .b, .h⟩, ⟨.b, .c, .a⟩, ⟨.b, .c, .b⟩, ⟨.b, .c, .c⟩, ⟨.a, .d, .e⟩, ⟨.a, .d, .f⟩, ⟨.a, .d, .a⟩, ⟨.a, .d, .b⟩, ⟨.a, .a, .h⟩] p11c45
@[reducible] def p11c47 : PC := .block 2 p11l46
@[reducible] def p11c48 : PC := .seq (.reg p11r6) p11c47
@[reducible] def p11c49 : PC := .block 1 p11c48
@[reducible] def p11r50 : List GI := [⟨none, .mov ⟨.a, .c, .b⟩ (.s ⟨.a, .a, .g⟩)⟩,
  ⟨none, .ar ⟨.a, .c, .c⟩ .add .i64 (.s ⟨.a, .c, .b⟩) (.k (.v (.int .i64 1)))⟩,
  ⟨none, .mov ⟨.a, .a, .g⟩ (.s ⟨.a, .c, .c⟩)⟩]
@[reducible] def p11c51 : PC := .seq p11c49 (.reg p11r50)
@[reducible] def p11c52 : PC := .seq p11c5 p11c51
@[reducible] def p11l53 : PC := .loop 0 [⟨.a, .b, .g⟩, ⟨.a, .b, .h⟩, ⟨.a, .c, .a⟩, ⟨.a, .c, .d⟩, ⟨.a, .c, .e⟩, ⟨.a, .a, .h⟩, ⟨.a, .c, .f⟩, ⟨.a, .c, .g⟩, ⟨.a, .c, .h⟩, ⟨.a, .b, .a⟩, ⟨.a, .d, .c⟩, ⟨.a, .d, .d⟩, ⟨.a, .b, .b⟩, ⟨.a, .b, .c⟩, ⟨.a, .d, .g⟩, ⟨.a, .d, .h⟩, ⟨.a, .e, .a⟩, ⟨.a, .e, .b⟩, ⟨.a, .e, .c⟩, ⟨.a, .e, .d⟩, ⟨.a, .e, .e⟩, ⟨.a, .e, .f⟩, ⟨.a, .f, .a⟩, ⟨.a, .f, .b⟩, ⟨.a, .f, .c⟩, ⟨.a, .f, .d⟩, ⟨.a, .f, .e⟩, ⟨.a, .f, .f⟩, ⟨.a, .b, .d⟩, ⟨.a, .f, .g⟩, ⟨.a, .f, .h⟩, ⟨.a, .g, .a⟩, ⟨.a, .g, .b⟩, ⟨.a, .g, .c⟩, ⟨.a, .g, .d⟩, ⟨.a, .g, .e⟩, ⟨.a, .g, .f⟩, ⟨.a, .g, .g⟩, ⟨.a, .g, .h⟩, ⟨.a, .h, .a⟩, ⟨.a, .h, .b⟩, ⟨.a, .h, .c⟩, ⟨.a, .h, .d⟩, ⟨.a, .h, .e⟩, ⟨.a, .h, .f⟩, ⟨.a, .h, .g⟩, ⟨.a, .h, .h⟩, ⟨.b, .a, .a⟩, ⟨.b, .a, .b⟩, ⟨.b, .a, .c⟩, ⟨.b, .a, .d⟩, ⟨.b, .a, .e⟩, ⟨.b, .a, .f⟩, ⟨.a, .e, .g⟩, ⟨.a, .e, .h⟩, ⟨.b, .a, .g⟩, ⟨.b, .a, .h⟩, ⟨.b, .b, .a⟩, ⟨.b, .b, .b⟩, ⟨.b, .b, .c⟩, ⟨.b, .b, .d⟩, ⟨.b, .b, .e⟩, ⟨.b, .b, .f⟩, ⟨.b, .b, .g⟩, ⟨.b, .b, .h⟩, ⟨.b, .c, .a⟩, ⟨.b, .c, .b⟩, ⟨.b, .c, .c⟩, ⟨.a, .d, .e⟩, ⟨.a, .d, .f⟩, ⟨.a, .d, .a⟩, ⟨.a, .d, .b⟩, ⟨.a, .c, .b⟩, ⟨.a, .c, .c⟩, ⟨.a, .a, .g⟩] p11c52
@[reducible] def p11c54 : PC := .block 0 p11l53
@[reducible] def p11c55 : PC := .seq (.reg p11r2) p11c54
@[reducible] def p11r56 : List GI := [⟨none, .ld ⟨.b, .c, .d⟩ 2 true (.s ⟨.a, .a, .f⟩)⟩,
  ⟨none, .st (.s ⟨.a, .a, .e⟩) (.s ⟨.b, .c, .d⟩) 2⟩]
@[reducible] def p11c57 : PC := .seq (.reg p11r56) .ret
@[reducible] def p11c58 : PC := .seq p11c55 p11c57
@[reducible] def p11c59 : PC := .seq (.reg p11r1) p11c58
@[reducible] def p11c60 : PC := .seq (.reg p11r0) p11c59
def p11 : PFun := ⟨p11c60, [(.c ⟨.a, .a, .e⟩ 2 true)]⟩
@[simp] theorem p11_b : p11.body = p11c60 := rfl
@[simp] theorem p11_r : p11.res = [(.c ⟨.a, .a, .e⟩ 2 true)] := rfl
theorem is11 : cFunB Try.prog 0 [] 11 = some p11 := by kernel_rfl
theorem na11 : ((Try.prog.funcs[11]?).map (·.ntmps)).any (2 ≤ ·) = true := by kernel_rfl
@[reducible] def p13r0 : List GI := [⟨none, .box ⟨.a, .a, .e⟩ (.s ⟨.a, .a, .b⟩)⟩,
  ⟨none, .mov ⟨.a, .a, .g⟩ (.k (.sl 0 [] .full))⟩,
  ⟨none, .mov ⟨.a, .a, .h⟩ (.k (.v (.int .i64 0)))⟩]
@[reducible] def p13r1 : List GI := [⟨none, .mov ⟨.a, .b, .d⟩ (.s ⟨.a, .a, .a⟩)⟩,
  ⟨none, .mov ⟨.a, .b, .e⟩ (.s ⟨.a, .a, .c⟩)⟩,
  ⟨none, .call ⟨.a, .b, .f⟩ 23 [(.s ⟨.a, .b, .d⟩), (.s ⟨.a, .b, .e⟩)]⟩,
  ⟨none, .not ⟨.a, .b, .g⟩ (.s ⟨.a, .b, .f⟩)⟩,
  ⟨none, .mov ⟨.a, .b, .h⟩ (.s ⟨.a, .b, .g⟩)⟩,
  ⟨some (⟨.a, .b, .h⟩, false), .ld ⟨.a, .c, .a⟩ 3 true (.s ⟨.a, .a, .e⟩)⟩,
  ⟨some (⟨.a, .b, .h⟩, false), .lit ⟨.a, .c, .b⟩ 3 [(.v (.int .i64 0)), (.v (.int .i64 0)), (.v (.int .i64 0))] 1 [(0, (.s ⟨.a, .c, .a⟩))]⟩,
  ⟨some (⟨.a, .b, .h⟩, false), .mov ⟨.a, .c, .c⟩ (.s ⟨.a, .a, .c⟩)⟩,
  ⟨some (⟨.a, .b, .h⟩, false), .call ⟨.a, .c, .d⟩ 23 [(.s ⟨.a, .c, .b⟩), (.s ⟨.a, .c, .c⟩)]⟩,
  ⟨some (⟨.a, .b, .h⟩, false), .not ⟨.a, .c, .e⟩ (.s ⟨.a, .c, .d⟩)⟩,
  ⟨none, .pick ⟨.a, .c, .f⟩ (.s ⟨.a, .b, .h⟩) (.k (.v (.bool true))) (.s ⟨.a, .c, .e⟩)⟩]
@[reducible] def p13r2 : List GI := [⟨none, .mov ⟨.a, .a, .g⟩ (.k (.sl 0 [] .full))⟩,
  ⟨none, .mov ⟨.a, .a, .h⟩ (.k (.v (.int .i64 180)))⟩]
@[reducible] def p13c3 : PC := .seq (.reg p13r2) .ret
@[reducible] def p13c4 : PC := .cond (.s ⟨.a, .c, .f⟩) p13c3 .skip
@[reducible] def p13c5 : PC := .seq (.reg p13r1) p13c4
@[reducible] def p13r6 : List GI := [⟨none, .lit ⟨.a, .c, .g⟩ 3 [(.v (.int .i64 0)), (.v (.int .i64 0)), (.v (.int .i64 0))] 0 []⟩,
  ⟨none, .mov ⟨.a, .b, .a⟩ (.s ⟨.a, .c, .g⟩)⟩,
  ⟨none, .mov ⟨.a, .b, .b⟩ (.k (.v (.bool false)))⟩]
@[reducible] def p13r7 : List GI := [⟨none, .mov ⟨.a, .b, .c⟩ (.k (.v (.int .i64 0)))⟩]
@[reducible] def p13r8 : List GI := [⟨none, .mov ⟨.a, .c, .h⟩ (.s ⟨.a, .b, .c⟩)⟩,
  ⟨none, .mov ⟨.a, .d, .a⟩ (.s ⟨.a, .a, .a⟩)⟩,
  ⟨none, .len ⟨.a, .d, .b⟩ (.s ⟨.a, .d, .a⟩)⟩,
  ⟨none, .cmp ⟨.a, .d, .c⟩ .lss (.s ⟨.a, .c, .h⟩) (.s ⟨.a, .d, .b⟩)⟩]
@[reducible] def p13c9 : PC := .cond (.s ⟨.a, .d, .c⟩) .skip (.exit 0)
@[reducible] def p13c10 : PC := .seq (.reg p13r8) p13c9
@[reducible] def p13r11 : List GI := [⟨none, .mov ⟨.a, .d, .f⟩ (.s ⟨.a, .b, .b⟩)⟩,
  ⟨none, .not ⟨.a, .d, .g⟩ (.s ⟨.a, .d, .f⟩)⟩,
  ⟨none, .mov ⟨.a, .d, .h⟩ (.s ⟨.a, .d, .g⟩)⟩,
  ⟨some (⟨.a, .d, .h⟩, true), .mov ⟨.a, .e, .a⟩ (.s ⟨.a, .a, .a⟩)⟩,
  ⟨some (⟨.a, .d, .h⟩, true), .mov ⟨.a, .e, .b⟩ (.s ⟨.a, .b, .c⟩)⟩,
  ⟨some (⟨.a, .d, .h⟩, true), .ia ⟨.a, .e, .c⟩ (.s ⟨.a, .e, .a⟩) (.s ⟨.a, .e, .b⟩) 3⟩,
  ⟨some (⟨.a, .d, .h⟩, true), .fa ⟨.a, .e, .d⟩ (.s ⟨.a, .e, .c⟩) 0⟩,
  ⟨some (⟨.a, .d, .h⟩, true), .ld ⟨.a, .e, .e⟩ 1 false (.s ⟨.a, .e, .d⟩)⟩,
  ⟨some (⟨.a, .d, .h⟩, true), .fa ⟨.a, .e, .f⟩ (.s ⟨.a, .a, .e⟩) 0⟩,
  ⟨some (⟨.a, .d, .h⟩, true), .ld ⟨.a, .e, .g⟩ 1 false (.s ⟨.a, .e, .f⟩)⟩,
  ⟨some (⟨.a, .d, .h⟩, true), .cmp ⟨.a, .e, .h⟩ .geq (.s ⟨.a, .e, .e⟩) (.s ⟨.a, .e, .g⟩)⟩,
  ⟨none, .pick ⟨.a, .f, .a⟩ (.s ⟨.a, .d, .h⟩) (.s ⟨.a, .e, .h⟩) (.k (.v (.bool false)))⟩]
@[reducible] def p13r12 : List GI := [⟨none, .mov ⟨.a, .f, .b⟩ (.s ⟨.a, .b, .a⟩)⟩,
  ⟨none, .ld ⟨.a, .f, .c⟩ 3 true (.s ⟨.a, .a, .e⟩)⟩,
  ⟨none, .lit ⟨.a, .f, .d⟩ 3 [(.v (.int .i64 0)), (.v (.int .i64 0)), (.v (.int .i64 0))] 1 [(0, (.s ⟨.a, .f, .c⟩))]⟩,
  ⟨none, .app ⟨.a, .f, .e⟩ (.s ⟨.a, .f, .b⟩) (.s ⟨.a, .f, .d⟩) 3 24 0 33⟩,
  ⟨none, .mov ⟨.a, .b, .a⟩ (.s ⟨.a, .f, .e⟩)⟩]
@[reducible] def p13r13 : List GI := [⟨none, .mov ⟨.a, .b, .b⟩ (.k (.v (.bool true)))⟩]
@[reducible] def p13c14 : PC := .seq (.reg p13r12) (.reg p13r13)
@[reducible] def p13c15 : PC := .cond (.s ⟨.a, .f, .a⟩) p13c14 .skip
@[reducible] def p13c16 : PC := .seq (.reg p13r11) p13c15
@[reducible] def p13r17 : List GI := [⟨none, .mov ⟨.a, .f, .f⟩ (.s ⟨.a, .a, .a⟩)⟩,
  ⟨none, .mov ⟨.a, .f, .g⟩ (.s ⟨.a, .b, .c⟩)⟩,
  ⟨none, .ia ⟨.a, .f, .h⟩ (.s ⟨.a, .f, .f⟩) (.s ⟨.a, .f, .g⟩) 3⟩,
  ⟨none, .ld ⟨.a, .g, .a⟩ 3 true (.s ⟨.a, .f, .h⟩)⟩,
  ⟨none, .ld ⟨.a, .g, .b⟩ 3 true (.s ⟨.a, .a, .e⟩)⟩,
  ⟨none, .call ⟨.a, .g, .c⟩ 25 [(.s ⟨.a, .g, .a⟩), (.s ⟨.a, .g, .b⟩)]⟩,
  ⟨none, .not ⟨.a, .g, .d⟩ (.s ⟨.a, .g, .c⟩)⟩]
@[reducible] def p13r18 : List GI := [⟨none, .mov ⟨.a, .g, .e⟩ (.s ⟨.a, .b, .a⟩)⟩,
  ⟨none, .mov ⟨.a, .g, .f⟩ (.s ⟨.a, .a, .a⟩)⟩,
  ⟨none, .mov ⟨.a, .g, .g⟩ (.s ⟨.a, .b, .c⟩)⟩,
  ⟨none, .ia ⟨.a, .g, .h⟩ (.s ⟨.a, .g, .f⟩) (.s ⟨.a, .g, .g⟩) 3⟩,
  ⟨none, .ld ⟨.a, .h, .a⟩ 3 true (.s ⟨.a, .g, .h⟩)⟩,
  ⟨none, .lit ⟨.a, .h, .b⟩ 3 [(.v (.int .i64 0)), (.v (.int .i64 0)), (.v (.int .i64 0))] 1 [(0, (.s ⟨.a, .h, .a⟩))]⟩,
  ⟨none, .app ⟨.a, .h, .c⟩ (.s ⟨.a, .g, .e⟩) (.s ⟨.a, .h, .b⟩) 3 24 0 33⟩,
  ⟨none, .mov ⟨.a, .b, .a⟩ (.s ⟨.a, .h, .c⟩)⟩]
@[reducible] def p13c19 : PC := .cond (.s ⟨.a, .g, .d⟩) (.reg p13r18) .skip
@[reducible] def p13c20 : PC := .seq (.reg p13r17) p13c19
@[reducible] def p13c21 : PC := .seq p13c16 p13c20
@[reducible] def p13c22 : PC := .block 1 p13c21
@[reducible] def p13r23 : List GI := [⟨none, .mov ⟨.a, .d, .d⟩ (.s ⟨.a, .b, .c⟩)⟩,
  ⟨none, .ar ⟨.a, .d, .e⟩ .add .i64 (.s ⟨.a, .d, .d⟩) (.k (.v (.int .i64 1)))⟩,
  ⟨none, .mov ⟨.a, .b, .c⟩ (.s ⟨.a, .d, .e⟩)⟩]
@[reducible] def p13c24 : PC := .seq p13c22 (.reg p13r23)
@[reducible] def p13c25 : PC := .seq p13c10 p13c24
@[reducible] def p13l26 : PC := .loop 0 [⟨.a, .c, .h⟩, ⟨.a, .d, .a⟩, ⟨.a, .d, .b⟩, ⟨.a, .d, .c⟩, ⟨.a, .d, .f⟩, ⟨.a, .d, .g⟩, ⟨.a, .d, .h⟩, ⟨.a, .e, .a⟩, ⟨.a, .e, .b⟩, ⟨.a, .e, .c⟩, ⟨.a, .e, .d⟩, ⟨.a, .e, .e⟩, ⟨.a, .e, .f⟩, ⟨.a, .e, .g⟩, ⟨.a, .e, .h⟩, ⟨.a, .f, .a⟩, ⟨.a, .f, .b⟩, ⟨.a, .f, .c⟩, ⟨.a, .f, .d⟩, ⟨.a, .f, .e⟩, ⟨.a, .b, .a⟩, ⟨.a, .b, .b⟩, ⟨.a, .f, .f⟩, ⟨.a, .f, .g⟩, ⟨.a, .f, .h⟩, ⟨.a, .g, .a⟩, ⟨.a, .g, .b⟩, ⟨.a, .g, .c⟩, ⟨.a, .g, .d⟩, ⟨.a, .g, .e⟩, ⟨.a, .g, .f⟩, ⟨.a, .g, .g⟩, ⟨.a, .g, .h⟩, ⟨.a, .h, .a⟩, ⟨.a, .h, .b⟩, ⟨.a, .h, .c⟩, ⟨.a, .d, .d⟩, ⟨.a, .d, .e⟩, ⟨.a, .b, .c⟩] p13c25
@[reducible] def p13c27 : PC := .block 0 p13l26
@[reducible] def p13c28 : PC := .seq (.reg p13r7) p13c27
@[reducible] def p13r29 : List GI := [⟨none, .mov ⟨.a, .h, .d⟩ (.s ⟨.a, .b, .b⟩)⟩,
  ⟨none, .not ⟨.a, .h, .e⟩ (.s ⟨.a, .h, .d⟩)⟩]
@[reducible] def p13r30 : List GI := [⟨none, .mov ⟨.a, .h, .f⟩ (.s ⟨.a, .b, .a⟩)⟩,
  ⟨none, .ld ⟨.a, .h, .g⟩ 3 true (.s ⟨.a, .a, .e⟩)⟩,
  ⟨none, .lit ⟨.a, .h, .h⟩ 3 [(.v (.int .i64 0)), (.v (.int .i64 0)), (.v (.int .i64 0))] 1 [(0, (.s ⟨.a, .h, .g⟩))]⟩,
  ⟨none, .app ⟨.b, .a, .a⟩ (.s ⟨.a, .h, .f⟩) (.s ⟨.a, .h, .h⟩) 3 24 0 33⟩,
  ⟨none, .mov ⟨.a, .b, .a⟩ (.s ⟨.b, .a, .a⟩)⟩]
@[reducible] def p13c31 : PC := .cond (.s ⟨.a, .h, .e⟩) (.reg p13r30) .skip
@[reducible] def p13c32 : PC := .seq (.reg p13r29) p13c31
@[reducible] def p13r33 : List GI := [⟨none, .mov ⟨.b, .a, .b⟩ (.s ⟨.a, .b, .a⟩)⟩,
  ⟨none, .mov ⟨.a, .a, .g⟩ (.s ⟨.b, .a, .b⟩)⟩,
  ⟨none, .mov ⟨.a, .a, .h⟩ (.k (.v (.int .i64 0)))⟩]
@[reducible] def p13c34 : PC := .seq (.reg p13r33) .ret
@[reducible] def p13c35 : PC := .seq p13c32 p13c34
@[reducible] def p13c36 : PC := .seq p13c28 p13c35
@[reducible] def p13c37 : PC := .seq (.reg p13r6) p13c36
@[reducible] def p13c38 : PC := .seq p13c5 p13c37
@[reducible] def p13c39 : PC := .seq (.reg p13r0) p13c38
def p13 : PFun := ⟨p13c39, [(.t ⟨.a, .a, .g⟩), (.t ⟨.a, .a, .h⟩)]⟩
@[simp] theorem p13_b : p13.body = p13c39 := rfl
@[simp] theorem p13_r : p13.res = [(.t ⟨.a, .a, .g⟩), (.t ⟨.a, .a, .h⟩)] := rfl
theorem is13 : cFunB Try.prog 0 [] 13 = some p13 := by kernel_rfl
theorem na13 : ((Try.prog.funcs[13]?).map (·.ntmps)).any (3 ≤ ·) = true := by kernel_rfl
@[reducible] def p14r0 : List GI := [⟨none, .mov ⟨.a, .a, .e⟩ (.k (.v (.bool false)))⟩]
@[reducible] def p14r1 : List GI := [⟨none, .mov ⟨.a, .a, .g⟩ (.s ⟨.a, .a, .a⟩)⟩,
  ⟨none, .len ⟨.a, .a, .h⟩ (.s ⟨.a, .a, .g⟩)⟩,
  ⟨none, .mov ⟨.a, .b, .a⟩ (.s ⟨.a, .a, .b⟩)⟩,
  ⟨none, .len ⟨.a, .b, .b⟩ (.s ⟨.a, .b, .a⟩)⟩,
  ⟨none, .cmp ⟨.a, .b, .c⟩ .neq (.s ⟨.a, .a, .h⟩) (.s ⟨.a, .b, .b⟩)⟩]
@[reducible] def p14r2 : List GI := [⟨none, .mov ⟨.a, .a, .e⟩ (.k (.v (.bool false)))⟩]
@[reducible] def p14c3 : PC := .seq (.reg p14r2) .ret
@[reducible] def p14c4 : PC := .cond (.s ⟨.a, .b, .c⟩) p14c3 .skip
@[reducible] def p14c5 : PC := .seq (.reg p14r1) p14c4
@[reducible] def p14r6 : List GI := [⟨none, .mov ⟨.a, .a, .f⟩ (.k (.v (.int .i64 0)))⟩]
@[reducible] def p14r7 : List GI := [⟨none, .mov ⟨.a, .b, .d⟩ (.s ⟨.a, .a, .f⟩)⟩,
  ⟨none, .mov ⟨.a, .b, .e⟩ (.s ⟨.a, .a, .a⟩)⟩,
  ⟨none, .len ⟨.a, .b, .f⟩ (.s ⟨.a, .b, .e⟩)⟩,
  ⟨none, .cmp ⟨.a, .b, .g⟩ .lss (.s ⟨.a, .b, .d⟩) (.s ⟨.a, .b, .f⟩)⟩]
@[reducible] def p14c8 : PC := .cond (.s ⟨.a, .b, .g⟩) .skip (.exit 0)
@[reducible] def p14c9 : PC := .seq (.reg p14r7) p14c8
@[reducible] def p14r10 : List GI := [⟨none, .mov ⟨.a, .c, .b⟩ (.s ⟨.a, .a, .a⟩)⟩,
  ⟨none, .mov ⟨.a, .c, .c⟩ (.s ⟨.a, .a, .f⟩)⟩,
  ⟨none, .ia ⟨.a, .c, .d⟩ (.s ⟨.a, .c, .b⟩) (.s ⟨.a, .c, .c⟩) 3⟩,
  ⟨none, .ld ⟨.a, .c, .e⟩ 3 true (.s ⟨.a, .c, .d⟩)⟩,
  ⟨none, .mov ⟨.a, .c, .f⟩ (.s ⟨.a, .a, .b⟩)⟩,
  ⟨none, .mov ⟨.a, .c, .g⟩ (.s ⟨.a, .a, .f⟩)⟩,
  ⟨none, .ia ⟨.a, .c, .h⟩ (.s ⟨.a, .c, .f⟩) (.s ⟨.a, .c, .g⟩) 3⟩,
  ⟨none, .ld ⟨.a, .d, .a⟩ 3 true (.s ⟨.a, .c, .h⟩)⟩,
  ⟨none, .aeq ⟨.a, .d, .b⟩ true [(.i .i64), (.i .i64), (.i .i64)] (.s ⟨.a, .c, .e⟩) (.s ⟨.a, .d, .a⟩)⟩]
@[reducible] def p14r11 : List GI := [⟨none, .mov ⟨.a, .a, .e⟩ (.k (.v (.bool false)))⟩]
@[reducible] def p14c12 : PC := .seq (.reg p14r11) .ret
@[reducible] def p14c13 : PC := .cond (.s ⟨.a, .d, .b⟩) p14c12 .skip
@[reducible] def p14c14 : PC := .seq (.reg p14r10) p14c13
@[reducible] def p14c15 : PC := .block 1 p14c14
@[reducible] def p14r16 : List GI := [⟨none, .mov ⟨.a, .b, .h⟩ (.s ⟨.a, .a, .f⟩)⟩,
  ⟨none, .ar ⟨.a, .c, .a⟩ .add .i64 (.s ⟨.a, .b, .h⟩) (.k (.v (.int .i64 1)))⟩,
  ⟨none, .mov ⟨.a, .a, .f⟩ (.s ⟨.a, .c, .a⟩)⟩]
@[reducible] def p14c17 : PC := .seq p14c15 (.reg p14r16)
@[reducible] def p14c18 : PC := .seq p14c9 p14c17
@[reducible] def p14l19 : PC := .loop 0 [⟨.a, .b, .d⟩, ⟨.a, .b, .e⟩, ⟨.a, .b, .f⟩, ⟨.a, .b, .g⟩, ⟨.a, .c, .b⟩, ⟨.a, .c, .c⟩, ⟨.a, .c, .d⟩, ⟨.a, .c, .e⟩, ⟨.a, .c, .f⟩, ⟨.a, .c, .g⟩, ⟨.a, .c, .h⟩, ⟨.a, .d, .a⟩, ⟨.a, .d, .b⟩, ⟨.a, .a, .e⟩, ⟨.a, .b, .h⟩, ⟨.a, .c, .a⟩, ⟨.a, .a, .f⟩] p14c18
@[reducible] def p14c20 : PC := .block 0 p14l19
@[reducible] def p14c21 : PC := .seq (.reg p14r6) p14c20
@[reducible] def p14r22 : List GI := [⟨none, .mov ⟨.a, .a, .e⟩ (.k (.v (.bool true)))⟩]
@[reducible] def p14c23 : PC := .seq (.reg p14r22) .ret
@[reducible] def p14c24 : PC := .seq p14c21 p14c23
@[reducible] def p14c25 : PC := .seq p14c5 p14c24
@[reducible] def p14c26 : PC := .seq (.reg p14r0) p14c25
def p14 : PFun := ⟨p14c26, [(.t ⟨.a, .a, .e⟩)]⟩
@[simp] theorem p14_b : p14.body = p14c26 := rfl
@[simp] theorem p14_r : p14.res = [(.t ⟨.a, .a, .e⟩)] := rfl
theorem is14 : cFunB Try.prog 0 [] 14 = some p14 := by kernel_rfl
theorem na14 : ((Try.prog.funcs[14]?).map (·.ntmps)).any (2 ≤ ·) = true := by kernel_rfl
@[reducible] def p15r0 : List GI := [⟨none, .box ⟨.a, .a, .c⟩ (.s ⟨.a, .a, .a⟩)⟩,
  ⟨none, .box ⟨.a, .a, .d⟩ (.s ⟨.a, .a, .b⟩)⟩,
  ⟨none, .mov ⟨.a, .a, .e⟩ (.k (.v (.bool false)))⟩]
@[reducible] def p15r1 : List GI := [⟨none, .fa ⟨.a, .a, .g⟩ (.s ⟨.a, .a, .c⟩) 0⟩,
  ⟨none, .ld ⟨.a, .a, .h⟩ 1 false (.s ⟨.a, .a, .g⟩)⟩,
  ⟨none, .fa ⟨.a, .b, .a⟩ (.s ⟨.a, .a, .d⟩) 0⟩,
  ⟨none, .ld ⟨.a, .b, .b⟩ 1 false (.s ⟨.a, .b, .a⟩)⟩,
  ⟨none, .cmp ⟨.a, .b, .c⟩ .neq (.s ⟨.a, .a, .h⟩) (.s ⟨.a, .b, .b⟩)⟩,
  ⟨none, .mov ⟨.a, .b, .d⟩ (.s ⟨.a, .b, .c⟩)⟩,
  ⟨some (⟨.a, .b, .d⟩, false), .fa ⟨.a, .b, .e⟩ (.s ⟨.a, .a, .c⟩) 1⟩,
  ⟨some (⟨.a, .b, .d⟩, false), .ld ⟨.a, .b, .f⟩ 1 false (.s ⟨.a, .b, .e⟩)⟩,
  ⟨some (⟨.a, .b, .d⟩, false), .len ⟨.a, .b, .g⟩ (.s ⟨.a, .b, .f⟩)⟩,
  ⟨some (⟨.a, .b, .d⟩, false), .fa ⟨.a, .b, .h⟩ (.s ⟨.a, .a, .d⟩) 1⟩,
  ⟨some (⟨.a, .b, .d⟩, false), .ld ⟨.a, .c, .a⟩ 1 false (.s ⟨.a, .b, .h⟩)⟩,
  ⟨some (⟨.a, .b, .d⟩, false), .len ⟨.a, .c, .b⟩ (.s ⟨.a, .c, .a⟩)⟩,
  ⟨some (⟨.a, .b, .d⟩, false), .cmp ⟨.a, .c, .c⟩ .neq (.s ⟨.a, .b, .g⟩) (.s ⟨.a, .c, .b⟩)⟩,
  ⟨none, .pick ⟨.a, .c, .d⟩ (.s ⟨.a, .b, .d⟩) (.k (.v (.bool true))) (.s ⟨.a, .c, .c⟩)⟩]
@[reducible] def p15r2 : List GI := [⟨none, .mov ⟨.a, .a, .e⟩ (.k (.v (.bool false)))⟩]
@[reducible] def p15c3 : PC := .seq (.reg p15r2) .ret
@[reducible] def p15c4 : PC := .cond (.s ⟨.a, .c, .d⟩) p15c3 .skip
@[reducible] def p15c5 : PC := .seq (.reg p15r1) p15c4
@[reducible] def p15r6 : List GI := [⟨none, .mov ⟨.a, .a, .f⟩ (.k (.v (.int .i64 0)))⟩]
@[reducible] def p15r7 : List GI := [⟨none, .mov ⟨.a, .c, .e⟩ (.s ⟨.a, .a, .f⟩)⟩,
  ⟨none, .fa ⟨.a, .c, .f⟩ (.s ⟨.a, .a, .c⟩) 1⟩,
  ⟨none, .ld ⟨.a, .c, .g⟩ 1 false (.s ⟨.a, .c, .f⟩)⟩,
  ⟨none, .len ⟨.a, .c, .h⟩ (.s ⟨.a, .c, .g⟩)⟩,
  ⟨none, .cmp ⟨.a, .d, .a⟩ .lss (.s ⟨.a, .c, .e⟩) (.s ⟨.a, .c, .h⟩)⟩]
@[reducible] def p15c8 : PC := .cond (.s ⟨.a, .d, .a⟩) .skip (.exit 0)
@[reducible] def p15c9 : PC := .seq (.reg p15r7) p15c8
@[reducible] def p15r10 : List GI := [⟨none, .fa ⟨.a, .d, .d⟩ (.s ⟨.a, .a, .c⟩) 1⟩,
  ⟨none, .ld ⟨.a, .d, .e⟩ 1 false (.s ⟨.a, .d, .d⟩)⟩,
  ⟨none, .mov ⟨.a, .d, .f⟩ (.s ⟨.a, .a, .f⟩)⟩,
  ⟨none, .ia ⟨.a, .d, .g⟩ (.s ⟨.a, .d, .e⟩) (.s ⟨.a, .d, .f⟩) 4⟩,
  ⟨none, .ld ⟨.a, .d, .h⟩ 4 true (.s ⟨.a, .d, .g⟩)⟩,
  ⟨none, .fa ⟨.a, .e, .a⟩ (.s ⟨.a, .a, .d⟩) 1⟩,
  ⟨none, .ld ⟨.a, .e, .b⟩ 1 false (.s ⟨.a, .e, .a⟩)⟩,
  ⟨none, .mov ⟨.a, .e, .c⟩ (.s ⟨.a, .a, .f⟩)⟩,
  ⟨none, .ia ⟨.a, .e, .d⟩ (.s ⟨.a, .e, .b⟩) (.s ⟨.a, .e, .c⟩) 4⟩,
  ⟨none, .ld ⟨.a, .e, .e⟩ 4 true (.s ⟨.a, .e, .d⟩)⟩,
  ⟨none, .aeq ⟨.a, .e, .f⟩ true [(.i .i64), (.i .i64), (.i .i64), (.i .i64)] (.s ⟨.a, .d, .h⟩) (.s ⟨.a, .e, .e⟩)⟩]
@[reducible] def p15r11 : List GI := [⟨none, .mov ⟨.a, .a, .e⟩ (.k (.v (.bool false)))⟩]
@[reducible] def p15c12 : PC := .seq (.reg p15r11) .ret
@[reducible] def p15c13 : PC := .cond (.s ⟨.a, .e, .f⟩) p15c12 .skip
@[reducible] def p15c14 : PC := .seq (.reg p15r10) p15c13
@[reducible] def p15c15 : PC := .block 1 p15c14
@[reducible] def p15r16 : List GI := [⟨none, .mov ⟨.a, .d, .b⟩ (.s ⟨.a, .a, .f⟩)⟩,
  ⟨none, .ar ⟨.a, .d, .c⟩ .add .i64 (.s ⟨.a, .d, .b⟩) (.k (.v (.int .i64 1)))⟩,
  ⟨none, .mov ⟨.a, .a, .f⟩ (.s ⟨.a, .d, .c⟩)⟩]
@[reducible] def p15c17 : PC := .seq p15c15 (.reg p15r16)
@[reducible] def p15c18 : PC := .seq p15c9 p15c17
@[reducible] def p15l19 : PC := .loop 0 [⟨.a, .c, .e⟩, ⟨.a, .c, .f⟩, ⟨.a, .c, .g⟩, ⟨.a, .c, .h⟩, ⟨.a, .d, .a⟩, ⟨.a, .d, .d⟩, ⟨.a, .d, .e⟩, ⟨.a, .d, .f⟩, ⟨.a, .d, .g⟩, ⟨.a, .d, .h⟩, ⟨.a, .e, .a⟩, ⟨.a, .e, .b⟩, ⟨.a, .e, .c⟩, ⟨.a, .e, .d⟩, ⟨.a, .e, .e⟩, ⟨.a, .e, .f⟩, ⟨.a, .a, .e⟩, ⟨.a, .d, .b⟩, ⟨.a, .d, .c⟩, ⟨.a, .a, .f⟩] p15c18
@[reducible] def p15c20 : PC := .block 0 p15l19
@[reducible] def p15c21 : PC := .seq (.reg p15r6) p15c20
@[reducible] def p15r22 : List GI := [⟨none, .mov ⟨.a, .a, .e⟩ (.k (.v (.bool true)))⟩]
@[reducible] def p15c23 : PC := .seq (.reg p15r22) .ret
@[reducible] def p15c24 : PC := .seq p15c21 p15c23
@[reducible] def p15c25 : PC := .seq p15c5 p15c24
@[reducible] def p15c26 : PC := .seq (.reg p15r0) p15c25
def p15 : PFun := ⟨p15c26, [(.t ⟨.a, .a, .e⟩)]⟩
@[simp] theorem p15_b : p15.body = p15c26 := rfl
@[simp] theorem p15_r : p15.res = [(.t ⟨.a, .a, .e⟩)] := rfl
theorem is15 : cFunB Try.prog 0 [] 15 = some p15 := by kernel_rfl
theorem na15 : ((Try.prog.funcs[15]?).map (·.ntmps)).any (2 ≤ ·) = true := by kernel_rfl
@[reducible] def p17r0 : List GI := [⟨none, .box ⟨.a, .a, .c⟩ (.s ⟨.a, .a, .a⟩)⟩,
  ⟨none, .new ⟨.a, .a, .e⟩ [(.v (.int .i64 0)), (.sl 0 [] .full)]⟩]
@[reducible] def p17r1 : List GI := [⟨none, .fa ⟨.a, .b, .b⟩ (.s ⟨.a, .a, .c⟩) 0⟩,
  ⟨none, .ld ⟨.a, .b, .c⟩ 1 false (.s ⟨.a, .b, .b⟩)⟩,
  ⟨none, .bld ⟨.a, .b, .d⟩ [(.v (.int .i64 0)), (.sl 0 [] .full)] [(0, 1, (.s ⟨.a, .b, .c⟩))]⟩,
  ⟨none, .new ⟨.a, .a, .f⟩ [(.v (.int .i64 0)), (.sl 0 [] .full)]⟩,
  ⟨none, .st (.s ⟨.a, .a, .f⟩) (.s ⟨.a, .b, .d⟩) 2⟩]
@[reducible] def p17r2 : List GI := [⟨none, .mov ⟨.a, .a, .g⟩ (.k (.v (.int .i64 0)))⟩]
@[reducible] def p17r3 : List GI := [⟨none, .mov ⟨.a, .b, .e⟩ (.s ⟨.a, .a, .g⟩)⟩,
  ⟨none, .fa ⟨.a, .b, .f⟩ (.s ⟨.a, .a, .c⟩) 1⟩,
  ⟨none, .ld ⟨.a, .b, .g⟩ 1 false (.s ⟨.a, .b, .f⟩)⟩,
  ⟨none, .len ⟨.a, .b, .h⟩ (.s ⟨.a, .b, .g⟩)⟩,
  ⟨none, .cmp ⟨.a, .c, .a⟩ .lss (.s ⟨.a, .b, .e⟩) (.s ⟨.a, .b, .h⟩)⟩]
@[reducible] def p17c4 : PC := .cond (.s ⟨.a, .c, .a⟩) .skip (.exit 0)
@[reducible] def p17c5 : PC := .seq (.reg p17r3) p17c4
@[reducible] def p17r6 : List GI := [⟨none, .mov ⟨.a, .a, .h⟩ (.k (.v (.bool true)))⟩]
@[reducible] def p17r7 : List GI := [⟨none, .mov ⟨.a, .b, .a⟩ (.k (.v (.int .i64 0)))⟩]
@[reducible] def p17r8 : List GI := [⟨none, .mov ⟨.a, .c, .d⟩ (.s ⟨.a, .b, .a⟩)⟩,
  ⟨none, .mov ⟨.a, .c, .e⟩ (.s ⟨.a, .a, .b⟩)⟩,
  ⟨none, .len ⟨.a, .c, .f⟩ (.s ⟨.a, .c, .e⟩)⟩,
  ⟨none, .cmp ⟨.a, .c, .g⟩ .lss (.s ⟨.a, .c, .d⟩) (.s ⟨.a, .c, .f⟩)⟩]
@[reducible] def p17c9 : PC := .cond (.s ⟨.a, .c, .g⟩) .skip (.exit 2)
@[reducible] def p17c10 : PC := .seq (.reg p17r8) p17c9
@[reducible] def p17r11 : List GI := [⟨none, .mov ⟨.a, .d, .b⟩ (.s ⟨.a, .a, .h⟩)⟩,
  ⟨none, .mov ⟨.a, .d, .c⟩ (.s ⟨.a, .d, .b⟩)⟩,
  ⟨some (⟨.a, .d, .c⟩, true), .fa ⟨.a, .d, .d⟩ (.s ⟨.a, .a, .c⟩) 1⟩,
  ⟨some (⟨.a, .d, .c⟩, true), .ld ⟨.a, .d, .e⟩ 1 false (.s ⟨.a, .d, .d⟩)⟩,
  ⟨some (⟨.a, .d, .c⟩, true), .mov ⟨.a, .d, .f⟩ (.s ⟨.a, .a, .g⟩)⟩,
  ⟨some (⟨.a, .d, .c⟩, true), .ia ⟨.a, .d, .g⟩ (.s ⟨.a, .d, .e⟩) (.s ⟨.a, .d, .f⟩) 4⟩,
  ⟨some (⟨.a, .d, .c⟩, true), .ld ⟨.a, .d, .h⟩ 4 true (.s ⟨.a, .d, .g⟩)⟩,
  ⟨some (⟨.a, .d, .c⟩, true), .mov ⟨.a, .e, .a⟩ (.s ⟨.a, .a, .b⟩)⟩,
  ⟨some (⟨.a, .d, .c⟩, true), .mov ⟨.a, .e, .b⟩ (.s ⟨.a, .b, .a⟩)⟩,
  ⟨some (⟨.a, .d, .c⟩, true), .ia ⟨.a, .e, .c⟩ (.s ⟨.a, .e, .a⟩) (.s ⟨.a, .e, .b⟩) 3⟩,
  ⟨some (⟨.a, .d, .c⟩, true), .ld ⟨.a, .e, .d⟩ 3 true (.s ⟨.a, .e, .c⟩)⟩,
  ⟨some (⟨.a, .d, .c⟩, true), .call ⟨.a, .e, .e⟩ 39 [(.s ⟨.a, .d, .h⟩), (.s ⟨.a, .e, .d⟩)]⟩,
  ⟨some (⟨.a, .d, .c⟩, true), .not ⟨.a, .e, .f⟩ (.s ⟨.a, .e, .e⟩)⟩,
  ⟨none, .pick ⟨.a, .e, .g⟩ (.s ⟨.a, .d, .c⟩) (.s ⟨.a, .e, .f⟩) (.k (.v (.bool false)))⟩,
  ⟨none, .mov ⟨.a, .a, .h⟩ (.s ⟨.a, .e, .g⟩)⟩]
@[reducible] def p17c12 : PC := .block 3 (.reg p17r11)
@[reducible] def p17r13 : List GI := [⟨none, .mov ⟨.a, .c, .h⟩ (.s ⟨.a, .b, .a⟩)⟩,
  ⟨none, .ar ⟨.a, .d, .a⟩ .add .i64 (.s ⟨.a, .c, .h⟩) (.k (.v (.int .i64 1)))⟩,
  ⟨none, .mov ⟨.a, .b, .a⟩ (.s ⟨.a, .d, .a⟩)⟩]
@[reducible] def p17c14 : PC := .seq p17c12 (.reg p17r13)
@[reducible] def p17c15 : PC := .seq p17c10 p17c14
@[reducible] def p17l16 : PC := .loop 0 [⟨.a, .c, .d⟩, ⟨.a, .c, .e⟩, ⟨.a, .c, .f⟩, ⟨.a, .c, .g⟩, ⟨.a, .d, .b⟩, ⟨.a, .d, .c⟩, ⟨.a, .d, .d⟩, ⟨.a, .d, .e⟩, ⟨.a, .d, .f⟩, ⟨.a, .d, .g⟩, ⟨.a, .d, .h⟩, ⟨.a, .e, .a⟩, ⟨.a, .e, .b⟩, ⟨.a, .e, .c⟩, ⟨.a, .e, .d⟩, ⟨.a, .e, .e⟩, ⟨.a, .e, .f⟩, ⟨.a, .e, .g⟩, ⟨.a, .a, .h⟩, ⟨.a, .c, .h⟩, ⟨.a, .d, .a⟩, ⟨.a, .b, .a⟩] p17c15
@[reducible] def p17c17 : PC := .block 2 p17l16
@[reducible] def p17c18 : PC := .seq (.reg p17r7) p17c17
@[reducible] def p17r19 : List GI := [⟨none, .mov ⟨.a, .e, .h⟩ (.s ⟨.a, .a, .h⟩)⟩]
@[reducible] def p17r20 : List GI := [⟨none, .fa ⟨.a, .f, .a⟩ (.s ⟨.a, .a, .f⟩) 1⟩,
  ⟨none, .ld ⟨.a, .f, .b⟩ 1 false (.s ⟨.a, .f, .a⟩)⟩,
  ⟨none, .fa ⟨.a, .f, .c⟩ (.s ⟨.a, .a, .c⟩) 1⟩,
  ⟨none, .ld ⟨.a, .f, .d⟩ 1 false (.s ⟨.a, .f, .c⟩)⟩,
  ⟨none, .mov ⟨.a, .f, .e⟩ (.s ⟨.a, .a, .g⟩)⟩,
  ⟨none, .ia ⟨.a, .f, .f⟩ (.s ⟨.a, .f, .d⟩) (.s ⟨.a, .f, .e⟩) 4⟩,
  ⟨none, .ld ⟨.a, .f, .g⟩ 4 true (.s ⟨.a, .f, .f⟩)⟩,
  ⟨none, .lit ⟨.a, .f, .h⟩ 4 [(.v (.int .i64 0)), (.v (.int .i64 0)), (.v (.int .i64 0)), (.v (.int .i64 0))] 1 [(0, (.s ⟨.a, .f, .g⟩))]⟩,
  ⟨none, .app ⟨.a, .g, .a⟩ (.s ⟨.a, .f, .b⟩) (.s ⟨.a, .f, .h⟩) 4 32 0 49⟩,
  ⟨none, .fa ⟨.a, .g, .b⟩ (.s ⟨.a, .a, .f⟩) 1⟩,
  ⟨none, .st (.s ⟨.a, .g, .b⟩) (.s ⟨.a, .g, .a⟩) 1⟩]
@[reducible] def p17c21 : PC := .cond (.s ⟨.a, .e, .h⟩) (.reg p17r20) .skip
@[reducible] def p17c22 : PC := .seq (.reg p17r19) p17c21
@[reducible] def p17c23 : PC := .seq p17c18 p17c22
@[reducible] def p17c24 : PC := .seq (.reg p17r6) p17c23
@[reducible] def p17c25 : PC := .block 1 p17c24
@[reducible] def p17r26 : List GI := [⟨none, .mov ⟨.a, .c, .b⟩ (.s ⟨.a, .a, .g⟩)⟩,
  ⟨none, .ar ⟨.a, .c, .c⟩ .add .i64 (.s ⟨.a, .c, .b⟩) (.k (.v (.int .i64 1)))⟩,
  ⟨none, .mov ⟨.a, .a, .g⟩ (.s ⟨.a, .c, .c⟩)⟩]
@[reducible] def p17c27 : PC := .seq p17c25 (.reg p17r26)
@[reducible] def p17c28 : PC := .seq p17c5 p17c27
@[reducible] def p17l29 : PC := .loop 0 [⟨.a, .b, .e⟩, ⟨.a, .b, .f⟩, ⟨.a, .b, .g⟩, ⟨.a, .b, .h⟩, ⟨.a, .c, .a⟩, ⟨.a, .a, .h⟩, ⟨.a, .b, .a⟩, ⟨.a, .c, .d⟩, ⟨.a, .c, .e⟩, ⟨.a, .c, .f⟩, ⟨.a, .c, .g⟩, ⟨.a, .d, .b⟩, ⟨.a, .d, .c⟩, ⟨.a, .d, .d⟩, ⟨.a, .d, .e⟩, ⟨.a, .d, .f⟩, ⟨.a, .d, .g⟩, ⟨.a, .d, .h⟩, ⟨.a, .e, .a⟩, ⟨.a, .e, .b⟩, ⟨.a, .e, .c⟩, ⟨.a, .e, .d⟩, ⟨.a, .e, .e⟩, ⟨.a, .e, .f⟩, ⟨.a, .e, .g⟩, ⟨.a, .c, .h⟩, ⟨.a, .d, .a⟩, ⟨.a, .e, .h⟩, ⟨.a, .f, .a⟩, ⟨.a, .f, .b⟩, ⟨.a, .f, .c⟩, ⟨.a, .f, .d⟩, ⟨.a, .f, .e⟩, ⟨.a, .f, .f⟩, ⟨.a, .f, .g⟩, ⟨.a, .f, .h⟩, ⟨.a, .g, .a⟩, ⟨.a, .g, .b⟩, ⟨.a, .c, .b⟩, ⟨.a, .c, .c⟩, ⟨.a, .a, .g⟩] p17c28
@[reducible] def p17c30 : PC := .block 0 p17l29
@[reducible] def p17c31 : PC := .seq (.reg p17r2) p17c30
@[reducible] def p17r32 : List GI := [⟨none, .ld ⟨.a, .g, .c⟩ 2 true (.s ⟨.a, .a, .f⟩)⟩,
  ⟨none, .st (.s ⟨.a, .a, .e⟩) (.s ⟨.a, .g, .c⟩) 2⟩]
@[reducible] def p17c33 : PC := .seq (.reg p17r32) .ret
@[reducible] def p17c34 : PC := .seq p17c31 p17c33
@[reducible] def p17c35 : PC := .seq (.reg p17r1) p17c34
@[reducible] def p17c36 : PC := .seq (.reg p17r0) p17c35
def p17 : PFun := ⟨p17c36, [(.c ⟨.a, .a, .e⟩ 2 true)]⟩
@[simp] theorem p17_b : p17.body = p17c36 := rfl
@[simp] theorem p17_r : p17.res = [(.c ⟨.a, .a, .e⟩ 2 true)] := rfl
theorem is17 : cFunB Try.prog 0 [] 17 = some p17 := by kernel_rfl
theorem na17 : ((Try.prog.funcs[17]?).map (·.ntmps)).any (2 ≤ ·) = true := by kernel_rfl
@[reducible] def p19r0 : List GI := [⟨none, .mov ⟨.a, .a, .e⟩ (.k (.sl 0 [] .full))⟩]
@[reducible] def p19r1 : List GI := [⟨none, .lit ⟨.a, .b, .a⟩ 3 [(.v (.int .i64 0)), (.v (.int .i64 0)), (.v (.int .i64 0))] 0 []⟩,
  ⟨none, .mov ⟨.a, .a, .f⟩ (.s ⟨.a, .b, .a⟩)⟩]
@[reducible] def p19r2 : List GI := [⟨none, .mov ⟨.a, .a, .g⟩ (.k (.v (.int .i64 0)))⟩]
@[reducible] def p19r3 : List GI := [⟨none, .mov ⟨.a, .b, .b⟩ (.s ⟨.a, .a, .g⟩)⟩,
  ⟨none, .mov ⟨.a, .b, .c⟩ (.s ⟨.a, .a, .a⟩)⟩,
  ⟨none, .len ⟨.a, .b, .d⟩ (.s ⟨.a, .b, .c⟩)⟩,
  ⟨none, .cmp ⟨.a, .b, .e⟩ .lss (.s ⟨.a, .b, .b⟩) (.s ⟨.a, .b, .d⟩)⟩]
@[reducible] def p19c4 : PC := .cond (.s ⟨.a, .b, .e⟩) .skip (.exit 0)
@[reducible] def p19c5 : PC := .seq (.reg p19r3) p19c4
@[reducible] def p19r6 : List GI := [⟨none, .mov ⟨.a, .b, .h⟩ (.s ⟨.a, .a, .a⟩)⟩,
  ⟨none, .mov ⟨.a, .c, .a⟩ (.s ⟨.a, .a, .g⟩)⟩,
  ⟨none, .ia ⟨.a, .c, .b⟩ (.s ⟨.a, .b, .h⟩) (.s ⟨.a, .c, .a⟩) 3⟩,
  ⟨none, .ld ⟨.a, .c, .c⟩ 3 true (.s ⟨.a, .c, .b⟩)⟩,
  ⟨none, .new ⟨.a, .a, .h⟩ [(.v (.int .i64 0)), (.v (.int .i64 0)), (.v (.int .i64 0))]⟩,
  ⟨none, .st (.s ⟨.a, .a, .h⟩) (.s ⟨.a, .c, .c⟩) 3⟩]
@[reducible] def p19r7 : List GI := [⟨none, .fa ⟨.a, .c, .d⟩ (.s ⟨.a, .a, .h⟩) 0⟩,
  ⟨none, .ld ⟨.a, .c, .e⟩ 1 false (.s ⟨.a, .c, .d⟩)⟩,
  ⟨none, .mov ⟨.a, .c, .f⟩ (.s ⟨.a, .a, .b⟩)⟩,
  ⟨none, .cmp ⟨.a, .c, .g⟩ .geq (.s ⟨.a, .c, .e⟩) (.s ⟨.a, .c, .f⟩)⟩]
@[reducible] def p19r8 : List GI := [⟨none, .fa ⟨.a, .c, .h⟩ (.s ⟨.a, .a, .h⟩) 0⟩,
  ⟨none, .ld ⟨.a, .d, .a⟩ 1 false (.s ⟨.a, .c, .h⟩)⟩,
  ⟨none, .ar ⟨.a, .d, .b⟩ .add .i64 (.s ⟨.a, .d, .a⟩) (.k (.v (.int .i64 1)))⟩,
  ⟨none, .fa ⟨.a, .d, .c⟩ (.s ⟨.a, .a, .h⟩) 0⟩,
  ⟨none, .st (.s ⟨.a, .d, .c⟩) (.s ⟨.a, .d, .b⟩) 1⟩]
@[reducible] def p19r9 : List GI := [⟨none, .fa ⟨.a, .d, .d⟩ (.s ⟨.a, .a, .h⟩) 1⟩,
  ⟨none, .ld ⟨.a, .d, .e⟩ 1 false (.s ⟨.a, .d, .d⟩)⟩,
  ⟨none, .ar ⟨.a, .d, .f⟩ .add .i64 (.s ⟨.a, .d, .e⟩) (.k (.v (.int .i64 1)))⟩,
  ⟨none, .fa ⟨.a, .d, .g⟩ (.s ⟨.a, .a, .h⟩) 1⟩,
  ⟨none, .st (.s ⟨.a, .d, .g⟩) (.s ⟨.a, .d, .f⟩) 1⟩]
@[reducible] def p19c10 : PC := .seq (.reg p19r8) (.reg p19r9)
@[reducible] def p19r11 : List GI := [⟨none, .mov ⟨.a, .d, .h⟩ (.s ⟨.a, .a, .b⟩)⟩,
  ⟨none, .fa ⟨.a, .e, .a⟩ (.s ⟨.a, .a, .h⟩) 1⟩,
  ⟨none, .ld ⟨.a, .e, .b⟩ 1 false (.s ⟨.a, .e, .a⟩)⟩,
  ⟨none, .cmp ⟨.a, .e, .c⟩ .lss (.s ⟨.a, .d, .h⟩) (.s ⟨.a, .e, .b⟩)⟩]
@[reducible] def p19c12 : PC := .cond (.s ⟨.a, .e, .c⟩) (.exit 1) .skip
@[reducible] def p19c13 : PC := .seq (.reg p19r11) p19c12
@[reducible] def p19c14 : PC := .cond (.s ⟨.a, .c, .g⟩) p19c10 p19c13
@[reducible] def p19c15 : PC := .seq (.reg p19r7) p19c14
@[reducible] def p19r16 : List GI := [⟨none, .mov ⟨.a, .e, .d⟩ (.s ⟨.a, .a, .f⟩)⟩,
  ⟨none, .ld ⟨.a, .e, .e⟩ 3 true (.s ⟨.a, .a, .h⟩)⟩,
  ⟨none, .lit ⟨.a, .e, .f⟩ 3 [(.v (.int .i64 0)), (.v (.int .i64 0)), (.v (.int .i64 0))] 1 [(0, (.s ⟨.a, .e, .e⟩))]⟩,
  ⟨none, .app ⟨.a, .e, .g⟩ (.s ⟨.a, .e, .d⟩) (.s ⟨.a, .e, .f⟩) 3 24 0 33⟩,
  ⟨none, .mov ⟨.a, .a, .f⟩ (.s ⟨.a, .e, .g⟩)⟩]
@[reducible] def p19c17 : PC := .seq p19c15 (.reg p19r16)
@[reducible] def p19c18 : PC := .seq (.reg p19r6) p19c17
@[reducible] def p19c19 : PC := .block 1 p19c18
@[reducible] def p19r20 : List GI := [⟨none, .mov ⟨.a, .b, .f⟩ (.s ⟨.a, .a, .g⟩)⟩,
  ⟨none, .ar ⟨.a, .b, .g⟩ .add .i64 (.s ⟨.a, .b, .f⟩) (.k (.v (.int .i64 1)))⟩,
  ⟨none, .mov ⟨.a, .a, .g⟩ (.s ⟨.a, .b, .g⟩)⟩]
@[reducible] def p19c21 : PC := .seq p19c19 (.reg p19r20)
@[reducible] def p19c22 : PC := .seq p19c5 p19c21
@[reducible] def p19l23 : PC := .loop 0 [⟨.a, .b, .b⟩, ⟨.a, .b, .c⟩, ⟨.a, .b, .d⟩, ⟨.a, .b, .e⟩, ⟨.a, .b, .h⟩, ⟨.a, .c, .a⟩, ⟨.a, .c, .b⟩, ⟨.a, .c, .c⟩, ⟨.a, .a, .h⟩, ⟨.a, .c, .d⟩, ⟨.a, .c, .e⟩, ⟨.a, .c, .f⟩, ⟨.a, .c, .g⟩, ⟨.a, .c, .h⟩, ⟨.a, .d, .a⟩, ⟨.a, .d, .b⟩, ⟨.a, .d, .c⟩, ⟨.a, .d, .d⟩, ⟨.a, .d, .e⟩, ⟨.a, .d, .f⟩, ⟨.a, .d, .g⟩, ⟨.a, .d, .h⟩, ⟨.a, .e, .a⟩, ⟨.a, .e, .b⟩, ⟨.a, .e, .c⟩, ⟨.a, .e, .d⟩, ⟨.a, .e, .e⟩, ⟨.a, .e, .f⟩, ⟨.a, .e, .g⟩, ⟨.a, .a, .f⟩, ⟨.a, .b, .f⟩, ⟨.a, .b, .g⟩, ⟨.a, .a, .g⟩] p19c22
@[reducible] def p19c24 : PC := .block 0 p19l23
@[reducible] def p19c25 : PC := .seq (.reg p19r2) p19c24
@[reducible] def p19r26 : List GI := [⟨none, .mov ⟨.a, .e, .h⟩ (.s ⟨.a, .a, .f⟩)⟩,
  ⟨none, .mov ⟨.a, .a, .e⟩ (.s ⟨.a, .e, .h⟩)⟩]
@[reducible] def p19c27 : PC := .seq (.reg p19r26) .ret
@[reducible] def p19c28 : PC := .seq p19c25 p19c27
@[reducible] def p19c29 : PC := .seq (.reg p19r1) p19c28
@[reducible] def p19c30 : PC := .seq (.reg p19r0) p19c29
def p19 : PFun := ⟨p19c30, [(.t ⟨.a, .a, .e⟩)]⟩
@[simp] theorem p19_b : p19.body = p19c30 := rfl
@[simp] theorem p19_r : p19.res = [(.t ⟨.a, .a, .e⟩)] := rfl
theorem is19 : cFunB Try.prog 0 [] 19 = some p19 := by kernel_rfl
theorem na19 : ((Try.prog.funcs[19]?).map (·.ntmps)).any (2 ≤ ·) = true := by kernel_rfl
@[reducible] def p21r0 : List GI := [⟨none, .mov ⟨.a, .a, .e⟩ (.k (.sl 0 [] .full))⟩]
@[reducible] def p21r1 : List GI := [⟨none, .lit ⟨.a, .b, .a⟩ 3 [(.v (.int .i64 0)), (.v (.int .i64 0)), (.v (.int .i64 0))] 0 []⟩,
  ⟨none, .mov ⟨.a, .a, .f⟩ (.s ⟨.a, .b, .a⟩)⟩]
@[reducible] def p21r2 : List GI := [⟨none, .mov ⟨.a, .a, .g⟩ (.k (.v (.int .i64 0)))⟩]
@[reducible] def p21r3 : List GI := [⟨none, .mov ⟨.a, .b, .b⟩ (.s ⟨.a, .a, .g⟩)⟩,
  ⟨none, .mov ⟨.a, .b, .c⟩ (.s ⟨.a, .a, .a⟩)⟩,
  ⟨none, .len ⟨.a, .b, .d⟩ (.s ⟨.a, .b, .c⟩)⟩,
  ⟨none, .cmp ⟨.a, .b, .e⟩ .lss (.s ⟨.a, .b, .b⟩) (.s ⟨.a, .b, .d⟩)⟩]
@[reducible] def p21c4 : PC := .cond (.s ⟨.a, .b, .e⟩) .skip (.exit 0)
@[reducible] def p21c5 : PC := .seq (.reg p21r3) p21c4
@[reducible] def p21r6 : List GI := [⟨none, .mov ⟨.a, .b, .h⟩ (.s ⟨.a, .a, .a⟩)⟩,
  ⟨none, .mov ⟨.a, .c, .a⟩ (.s ⟨.a, .a, .g⟩)⟩,
  ⟨none, .ia ⟨.a, .c, .b⟩ (.s ⟨.a, .b, .h⟩) (.s ⟨.a, .c, .a⟩) 3⟩,
  ⟨none, .ld ⟨.a, .c, .c⟩ 3 true (.s ⟨.a, .c, .b⟩)⟩,
  ⟨none, .new ⟨.a, .a, .h⟩ [(.v (.int .i64 0)), (.v (.int .i64 0)), (.v (.int .i64 0))]⟩,
  ⟨none, .st (.s ⟨.a, .a, .h⟩) (.s ⟨.a, .c, .c⟩) 3⟩]
@[reducible] def p21r7 : List GI := [⟨none, .fa ⟨.a, .c, .d⟩ (.s ⟨.a, .a, .h⟩) 0⟩,
  ⟨none, .ld ⟨.a, .c, .e⟩ 1 false (.s ⟨.a, .c, .d⟩)⟩,
  ⟨none, .mov ⟨.a, .c, .f⟩ (.s ⟨.a, .a, .b⟩)⟩,
  ⟨none, .cmp ⟨.a, .c, .g⟩ .gtr (.s ⟨.a, .c, .e⟩) (.s ⟨.a, .c, .f⟩)⟩]
@[reducible] def p21r8 : List GI := [⟨none, .fa ⟨.a, .c, .h⟩ (.s ⟨.a, .a, .h⟩) 0⟩,
  ⟨none, .ld ⟨.a, .d, .a⟩ 1 false (.s ⟨.a, .c, .h⟩)⟩,
  ⟨none, .ar ⟨.a, .d, .b⟩ .sub .i64 (.s ⟨.a, .d, .a⟩) (.k (.v (.int .i64 1)))⟩,
  ⟨none, .fa ⟨.a, .d, .c⟩ (.s ⟨.a, .a, .h⟩) 0⟩,
  ⟨none, .st (.s ⟨.a, .d, .c⟩) (.s ⟨.a, .d, .b⟩) 1⟩]
@[reducible] def p21r9 : List GI := [⟨none, .fa ⟨.a, .d, .d⟩ (.s ⟨.a, .a, .h⟩) 1⟩,
  ⟨none, .ld ⟨.a, .d, .e⟩ 1 false (.s ⟨.a, .d, .d⟩)⟩,
  ⟨none, .ar ⟨.a, .d, .f⟩ .sub .i64 (.s ⟨.a, .d, .e⟩) (.k (.v (.int .i64 1)))⟩,
  ⟨none, .fa ⟨.a, .d, .g⟩ (.s ⟨.a, .a, .h⟩) 1⟩,
  ⟨none, .st (.s ⟨.a, .d, .g⟩) (.s ⟨.a, .d, .f⟩) 1⟩]
@[reducible] def p21c10 : PC := .seq (.reg p21r8) (.reg p21r9)
@[reducible] def p21r11 : List GI := [⟨none, .mov ⟨.a, .d, .h⟩ (.s ⟨.a, .a, .b⟩)⟩,
  ⟨none, .fa ⟨.a, .e, .a⟩ (.s ⟨.a, .a, .h⟩) 1⟩,
  ⟨none, .ld ⟨.a, .e, .b⟩ 1 false (.s ⟨.a, .e, .a⟩)⟩,
  ⟨none, .cmp ⟨.a, .e, .c⟩ .lss (.s ⟨.a, .d, .h⟩) (.s ⟨.a, .e, .b⟩)⟩]
@[reducible] def p21c12 : PC := .cond (.s ⟨.a, .e, .c⟩) (.exit 1) .skip
@[reducible] def p21c13 : PC := .seq (.reg p21r11) p21c12
@[reducible] def p21c14 : PC := .cond (.s ⟨.a, .c, .g⟩) p21c10 p21c13
@[reducible] def p21c15 : PC := .seq (.reg p21r7) p21c14
@[reducible] def p21r16 : List GI := [⟨none, .mov ⟨.a, .e, .d⟩ (.s ⟨.a, .a, .f⟩)⟩,
  ⟨none, .ld ⟨.a, .e, .e⟩ 3 true (.s ⟨.a, .a, .h⟩)⟩,
  ⟨none, .lit ⟨.a, .e, .f⟩ 3 [(.v (.int .i64 0)), (.v (.int .i64 0)), (.v (.int .i64 0))] 1 [(0, (.s ⟨.a, .e, .e⟩))]⟩,
  ⟨none, .app ⟨.a, .e, .g⟩ (.s ⟨.a, .e, .d⟩) (.s ⟨.a, .e, .f⟩) 3 24 0 33⟩,
  ⟨none, .mov ⟨.a, .a, .f⟩ (.s ⟨.a, .e, .g⟩)⟩]
@[reducible] def p21c17 : PC := .seq p21c15 (.reg p21r16)
@[reducible] def p21c18 : PC := .seq (.reg p21r6) p21c17
@[reducible] def p21c19 : PC := .block 1 p21c18
@[reducible] def p21r20 : List GI := [⟨none, .mov ⟨.a, .b, .f⟩ (.s ⟨.a, .a, .g⟩)⟩,
  ⟨none, .ar ⟨.a, .b, .g⟩ .add .i64 (.s ⟨.a, .b, .f⟩) (.k (.v (.int .i64 1)))⟩,
  ⟨none, .mov ⟨.a, .a, .g⟩ (.s ⟨.a, .b, .g⟩)⟩]
@[reducible] def p21c21 : PC := .seq p21c19 (.reg p21r20)
@[reducible] def p21c22 : PC := .seq p21c5 p21c21
@[reducible] def p21l23 : PC := .loop 0 [⟨.a, .b, .b⟩, ⟨.a, .b, .c⟩, ⟨.a, .b, .d⟩, ⟨.a, .b, .e⟩, ⟨.a, .b, .h⟩, ⟨.a, .c, .a⟩, ⟨.a, .c, .b⟩, ⟨.a, .c, .c⟩, ⟨.a, .a, .h⟩, ⟨.a, .c, .d⟩, ⟨.a, .c, .e⟩, ⟨.a, .c, .f⟩, ⟨.a, .c, .g⟩, ⟨.a, .c, .h⟩, ⟨.a, .d, .a⟩, ⟨.a, .d, .b⟩, ⟨.a, .d, .c⟩, ⟨.a, .d, .d⟩, ⟨.a, .d, .e⟩, ⟨.a, .d, .f⟩, ⟨.a, .d, .g⟩, ⟨.a, .d, .h⟩, ⟨.a, .e, .a⟩, ⟨.a, .e, .b⟩, ⟨.a, .e, .c⟩, ⟨.a, .e, .d⟩, ⟨.a, .e, .e⟩, ⟨.a, .e, .f⟩, ⟨.a, .e, .g⟩, ⟨.a, .a, .f⟩, ⟨.a, .b, .f⟩, ⟨.a, .b, .g⟩, ⟨.a, .a, .g⟩] p21c22
@[reducible] def p21c24 : PC := .block 0 p21l23
@[reducible] def p21c25 : PC := .seq (.reg p21r2) p21c24
@[reducible] def p21r26 : List GI := [⟨none, .mov ⟨.a, .e, .h⟩ (.s ⟨.a, .a, .f⟩)⟩,
  ⟨none, .mov ⟨.a, .a, .e⟩ (.s ⟨.a, .e, .h⟩)⟩]
@[reducible] def p21c27 : PC := .seq (.reg p21r26) .ret
@[reducible] def p21c28 : PC := .seq p21c25 p21c27
@[reducible] def p21c29 : PC := .seq (.reg p21r1) p21c28
@[reducible] def p21c30 : PC := .seq (.reg p21r0) p21c29
def p21 : PFun := ⟨p21c30, [(.t ⟨.a, .a, .e⟩)]⟩
@[simp] theorem p21_b : p21.body = p21c30 := rfl
@[simp] theorem p21_r : p21.res = [(.t ⟨.a, .a, .e⟩)] := rfl
theorem is21 : cFunB Try.prog 0 [] 21 = some p21 := by kernel_rfl
theorem na21 : ((Try.prog.funcs[21]?).map (·.ntmps)).any (2 ≤ ·) = true := by kernel_rfl
@[reducible] def p22r0 : List GI := [⟨none, .box ⟨.a, .a, .c⟩ (.s ⟨.a, .a, .a⟩)⟩,
  ⟨none, .new ⟨.a, .a, .e⟩ [(.v (.int .i64 0)), (.v (.int .i64 0)), (.v (.int .i64 0))]⟩]
@[reducible] def p22r1 : List GI := [⟨none, .iap ⟨.a, .a, .g⟩ (.s ⟨.a, .a, .c⟩) (.k (.v (.int .i64 0))) 1 3⟩,
  ⟨none, .ld ⟨.a, .a, .h⟩ 1 false (.s ⟨.a, .a, .g⟩)⟩,
  ⟨none, .cvi ⟨.a, .b, .a⟩ .i64 (.s ⟨.a, .a, .h⟩)⟩,
  ⟨none, .mov ⟨.a, .b, .b⟩ (.s ⟨.a, .a, .b⟩)⟩,
  ⟨none, .dv ⟨.a, .b, .c⟩ .rem .i64 (.s ⟨.a, .b, .a⟩) (.s ⟨.a, .b, .b⟩)⟩,
  ⟨none, .mov ⟨.a, .a, .f⟩ (.s ⟨.a, .b, .c⟩)⟩]
@[reducible] def p22r2 : List GI := [⟨none, .mov ⟨.a, .b, .d⟩ (.s ⟨.a, .a, .f⟩)⟩,
  ⟨none, .mov ⟨.a, .b, .e⟩ (.s ⟨.a, .a, .f⟩)⟩,
  ⟨none, .ar ⟨.a, .b, .f⟩ .add .i64 (.s ⟨.a, .b, .e⟩) (.k (.v (.int .i64 1)))⟩,
  ⟨none, .iap ⟨.a, .b, .g⟩ (.s ⟨.a, .a, .c⟩) (.k (.v (.int .i64 1))) 1 3⟩,
  ⟨none, .ld ⟨.a, .b, .h⟩ 1 false (.s ⟨.a, .b, .g⟩)⟩,
  ⟨none, .cvi ⟨.a, .c, .a⟩ .i64 (.s ⟨.a, .b, .h⟩)⟩,
  ⟨none, .mov ⟨.a, .c, .b⟩ (.s ⟨.a, .a, .b⟩)⟩,
  ⟨none, .mov ⟨.a, .c, .c⟩ (.s ⟨.a, .a, .f⟩)⟩,
  ⟨none, .ar ⟨.a, .c, .d⟩ .sub .i64 (.s ⟨.a, .c, .b⟩) (.s ⟨.a, .c, .c⟩)⟩,
  ⟨none, .dv ⟨.a, .c, .e⟩ .rem .i64 (.s ⟨.a, .c, .a⟩) (.s ⟨.a, .c, .d⟩)⟩,
  ⟨none, .ar ⟨.a, .c, .f⟩ .add .i64 (.s ⟨.a, .b, .f⟩) (.s ⟨.a, .c, .e⟩)⟩,
  ⟨none, .iap ⟨.a, .c, .g⟩ (.s ⟨.a, .a, .c⟩) (.k (.v (.int .i64 2))) 1 3⟩,
  ⟨none, .ld ⟨.a, .c, .h⟩ 1 false (.s ⟨.a, .c, .g⟩)⟩,
  ⟨none, .cvi ⟨.a, .d, .a⟩ .i64 (.s ⟨.a, .c, .h⟩)⟩,
  ⟨none, .dv ⟨.a, .d, .b⟩ .rem .i64 (.s ⟨.a, .d, .a⟩) (.k (.v (.int .i64 4)))⟩,
  ⟨none, .ar ⟨.a, .d, .c⟩ .sub .i64 (.s ⟨.a, .d, .b⟩) (.k (.v (.int .i64 1)))⟩,
  ⟨none, .bld ⟨.a, .d, .d⟩ [(.v (.int .i64 0)), (.v (.int .i64 0)), (.v (.int .i64 0))] [(0, 1, (.s ⟨.a, .b, .d⟩)), (1, 1, (.s ⟨.a, .c, .f⟩)), (2, 1, (.s ⟨.a, .d, .c⟩))]⟩,
  ⟨none, .st (.s ⟨.a, .a, .e⟩) (.s ⟨.a, .d, .d⟩) 3⟩]
@[reducible] def p22c3 : PC := .seq (.reg p22r2) .ret
@[reducible] def p22c4 : PC := .seq (.reg p22r1) p22c3
@[reducible] def p22c5 : PC := .seq (.reg p22r0) p22c4
def p22 : PFun := ⟨p22c5, [(.c ⟨.a, .a, .e⟩ 3 true)]⟩
@[simp] theorem p22_b : p22.body = p22c5 := rfl
@[simp] theorem p22_r : p22.res = [(.c ⟨.a, .a, .e⟩ 3 true)] := rfl
theorem is22 : cFunB Try.prog 0 [] 22 = some p22 := by kernel_rfl
theorem na22 : ((Try.prog.funcs[22]?).map (·.ntmps)).any (2 ≤ ·) = true := by kernel_rfl
@[reducible] def p23r0 : List GI := [⟨none, .mov ⟨.a, .a, .e⟩ (.k (.v (.bool false)))⟩]
@[reducible] def p23r1 : List GI := [⟨none, .mov ⟨.a, .a, .g⟩ (.s ⟨.a, .a, .b⟩)⟩,
  ⟨none, .cmp ⟨.a, .a, .h⟩ .lss (.s ⟨.a, .a, .g⟩) (.k (.v (.int .i64 0)))⟩,
  ⟨none, .mov ⟨.a, .b, .a⟩ (.s ⟨.a, .a, .h⟩)⟩,
  ⟨some (⟨.a, .b, .a⟩, false), .mov ⟨.a, .b, .b⟩ (.s ⟨.a, .a, .b⟩)⟩,
  ⟨some (⟨.a, .b, .a⟩, false), .cmp ⟨.a, .b, .c⟩ .gtr (.s ⟨.a, .b, .b⟩) (.k (.v (.int .i64 40)))⟩,
  ⟨none, .pick ⟨.a, .b, .d⟩ (.s ⟨.a, .b, .a⟩) (.k (.v (.bool true))) (.s ⟨.a, .b, .c⟩)⟩]
@[reducible] def p23r2 : List GI := [⟨none, .mov ⟨.a, .a, .e⟩ (.k (.v (.bool false)))⟩]
@[reducible] def p23c3 : PC := .seq (.reg p23r2) .ret
@[reducible] def p23c4 : PC := .cond (.s ⟨.a, .b, .d⟩) p23c3 .skip
@[reducible] def p23c5 : PC := .seq (.reg p23r1) p23c4
@[reducible] def p23r6 : List GI := [⟨none, .mov ⟨.a, .a, .f⟩ (.k (.v (.int .i64 0)))⟩]
@[reducible] def p23r7 : List GI := [⟨none, .mov ⟨.a, .b, .e⟩ (.s ⟨.a, .a, .f⟩)⟩,
  ⟨none, .mov ⟨.a, .b, .f⟩ (.s ⟨.a, .a, .a⟩)⟩,
  ⟨none, .len ⟨.a, .b, .g⟩ (.s ⟨.a, .b, .f⟩)⟩,
  ⟨none, .cmp ⟨.a, .b, .h⟩ .lss (.s ⟨.a, .b, .e⟩) (.s ⟨.a, .b, .g⟩)⟩]
@[reducible] def p23c8 : PC := .cond (.s ⟨.a, .b, .h⟩) .skip (.exit 0)
@[reducible] def p23c9 : PC := .seq (.reg p23r7) p23c8
@[reducible] def p23r10 : List GI := [⟨none, .mov ⟨.a, .c, .c⟩ (.s ⟨.a, .a, .a⟩)⟩,
  ⟨none, .mov ⟨.a, .c, .d⟩ (.s ⟨.a, .a, .f⟩)⟩,
  ⟨none, .ia ⟨.a, .c, .e⟩ (.s ⟨.a, .c, .c⟩) (.s ⟨.a, .c, .d⟩) 3⟩,
  ⟨none, .fa ⟨.a, .c, .f⟩ (.s ⟨.a, .c, .e⟩) 0⟩,
  ⟨none, .ld ⟨.a, .c, .g⟩ 1 false (.s ⟨.a, .c, .f⟩)⟩,
  ⟨none, .cmp ⟨.a, .c, .h⟩ .lss (.s ⟨.a, .c, .g⟩) (.k (.v (.int .i64 0)))⟩,
  ⟨none, .mov ⟨.a, .d, .a⟩ (.s ⟨.a, .c, .h⟩)⟩,
  ⟨some (⟨.a, .d, .a⟩, false), .mov ⟨.a, .d, .b⟩ (.s ⟨.a, .a, .a⟩)⟩,
  ⟨some (⟨.a, .d, .a⟩, false), .mov ⟨.a, .d, .c⟩ (.s ⟨.a, .a, .f⟩)⟩,
  ⟨some (⟨.a, .d, .a⟩, false), .ia ⟨.a, .d, .d⟩ (.s ⟨.a, .d, .b⟩) (.s ⟨.a, .d, .c⟩) 3⟩,
  ⟨some (⟨.a, .d, .a⟩, false), .fa ⟨.a, .d, .e⟩ (.s ⟨.a, .d, .d⟩) 0⟩,
  ⟨some (⟨.a, .d, .a⟩, false), .ld ⟨.a, .d, .f⟩ 1 false (.s ⟨.a, .d, .e⟩)⟩,
  ⟨some (⟨.a, .d, .a⟩, false), .mov ⟨.a, .d, .g⟩ (.s ⟨.a, .a, .a⟩)⟩,
  ⟨some (⟨.a, .d, .a⟩, false), .mov ⟨.a, .d, .h⟩ (.s ⟨.a, .a, .f⟩)⟩,
  ⟨some (⟨.a, .d, .a⟩, false), .ia ⟨.a, .e, .a⟩ (.s ⟨.a, .d, .g⟩) (.s ⟨.a, .d, .h⟩) 3⟩,
  ⟨some (⟨.a, .d, .a⟩, false), .fa ⟨.a, .e, .b⟩ (.s ⟨.a, .e, .a⟩) 1⟩,
  ⟨some (⟨.a, .d, .a⟩, false), .ld ⟨.a, .e, .c⟩ 1 false (.s ⟨.a, .e, .b⟩)⟩,
  ⟨some (⟨.a, .d, .a⟩, false), .cmp ⟨.a, .e, .d⟩ .geq (.s ⟨.a, .d, .f⟩) (.s ⟨.a, .e, .c⟩)⟩,
  ⟨none, .pick ⟨.a, .e, .e⟩ (.s ⟨.a, .d, .a⟩) (.k (.v (.bool true))) (.s ⟨.a, .e, .d⟩)⟩,
  ⟨none, .mov ⟨.a, .e, .f⟩ (.s ⟨.a, .e, .e⟩)⟩,
  ⟨some (⟨.a, .e, .f⟩, false), .mov ⟨.a, .e, .g⟩ (.s ⟨.a, .a, .a⟩)⟩,
  ⟨some (⟨.a, .e, .f⟩, false), .mov ⟨.a, .e, .h⟩ (.s ⟨.a, .a, .f⟩)⟩,
  ⟨some (⟨.a, .e, .f⟩, false), .ia ⟨.a, .f, .a⟩ (.s ⟨.a, .e, .g⟩) (.s ⟨.a, .e, .h⟩) 3⟩,
  ⟨some (⟨.a, .e, .f⟩, false), .fa ⟨.a, .f, .b⟩ (.s ⟨.a, .f, .a⟩) 1⟩,
  ⟨some (⟨.a, .e, .f⟩, false), .ld ⟨.a, .f, .c⟩ 1 false (.s ⟨.a, .f, .b⟩)⟩,
  ⟨some (⟨.a, .e, .f⟩, false), .mov ⟨.a, .f, .d⟩ (.s ⟨.a, .a, .b⟩)⟩,
  ⟨some (⟨.a, .e, .f⟩, false), .cmp ⟨.a, .f, .e⟩ .gtr (.s ⟨.a, .f, .c⟩) (.s ⟨.a, .f, .d⟩)⟩,
  ⟨none, .pick ⟨.a, .f, .f⟩ (.s ⟨.a, .e, .f⟩) (.k (.v (.bool true))) (.s ⟨.a, .f, .e⟩)⟩,
  ⟨none, .mov ⟨.a, .f, .g⟩ (.s ⟨.a, .f, .f⟩)⟩,
  ⟨some (⟨.a, .f, .g⟩, false), .mov ⟨.a, .f, .h⟩ (.s ⟨.a, .a, .a⟩)⟩,
  ⟨some (⟨.a, .f, .g⟩, false), .mov ⟨.a, .g, .a⟩ (.s ⟨.a, .a, .f⟩)⟩,
  ⟨some (⟨.a, .f, .g⟩, false), .ia ⟨.a, .g, .b⟩ (.s ⟨.a, .f, .h⟩) (.s ⟨.a, .g, .a⟩) 3⟩,
  ⟨some (⟨.a, .f, .g⟩, false), .fa ⟨.a, .g, .c⟩ (.s ⟨.a, .g, .b⟩) 2⟩,
  ⟨some (⟨.a, .f, .g⟩, false), .ld ⟨.a, .g, .d⟩ 1 false (.s ⟨.a, .g, .c⟩)⟩,
  ⟨some (⟨.a, .f, .g⟩, false), .cmp ⟨.a, .g, .e⟩ .lss (.s ⟨.a, .g, .d⟩) (.k (.v (.int .i64 (-1))))⟩,
  ⟨none, .pick ⟨.a, .g, .f⟩ (.s ⟨.a, .f, .g⟩) (.k (.v (.bool true))) (.s ⟨.a, .g, .e⟩)⟩,
  ⟨none, .mov ⟨.a, .g, .g⟩ (.s ⟨.a, .g, .f⟩)⟩,
  ⟨some (⟨.a, .g, .g⟩, false), .mov ⟨.a, .g, .h⟩ (.s ⟨.a, .a, .a⟩)⟩,
  ⟨some (⟨.a, .g, .g⟩, false), .mov ⟨.a, .h, .a⟩ (.s ⟨.a, .a, .f⟩)⟩,
  ⟨some (⟨.a, .g, .g⟩, false), .ia ⟨.a, .h, .b⟩ (.s ⟨.a, .g, .h⟩) (.s ⟨.a, .h, .a⟩) 3⟩,
  ⟨some (⟨.a, .g, .g⟩, false), .fa ⟨.a, .h, .c⟩ (.s ⟨.a, .h, .b⟩) 2⟩,
  ⟨some (⟨.a, .g, .g⟩, false), .ld ⟨.a, .h, .d⟩ 1 false (.s ⟨.a, .h, .c⟩)⟩,
  ⟨some (⟨.a, .g, .g⟩, false), .cmp ⟨.a, .h, .e⟩ .geq (.s ⟨.a, .h, .d⟩) (.k (.v (.int .i64 200)))⟩,
  ⟨none, .pick ⟨.a, .h, .f⟩ (.s ⟨.a, .g, .g⟩) (.k (.v (.bool true))) (.s ⟨.a, .h, .e⟩)⟩,
  ⟨none, .mov ⟨.a, .h, .g⟩ (.s ⟨.a, .h, .f⟩)⟩,
  ⟨some (⟨.a, .h, .g⟩, false), .mov ⟨.a, .h, .h⟩ (.s ⟨.a, .a, .f⟩)⟩,
  ⟨some (⟨.a, .h, .g⟩, false), .cmp ⟨.b, .a, .a⟩ .gtr (.s ⟨.a, .h, .h⟩) (.k (.v (.int .i64 0)))⟩,
  ⟨some (⟨.a, .h, .g⟩, false), .mov ⟨.b, .a, .b⟩ (.s ⟨.b, .a, .a⟩)⟩,
  ⟨some (⟨.b, .a, .b⟩, true), .mov ⟨.b, .a, .c⟩ (.s ⟨.a, .a, .a⟩)⟩,
  ⟨some (⟨.b, .a, .b⟩, true), .mov ⟨.b, .a, .d⟩ (.s ⟨.a, .a, .f⟩)⟩,
  ⟨some (⟨.b, .a, .b⟩, true), .ia ⟨.b, .a, .e⟩ (.s ⟨.b, .a, .c⟩) (.s ⟨.b, .a, .d⟩) 3⟩,
  ⟨some (⟨.b, .a, .b⟩, true), .fa ⟨.b, .a, .f⟩ (.s ⟨.b, .a, .e⟩) 0⟩,
  ⟨some (⟨.b, .a, .b⟩, true), .ld ⟨.b, .a, .g⟩ 1 false (.s ⟨.b, .a, .f⟩)⟩,
  ⟨some (⟨.b, .a, .b⟩, true), .mov ⟨.b, .a, .h⟩ (.s ⟨.a, .a, .a⟩)⟩,
  ⟨some (⟨.b, .a, .b⟩, true), .mov ⟨.b, .b, .a⟩ (.s ⟨.a, .a, .f⟩)⟩,
  ⟨some (⟨.b, .a, .b⟩, true), .ar ⟨.b, .b, .b⟩ .sub .i64 (.s ⟨.b, .b, .a⟩) (.k (.v (.int .i64 1)))⟩,
  ⟨some (⟨.b, .a, .b⟩, true), .ia ⟨.b, .b, .c⟩ (.s ⟨.b, .a, .h⟩) (.s ⟨.b, .b, .b⟩) 3⟩,
  ⟨some (⟨.b, .a, .b⟩, true), .fa ⟨.b, .b, .d⟩ (.s ⟨.b, .b, .c⟩) 1⟩,
  ⟨some (⟨.b, .a, .b⟩, true), .ld ⟨.b, .b, .e⟩ 1 false (.s ⟨.b, .b, .d⟩)⟩,
  ⟨some (⟨.b, .a, .b⟩, true), .cmp ⟨.b, .b, .f⟩ .lss (.s ⟨.b, .a, .g⟩) (.s ⟨.b, .b, .e⟩)⟩,
  ⟨some (⟨.a, .h, .g⟩, false), .pick ⟨.b, .b, .g⟩ (.s ⟨.b, .a, .b⟩) (.s ⟨.b, .b, .f⟩) (.k (.v (.bool false)))⟩,
  ⟨none, .pick ⟨.b, .b, .h⟩ (.s ⟨.a, .h, .g⟩) (.k (.v (.bool true))) (.s ⟨.b, .b, .g⟩)⟩]
@[reducible] def p23r11 : List GI := [⟨none, .mov ⟨.a, .a, .e⟩ (.k (.v (.bool false)))⟩]
@[reducible] def p23c12 : PC := .seq (.reg p23r11) .ret
@[reducible] def p23c13 : PC := .cond (.s ⟨.b, .b, .h⟩) p23c12 .skip
@[reducible] def p23c14 : PC := .seq (.reg p23r10) p23c13
@[reducible] def p23c15 : PC := .block 1 p23c14
@[reducible] def p23r16 : List GI := [⟨none, .mov ⟨.a, .c, .a⟩ (.s ⟨.a, .a, .f⟩)⟩,
  ⟨none, .ar ⟨.a, .c, .b⟩ .add .i64 (.s ⟨.a, .c, .a⟩) (.k (.v (.int .i64 1)))⟩,
  ⟨none, .mov ⟨.a, .a, .f⟩ (.s ⟨.a, .c, .b⟩)⟩]
@[reducible] def p23c17 : PC := .seq p23c15 (.reg p23r16)
@[reducible] def p23c18 : PC := .seq p23c9 p23c17
@[reducible] def p23l19 : PC := .loop 0 [⟨.a, .b, .e⟩, ⟨.a, .b, .f⟩, ⟨.a, .b, .g⟩, ⟨.a, .b, .h⟩, ⟨.a, .c, .c⟩, ⟨.a, .c, .d⟩, ⟨.a, .c, .e⟩, ⟨.a, .c, .f⟩, ⟨.a, .c, .g⟩, ⟨.a, .c, .h⟩, ⟨.a, .d, .a⟩, ⟨.a, .d, .b⟩, ⟨.a, .d, .c⟩, ⟨.a, .d, .d⟩, ⟨.a, .d, .e⟩, ⟨.a, .d, .f⟩, ⟨.a, .d, .g⟩, ⟨.a, .d, .h⟩, ⟨.a, .e, .a⟩, ⟨.a, .e, .b⟩, ⟨.a, .e, .c⟩, ⟨.a, .e, .d⟩, ⟨.a, .e, .e⟩, ⟨.a, .e, .f⟩, ⟨.a, .e, .g⟩, ⟨.a, .e, .h⟩, ⟨.a, .f, .a⟩, ⟨.a, .f, .b⟩, ⟨.a, .f, .c⟩, ⟨.a, .f, .d⟩, ⟨.a, .f, .e⟩, ⟨.a, .f, .f⟩, ⟨.a, .f, .g⟩, ⟨.a, .f, .h⟩, ⟨.a, .g, .a⟩, ⟨.a, .g, .b⟩, ⟨.a, .g, .c⟩, ⟨.a, .g, .d⟩, ⟨.a, .g, .e⟩, ⟨.a, .g, .f⟩, ⟨.a, .g, .g⟩, ⟨.a, .g, .h⟩, ⟨.a, .h, .a⟩, ⟨.a, .h, .b⟩, ⟨.a, .h, .c⟩, ⟨.a, .h, .d⟩, ⟨.a, .h, .e⟩, ⟨.a, .h, .f⟩, ⟨.a, .h, .g⟩, ⟨.a, .h, .h⟩, ⟨.b, .a, .a⟩, ⟨.b, .a, .b⟩, ⟨.b, .a, .c⟩, ⟨.b, .a, .d⟩, ⟨.b, .a, .e⟩, ⟨.b, .a, .f⟩, ⟨.b, .a, .g⟩, ⟨.b, .a, .h⟩, ⟨.b, .b, .a⟩, ⟨.b, .b, .b⟩, ⟨.b, .b, .c⟩, ⟨.b, .b, .d⟩, ⟨.b, .b, .e⟩, ⟨.b, .b, .f⟩, ⟨.b, .b, .g⟩, ⟨.b, .b, .h⟩, ⟨.a, .a, .e⟩, ⟨.a, .c, .a⟩, ⟨.a, .c, .b⟩, ⟨.a, .a, .f⟩] p23c18
@[reducible] def p23c20 : PC := .block 0 p23l19
@[reducible] def p23c21 : PC := .seq (.reg p23r6) p23c20
@[reducible] def p23r22 : List GI := [⟨none, .mov ⟨.a, .a, .e⟩ (.k (.v (.bool true)))⟩]
@[reducible] def p23c23 : PC := .seq (.reg p23r22) .ret
@[reducible] def p23c24 : PC := .seq p23c21 p23c23
@[reducible] def p23c25 : PC := .seq p23c5 p23c24
@[reducible] def p23c26 : PC := .seq (.reg p23r0) p23c25
def p23 : PFun := ⟨p23c26, [(.t ⟨.a, .a, .e⟩)]⟩
@[simp] theorem p23_b : p23.body = p23c26 := rfl
@[simp] theorem p23_r : p23.res = [(.t ⟨.a, .a, .e⟩)] := rfl
theorem is23 : cFunB Try.prog 0 [] 23 = some p23 := by kernel_rfl
theorem na23 : ((Try.prog.funcs[23]?).map (·.ntmps)).any (2 ≤ ·) = true := by kernel_rfl
@[reducible] def p24r0 : List GI := [⟨none, .box ⟨.a, .a, .d⟩ (.s ⟨.a, .a, .b⟩)⟩,
  ⟨none, .mov ⟨.a, .a, .e⟩ (.k (.v (.bool false)))⟩]
@[reducible] def p24r1 : List GI := [⟨none, .mov ⟨.a, .a, .f⟩ (.k (.v (.int .i64 0)))⟩]
@[reducible] def p24r2 : List GI := [⟨none, .mov ⟨.a, .a, .g⟩ (.s ⟨.a, .a, .f⟩)⟩,
  ⟨none, .mov ⟨.a, .a, .h⟩ (.s ⟨.a, .a, .a⟩)⟩,
  ⟨none, .len ⟨.a, .b, .a⟩ (.s ⟨.a, .a, .h⟩)⟩,
  ⟨none, .cmp ⟨.a, .b, .b⟩ .lss (.s ⟨.a, .a, .g⟩) (.s ⟨.a, .b, .a⟩)⟩]
@[reducible] def p24c3 : PC := .cond (.s ⟨.a, .b, .b⟩) .skip (.exit 0)
@[reducible] def p24c4 : PC := .seq (.reg p24r2) p24c3
@[reducible] def p24r5 : List GI := [⟨none, .mov ⟨.a, .b, .e⟩ (.s ⟨.a, .a, .a⟩)⟩,
  ⟨none, .mov ⟨.a, .b, .f⟩ (.s ⟨.a, .a, .f⟩)⟩,
  ⟨none, .ia ⟨.a, .b, .g⟩ (.s ⟨.a, .b, .e⟩) (.s ⟨.a, .b, .f⟩) 3⟩,
  ⟨none, .ld ⟨.a, .b, .h⟩ 3 true (.s ⟨.a, .b, .g⟩)⟩,
  ⟨none, .ld ⟨.a, .c, .a⟩ 3 true (.s ⟨.a, .a, .d⟩)⟩,
  ⟨none, .aeq ⟨.a, .c, .b⟩ false [(.i .i64), (.i .i64), (.i .i64)] (.s ⟨.a, .b, .h⟩) (.s ⟨.a, .c, .a⟩)⟩]
@[reducible] def p24r6 : List GI := [⟨none, .mov ⟨.a, .a, .e⟩ (.k (.v (.bool true)))⟩]
@[reducible] def p24c7 : PC := .seq (.reg p24r6) .ret
@[reducible] def p24c8 : PC := .cond (.s ⟨.a, .c, .b⟩) p24c7 .skip
@[reducible] def p24c9 : PC := .seq (.reg p24r5) p24c8
@[reducible] def p24c10 : PC := .block 1 p24c9
@[reducible] def p24r11 : List GI := [⟨none, .mov ⟨.a, .b, .c⟩ (.s ⟨.a, .a, .f⟩)⟩,
  ⟨none, .ar ⟨.a, .b, .d⟩ .add .i64 (.s ⟨.a, .b, .c⟩) (.k (.v (.int .i64 1)))⟩,
  ⟨none, .mov ⟨.a, .a, .f⟩ (.s ⟨.a, .b, .d⟩)⟩]
@[reducible] def p24c12 : PC := .seq p24c10 (.reg p24r11)
@[reducible] def p24c13 : PC := .seq p24c4 p24c12
@[reducible] def p24l14 : PC := .loop 0 [⟨.a, .a, .g⟩, ⟨.a, .a, .h⟩, ⟨.a, .b, .a⟩, ⟨.a, .b, .b⟩, ⟨.a, .b, .e⟩, ⟨.a, .b, .f⟩, ⟨.a, .b, .g⟩, ⟨.a, .b, .h⟩, ⟨.a, .c, .a⟩, ⟨.a, .c, .b⟩, ⟨.a, .a, .e⟩, ⟨.a, .b, .c⟩, ⟨.a, .b, .d⟩, ⟨.a, .a, .f⟩] p24c13
@[reducible] def p24c15 : PC := .block 0 p24l14
@[reducible] def p24c16 : PC := .seq (.reg p24r1) p24c15
@[reducible] def p24r17 : List GI := [⟨none, .mov ⟨.a, .a, .e⟩ (.k (.v (.bool false)))⟩]
@[reducible] def p24c18 : PC := .seq (.reg p24r17) .ret
@[reducible] def p24c19 : PC := .seq p24c16 p24c18
@[reducible] def p24c20 : PC := .seq (.reg p24r0) p24c19
def p24 : PFun := ⟨p24c20, [(.t ⟨.a, .a, .e⟩)]⟩
@[simp] theorem p24_b : p24.body = p24c20 := rfl
@[simp] theorem p24_r : p24.res = [(.t ⟨.a, .a, .e⟩)] := rfl
theorem is24 : cFunB Try.prog 0 [] 24 = some p24 := by kernel_rfl
theorem na24 : ((Try.prog.funcs[24]?).map (·.ntmps)).any (2 ≤ ·) = true := by kernel_rfl
@[reducible] def p25r0 : List GI := [⟨none, .box ⟨.a, .a, .c⟩ (.s ⟨.a, .a, .a⟩)⟩,
  ⟨none, .box ⟨.a, .a, .d⟩ (.s ⟨.a, .a, .b⟩)⟩,
  ⟨none, .mov ⟨.a, .a, .e⟩ (.k (.v (.bool false)))⟩]
@[reducible] def p25r1 : List GI := [⟨none, .fa ⟨.a, .a, .f⟩ (.s ⟨.a, .a, .c⟩) 0⟩,
  ⟨none, .ld ⟨.a, .a, .g⟩ 1 false (.s ⟨.a, .a, .f⟩)⟩,
  ⟨none, .fa ⟨.a, .a, .h⟩ (.s ⟨.a, .a, .d⟩) 1⟩,
  ⟨none, .ld ⟨.a, .b, .a⟩ 1 false (.s ⟨.a, .a, .h⟩)⟩,
  ⟨none, .cmp ⟨.a, .b, .b⟩ .lss (.s ⟨.a, .a, .g⟩) (.s ⟨.a, .b, .a⟩)⟩,
  ⟨none, .mov ⟨.a, .b, .c⟩ (.s ⟨.a, .b, .b⟩)⟩,
  ⟨some (⟨.a, .b, .c⟩, true), .fa ⟨.a, .b, .d⟩ (.s ⟨.a, .a, .d⟩) 0⟩,
  ⟨some (⟨.a, .b, .c⟩, true), .ld ⟨.a, .b, .e⟩ 1 false (.s ⟨.a, .b, .d⟩)⟩,
  ⟨some (⟨.a, .b, .c⟩, true), .fa ⟨.a, .b, .f⟩ (.s ⟨.a, .a, .c⟩) 1⟩,
  ⟨some (⟨.a, .b, .c⟩, true), .ld ⟨.a, .b, .g⟩ 1 false (.s ⟨.a, .b, .f⟩)⟩,
  ⟨some (⟨.a, .b, .c⟩, true), .cmp ⟨.a, .b, .h⟩ .lss (.s ⟨.a, .b, .e⟩) (.s ⟨.a, .b, .g⟩)⟩,
  ⟨none, .pick ⟨.a, .c, .a⟩ (.s ⟨.a, .b, .c⟩) (.s ⟨.a, .b, .h⟩) (.k (.v (.bool false)))⟩,
  ⟨none, .mov ⟨.a, .a, .e⟩ (.s ⟨.a, .c, .a⟩)⟩]
@[reducible] def p25c2 : PC := .seq (.reg p25r1) .ret
@[reducible] def p25c3 : PC := .seq (.reg p25r0) p25c2
def p25 : PFun := ⟨p25c3, [(.t ⟨.a, .a, .e⟩)]⟩
@[simp] theorem p25_b : p25.body = p25c3 := rfl
@[simp] theorem p25_r : p25.res = [(.t ⟨.a, .a, .e⟩)] := rfl
theorem is25 : cFunB Try.prog 0 [] 25 = some p25 := by kernel_rfl
theorem na25 : ((Try.prog.funcs[25]?).map (·.ntmps)).any (2 ≤ ·) = true := by kernel_rfl
@[reducible] def p26r0 : List GI := [⟨none, .box ⟨.a, .a, .c⟩ (.s ⟨.a, .a, .a⟩)⟩,
  ⟨none, .mov ⟨.a, .a, .e⟩ (.k (.sl 0 [] .full))⟩]
@[reducible] def p26r1 : List GI := [⟨none, .lit ⟨.a, .b, .c⟩ 1 [(.sl 0 [] .full)] 0 []⟩,
  ⟨none, .mov ⟨.a, .a, .f⟩ (.s ⟨.a, .b, .c⟩)⟩]
@[reducible] def p26r2 : List GI := [⟨none, .mov ⟨.a, .b, .d⟩ (.s ⟨.a, .a, .b⟩)⟩,
  ⟨none, .fa ⟨.a, .b, .e⟩ (.s ⟨.a, .a, .c⟩) 0⟩,
  ⟨none, .ld ⟨.a, .b, .f⟩ 1 false (.s ⟨.a, .b, .e⟩)⟩,
  ⟨none, .cmp ⟨.a, .b, .g⟩ .eql (.s ⟨.a, .b, .d⟩) (.s ⟨.a, .b, .f⟩)⟩]
@[reducible] def p26r3 : List GI := [⟨none, .mov ⟨.a, .b, .h⟩ (.s ⟨.a, .a, .f⟩)⟩,
  ⟨none, .lit ⟨.a, .c, .a⟩ 4 [(.v (.int .i64 0)), (.v (.int .i64 0)), (.v (.int .i64 0)), (.v (.int .i64 0))] 0 []⟩,
  ⟨none, .lit ⟨.a, .c, .b⟩ 1 [(.sl 0 [] .full)] 1 [(0, (.s ⟨.a, .c, .a⟩))]⟩,
  ⟨none, .app ⟨.a, .c, .c⟩ (.s ⟨.a, .b, .h⟩) (.s ⟨.a, .c, .b⟩) 1 24 0 28⟩,
  ⟨none, .mov ⟨.a, .a, .e⟩ (.s ⟨.a, .c, .c⟩)⟩]
@[reducible] def p26c4 : PC := .seq (.reg p26r3) .ret
@[reducible] def p26c5 : PC := .cond (.s ⟨.a, .b, .g⟩) p26c4 .skip
@[reducible] def p26c6 : PC := .seq (.reg p26r2) p26c5
@[reducible] def p26r7 : List GI := [⟨none, .mov ⟨.a, .a, .g⟩ (.k (.v (.int .i64 0)))⟩]
@[reducible] def p26r8 : List GI := [⟨none, .mov ⟨.a, .c, .d⟩ (.s ⟨.a, .a, .g⟩)⟩,
  ⟨none, .fa ⟨.a, .c, .e⟩ (.s ⟨.a, .a, .c⟩) 1⟩,
  ⟨none, .ld ⟨.a, .c, .f⟩ 1 false (.s ⟨.a, .c, .e⟩)⟩,
  ⟨none, .len ⟨.a, .c, .g⟩ (.s ⟨.a, .c, .f⟩)⟩,
  ⟨none, .cmp ⟨.a, .c, .h⟩ .lss (.s ⟨.a, .c, .d⟩) (.s ⟨.a, .c, .g⟩)⟩]
@[reducible] def p26c9 : PC := .cond (.s ⟨.a, .c, .h⟩) .skip (.exit 0)
@[reducible] def p26c10 : PC := .seq (.reg p26r8) p26c9
@[reducible] def p26r11 : List GI := [⟨none, .fa ⟨.a, .d, .c⟩ (.s ⟨.a, .a, .c⟩) 1⟩,
  ⟨none, .ld ⟨.a, .d, .d⟩ 1 false (.s ⟨.a, .d, .c⟩)⟩,
  ⟨none, .mov ⟨.a, .d, .e⟩ (.s ⟨.a, .a, .g⟩)⟩,
  ⟨none, .ia ⟨.a, .d, .f⟩ (.s ⟨.a, .d, .d⟩) (.s ⟨.a, .d, .e⟩) 4⟩,
  ⟨none, .fa ⟨.a, .d, .g⟩ (.s ⟨.a, .d, .f⟩) 0⟩,
  ⟨none, .ld ⟨.a, .d, .h⟩ 1 false (.s ⟨.a, .d, .g⟩)⟩,
  ⟨none, .mov ⟨.a, .e, .a⟩ (.s ⟨.a, .a, .b⟩)⟩,
  ⟨none, .cmp ⟨.a, .e, .b⟩ .neq (.s ⟨.a, .d, .h⟩) (.s ⟨.a, .e, .a⟩)⟩]
@[reducible] def p26c12 : PC := .cond (.s ⟨.a, .e, .b⟩) (.exit 1) .skip
@[reducible] def p26c13 : PC := .seq (.reg p26r11) p26c12
@[reducible] def p26r14 : List GI := [⟨none, .ld ⟨.a, .e, .c⟩ 2 true (.s ⟨.a, .a, .c⟩)⟩,
  ⟨none, .fa ⟨.a, .e, .d⟩ (.s ⟨.a, .a, .c⟩) 1⟩,
  ⟨none, .ld ⟨.a, .e, .e⟩ 1 false (.s ⟨.a, .e, .d⟩)⟩,
  ⟨none, .mov ⟨.a, .e, .f⟩ (.s ⟨.a, .a, .g⟩)⟩,
  ⟨none, .ia ⟨.a, .e, .g⟩ (.s ⟨.a, .e, .e⟩) (.s ⟨.a, .e, .f⟩) 4⟩,
  ⟨none, .fa ⟨.a, .e, .h⟩ (.s ⟨.a, .e, .g⟩) 1⟩,
  ⟨none, .ld ⟨.a, .f, .a⟩ 1 false (.s ⟨.a, .e, .h⟩)⟩,
  ⟨none, .call ⟨.a, .f, .b⟩ 26 [(.s ⟨.a, .e, .c⟩), (.s ⟨.a, .f, .a⟩)]⟩,
  ⟨none, .mov ⟨.a, .a, .h⟩ (.s ⟨.a, .f, .b⟩)⟩]
@[reducible] def p26r15 : List GI := [⟨none, .mov ⟨.a, .b, .a⟩ (.k (.v (.int .i64 0)))⟩]
@[reducible] def p26r16 : List GI := [⟨none, .mov ⟨.a, .f, .c⟩ (.s ⟨.a, .b, .a⟩)⟩,
  ⟨none, .mov ⟨.a, .f, .d⟩ (.s ⟨.a, .a, .h⟩)⟩,
  ⟨none, .len ⟨.a, .f, .e⟩ (.s ⟨.a, .f, .d⟩)⟩,
  ⟨none, .cmp ⟨.a, .f, .f⟩ .lss (.s ⟨.a, .f, .c⟩) (.s ⟨.a, .f, .e⟩)⟩,
  ⟨none, .mov ⟨.a, .f, .g⟩ (.s ⟨.a, .f, .f⟩)⟩,
  ⟨some (⟨.a, .f, .g⟩, true), .mov ⟨.a, .f, .h⟩ (.s ⟨.a, .a, .f⟩)⟩,
  ⟨some (⟨.a, .f, .g⟩, true), .len ⟨.a, .g, .a⟩ (.s ⟨.a, .f, .h⟩)⟩,
  ⟨some (⟨.a, .f, .g⟩, true), .cmp ⟨.a, .g, .b⟩ .lss (.s ⟨.a, .g, .a⟩) (.k (.v (.int .i64 300)))⟩,
  ⟨none, .pick ⟨.a, .g, .c⟩ (.s ⟨.a, .f, .g⟩) (.s ⟨.a, .g, .b⟩) (.k (.v (.bool false)))⟩]
@[reducible] def p26c17 : PC := .cond (.s ⟨.a, .g, .c⟩) .skip (.exit 2)
@[reducible] def p26c18 : PC := .seq (.reg p26r16) p26c17
@[reducible] def p26r19 : List GI := [⟨none, .fa ⟨.a, .g, .f⟩ (.s ⟨.a, .a, .c⟩) 1⟩,
  ⟨none, .ld ⟨.a, .g, .g⟩ 1 false (.s ⟨.a, .g, .f⟩)⟩,
  ⟨none, .mov ⟨.a, .g, .h⟩ (.s ⟨.a, .a, .g⟩)⟩,
  ⟨none, .ia ⟨.a, .h, .a⟩ (.s ⟨.a, .g, .g⟩) (.s ⟨.a, .g, .h⟩) 4⟩,
  ⟨none, .ld ⟨.a, .h, .b⟩ 4 true (.s ⟨.a, .h, .a⟩)⟩,
  ⟨none, .lit ⟨.a, .h, .c⟩ 4 [(.v (.int .i64 0)), (.v (.int .i64 0)), (.v (.int .i64 0)), (.v (.int .i64 0))] 1 [(0, (.s ⟨.a, .h, .b⟩))]⟩,
  ⟨none, .mov ⟨.a, .h, .d⟩ (.s ⟨.a, .a, .h⟩)⟩,
  ⟨none, .mov ⟨.a, .h, .e⟩ (.s ⟨.a, .b, .a⟩)⟩,
  ⟨none, .ia ⟨.a, .h, .f⟩ (.s ⟨.a, .h, .d⟩) (.s ⟨.a, .h, .e⟩) 1⟩,
  ⟨none, .ld ⟨.a, .h, .g⟩ 1 false (.s ⟨.a, .h, .f⟩)⟩,
  ⟨none, .app ⟨.a, .h, .h⟩ (.s ⟨.a, .h, .c⟩) (.s ⟨.a, .h, .g⟩) 4 32 0 49⟩,
  ⟨none, .mov ⟨.a, .b, .b⟩ (.s ⟨.a, .h, .h⟩)⟩]
@[reducible] def p26r20 : List GI := [⟨none, .mov ⟨.b, .a, .a⟩ (.s ⟨.a, .a, .f⟩)⟩,
  ⟨none, .mov ⟨.b, .a, .b⟩ (.s ⟨.a, .b, .b⟩)⟩,
  ⟨none, .lit ⟨.b, .a, .c⟩ 1 [(.sl 0 [] .full)] 1 [(0, (.s ⟨.b, .a, .b⟩))]⟩,
  ⟨none, .app ⟨.b, .a, .d⟩ (.s ⟨.b, .a, .a⟩) (.s ⟨.b, .a, .c⟩) 1 24 0 28⟩,
  ⟨none, .mov ⟨.a, .a, .f⟩ (.s ⟨.b, .a, .d⟩)⟩]
@[reducible] def p26c21 : PC := .seq (.reg p26r19) (.reg p26r20)
@[reducible] def p26c22 : PC := .block 3 p26c21
@[reducible] def p26r23 : List GI := [⟨none, .mov ⟨.a, .g, .d⟩ (.s ⟨.a, .b, .a⟩)⟩,
  ⟨none, .ar ⟨.a, .g, .e⟩ .add .i64 (.s ⟨.a, .g, .d⟩) (.k (.v (.int .i64 1)))⟩,
  ⟨none, .mov ⟨.a, .b, .a⟩ (.s ⟨.a, .g, .e⟩)⟩]
@[reducible] def p26c24 : PC := .seq p26c22 (.reg p26r23)
@[reducible] def p26c25 : PC := .seq p26c18 p26c24
@[reducible] def p26l26 : PC := .loop 0 [⟨.a, .f, .c⟩, ⟨.a, .f, .d⟩, ⟨.a, .f, .e⟩, ⟨.a, .f, .f⟩, ⟨.a, .f, .g⟩, ⟨.a, .f, .h⟩, ⟨.a, .g, .a⟩, ⟨.a, .g, .b⟩, ⟨.a, .g, .c⟩, ⟨.a, .g, .f⟩, ⟨.a, .g, .g⟩, ⟨.a, .g, .h⟩, ⟨.a, .h, .a⟩, ⟨.a, .h, .b⟩, ⟨.a, .h, .c⟩, ⟨.a, .h, .d⟩, ⟨.a, .h, .e⟩, ⟨.a, .h, .f⟩, ⟨.a, .h, .g⟩, ⟨.a, .h, .h⟩, ⟨.a, .b, .b⟩, ⟨.b, .a, .a⟩, ⟨.b, .a, .b⟩, ⟨.b, .a, .c⟩, ⟨.b, .a, .d⟩, ⟨.a, .a, .f⟩, ⟨.a, .g, .d⟩, ⟨.a, .g, .e⟩, ⟨.a, .b, .a⟩] p26c25
@[reducible] def p26c27 : PC := .block 2 p26l26
@[reducible] def p26c28 : PC := .seq (.reg p26r15) p26c27
@[reducible] def p26c29 : PC := .seq (.reg p26r14) p26c28
@[reducible] def p26c30 : PC := .seq p26c13 p26c29
@[reducible] def p26c31 : PC := .block 1 p26c30
@[reducible] def p26r32 : List GI := [⟨none, .mov ⟨.a, .d, .a⟩ (.s ⟨.a, .a, .g⟩)⟩,
  ⟨none, .ar ⟨.a, .d, .b⟩ .add .i64 (.s ⟨.a, .d, .a⟩) (.k (.v (.int .i64 1)))⟩,
  ⟨none, .mov ⟨.a, .a, .g⟩ (.s ⟨.a, .d, .b⟩)⟩]
@[reducible] def p26c33 : PC := .seq p26c31 (.reg p26r32)
@[reducible] def p26c34 : PC := .seq p26c10 p26c33
@[reducible] def p26l35 : PC := .loop 0 [⟨.a, .c, .d⟩, ⟨.a, .c, .e⟩, ⟨.a, .c, .f⟩, ⟨.a, .c, .g⟩, ⟨.a, .c, .h⟩, ⟨.a, .d, .c⟩, ⟨.a, .d, .d⟩, ⟨.a, .d, .e⟩, ⟨.a, .d, .f⟩, ⟨.a, .d, .g⟩, ⟨.a, .d, .h⟩, ⟨.a, .e, .a⟩, ⟨.a, .e, .b⟩, ⟨.a, .e, .c⟩, ⟨.a, .e, .d⟩, ⟨.a, .e, .e⟩, ⟨.a, .e, .f⟩, ⟨.a, .e, .g⟩, ⟨.a, .e, .h⟩, ⟨.a, .f, .a⟩, ⟨.a, .f, .b⟩, ⟨.a, .a, .h⟩, ⟨.a, .b, .a⟩, ⟨.a, .f, .c⟩, ⟨.a, .f, .d⟩, ⟨.a, .f, .e⟩, ⟨.a, .f, .f⟩, ⟨.a, .f, .g⟩, ⟨.a, .f, .h⟩, ⟨.a, .g, .a⟩, ⟨.a, .g, .b⟩, ⟨.a, .g, .c⟩, ⟨.a, .g, .f⟩, ⟨.a, .g, .g⟩, ⟨.a, .g, .h⟩, ⟨.a, .h, .a⟩, ⟨.a, .h, .b⟩, ⟨.a, .h, .c⟩, ⟨.a, .h, .d⟩, ⟨.a, .h, .e⟩, ⟨.a, .h, .f⟩, ⟨.a, .h, .g⟩, ⟨.a, .h, .h⟩, ⟨.a, .b, .b⟩, ⟨.b, .a, .a⟩, ⟨.b, .a, .b⟩, ⟨.b, .a, .c⟩, ⟨.b, .a, .d⟩, ⟨.a, .a, .f⟩, ⟨.a, .g, .d⟩, ⟨.a, .g, .e⟩, ⟨.a, .d, .a⟩, ⟨.a, .d, .b⟩, ⟨.a, .a, .g⟩] p26c34
@[reducible] def p26c36 : PC := .block 0 p26l35
@[reducible] def p26c37 : PC := .seq (.reg p26r7) p26c36
@[reducible] def p26r38 : List GI := [⟨none, .mov ⟨.b, .a, .e⟩ (.s ⟨.a, .a, .f⟩)⟩,
  ⟨none, .mov ⟨.a, .a, .e⟩ (.s ⟨.b, .a, .e⟩)⟩]
@[reducible] def p26c39 : PC := .seq (.reg p26r38) .ret
@[reducible] def p26c40 : PC := .seq p26c37 p26c39
@[reducible] def p26c41 : PC := .seq p26c6 p26c40
@[reducible] def p26c42 : PC := .seq (.reg p26r1) p26c41
@[reducible] def p26c43 : PC := .seq (.reg p26r0) p26c42
def p26 : PFun := ⟨p26c43, [(.t ⟨.a, .a, .e⟩)]⟩
@[simp] theorem p26_b : p26.body = p26c43 := rfl
@[simp] theorem p26_r : p26.res = [(.t ⟨.a, .a, .e⟩)] := rfl
theorem is26 : cFunB Try.prog 0 [] 26 = some p26 := by kernel_rfl
theorem na26 : ((Try.prog.funcs[26]?).map (·.ntmps)).any (2 ≤ ·) = true := by kernel_rfl
@[reducible] def p27r0 : List GI := [⟨none, .mov ⟨.a, .a, .e⟩ (.k (.v (.bool false)))⟩]
@[reducible] def p27r1 : List GI := [⟨none, .mov ⟨.a, .a, .g⟩ (.s ⟨.a, .a, .a⟩)⟩,
  ⟨none, .len ⟨.a, .a, .h⟩ (.s ⟨.a, .a, .g⟩)⟩,
  ⟨none, .mov ⟨.a, .b, .a⟩ (.s ⟨.a, .a, .b⟩)⟩,
  ⟨none, .len ⟨.a, .b, .b⟩ (.s ⟨.a, .b, .a⟩)⟩,
  ⟨none, .cmp ⟨.a, .b, .c⟩ .neq (.s ⟨.a, .a, .h⟩) (.s ⟨.a, .b, .b⟩)⟩]
@[reducible] def p27r2 : List GI := [⟨none, .mov ⟨.a, .a, .e⟩ (.k (.v (.bool false)))⟩]
@[reducible] def p27c3 : PC := .seq (.reg p27r2) .ret
@[reducible] def p27c4 : PC := .cond (.s ⟨.a, .b, .c⟩) p27c3 .skip
@[reducible] def p27c5 : PC := .seq (.reg p27r1) p27c4
@[reducible] def p27r6 : List GI := [⟨none, .mov ⟨.a, .a, .f⟩ (.k (.v (.int .i64 0)))⟩]
@[reducible] def p27r7 : List GI := [⟨none, .mov ⟨.a, .b, .d⟩ (.s ⟨.a, .a, .f⟩)⟩,
  ⟨none, .mov ⟨.a, .b, .e⟩ (.s ⟨.a, .a, .a⟩)⟩,
  ⟨none, .len ⟨.a, .b, .f⟩ (.s ⟨.a, .b, .e⟩)⟩,
  ⟨none, .cmp ⟨.a, .b, .g⟩ .lss (.s ⟨.a, .b, .d⟩) (.s ⟨.a, .b, .f⟩)⟩]
@[reducible] def p27c8 : PC := .cond (.s ⟨.a, .b, .g⟩) .skip (.exit 0)
@[reducible] def p27c9 : PC := .seq (.reg p27r7) p27c8
@[reducible] def p27r10 : List GI := [⟨none, .mov ⟨.a, .c, .b⟩ (.s ⟨.a, .a, .a⟩)⟩,
  ⟨none, .mov ⟨.a, .c, .c⟩ (.s ⟨.a, .a, .f⟩)⟩,
  ⟨none, .ia ⟨.a, .c, .d⟩ (.s ⟨.a, .c, .b⟩) (.s ⟨.a, .c, .c⟩) 1⟩,
  ⟨none, .ld ⟨.a, .c, .e⟩ 1 false (.s ⟨.a, .c, .d⟩)⟩,
  ⟨none, .bld ⟨.a, .c, .f⟩ [(.v (.int .i64 0)), (.sl 0 [] .full)] [(1, 1, (.s ⟨.a, .c, .e⟩))]⟩,
  ⟨none, .mov ⟨.a, .c, .g⟩ (.s ⟨.a, .a, .b⟩)⟩,
  ⟨none, .mov ⟨.a, .c, .h⟩ (.s ⟨.a, .a, .f⟩)⟩,
  ⟨none, .ia ⟨.a, .d, .a⟩ (.s ⟨.a, .c, .g⟩) (.s ⟨.a, .c, .h⟩) 1⟩,
  ⟨none, .ld ⟨.a, .d, .b⟩ 1 false (.s ⟨.a, .d, .a⟩)⟩,
  ⟨none, .bld ⟨.a, .d, .c⟩ [(.v (.int .i64 0)), (.sl 0 [] .full)] [(1, 1, (.s ⟨.a, .d, .b⟩))]⟩,
  ⟨none, .call ⟨.a, .d, .d⟩ 15 [(.s ⟨.a, .c, .f⟩), (.s ⟨.a, .d, .c⟩)]⟩,
  ⟨none, .not ⟨.a, .d, .e⟩ (.s ⟨.a, .d, .d⟩)⟩]
@[reducible] def p27r11 : List GI := [⟨none, .mov ⟨.a, .a, .e⟩ (.k (.v (.bool false)))⟩]
@[reducible] def p27c12 : PC := .seq (.reg p27r11) .ret
@[reducible] def p27c13 : PC := .cond (.s ⟨.a, .d, .e⟩) p27c12 .skip
@[reducible] def p27c14 : PC := .seq (.reg p27r10) p27c13
@[reducible] def p27c15 : PC := .block 1 p27c14
@[reducible] def p27r16 : List GI := [⟨none, .mov ⟨.a, .b, .h⟩ (.s ⟨.a, .a, .f⟩)⟩,
  ⟨none, .ar ⟨.a, .c, .a⟩ .add .i64 (.s ⟨.a, .b, .h⟩) (.k (.v (.int .i64 1)))⟩,
  ⟨none, .mov ⟨.a, .a, .f⟩ (.s ⟨.a, .c, .a⟩)⟩]
@[reducible] def p27c17 : PC := .seq p27c15 (.reg p27r16)
@[reducible] def p27c18 : PC := .seq p27c9 p27c17
@[reducible] def p27l19 : PC := .loop 0 [⟨.a, .b, .d⟩, ⟨.a, .b, .e⟩, ⟨.a, .b, .f⟩, ⟨.a, .b, .g⟩, ⟨.a, .c, .b⟩, ⟨.a, .c, .c⟩, ⟨.a, .c, .d⟩, ⟨.a, .c, .e⟩, ⟨.a, .c, .f⟩, ⟨.a, .c, .g⟩, ⟨.a, .c, .h⟩, ⟨.a, .d, .a⟩, ⟨.a, .d, .b⟩, ⟨.a, .d, .c⟩, ⟨.a, .d, .d⟩, ⟨.a, .d, .e⟩, ⟨.a, .a, .e⟩, ⟨.a, .b, .h⟩, ⟨.a, .c, .a⟩, ⟨.a, .a, .f⟩] p27c18
@[reducible] def p27c20 : PC := .block 0 p27l19
@[reducible] def p27c21 : PC := .seq (.reg p27r6) p27c20
@[reducible] def p27r22 : List GI := [⟨none, .mov ⟨.a, .a, .e⟩ (.k (.v (.bool true)))⟩]
@[reducible] def p27c23 : PC := .seq (.reg p27r22) .ret
@[reducible] def p27c24 : PC := .seq p27c21 p27c23
@[reducible] def p27c25 : PC := .seq p27c5 p27c24
@[reducible] def p27c26 : PC := .seq (.reg p27r0) p27c25
def p27 : PFun := ⟨p27c26, [(.t ⟨.a, .a, .e⟩)]⟩
@[simp] theorem p27_b : p27.body = p27c26 := rfl
@[simp] theorem p27_r : p27.res = [(.t ⟨.a, .a, .e⟩)] := rfl
theorem is27 : cFunB Try.prog 0 [] 27 = some p27 := by kernel_rfl
theorem na27 : ((Try.prog.funcs[27]?).map (·.ntmps)).any (2 ≤ ·) = true := by kernel_rfl
@[reducible] def p39r0 : List GI := [⟨none, .box ⟨.a, .a, .c⟩ (.s ⟨.a, .a, .a⟩)⟩,
  ⟨none, .box ⟨.a, .a, .d⟩ (.s ⟨.a, .a, .b⟩)⟩,
  ⟨none, .mov ⟨.a, .a, .e⟩ (.k (.v (.bool false)))⟩]
@[reducible] def p39r1 : List GI := [⟨none, .fa ⟨.a, .a, .f⟩ (.s ⟨.a, .a, .c⟩) 0⟩,
  ⟨none, .ld ⟨.a, .a, .g⟩ 1 false (.s ⟨.a, .a, .f⟩)⟩,
  ⟨none, .fa ⟨.a, .a, .h⟩ (.s ⟨.a, .a, .d⟩) 0⟩,
  ⟨none, .ld ⟨.a, .b, .a⟩ 1 false (.s ⟨.a, .a, .h⟩)⟩,
  ⟨none, .cmp ⟨.a, .b, .b⟩ .eql (.s ⟨.a, .a, .g⟩) (.s ⟨.a, .b, .a⟩)⟩,
  ⟨none, .mov ⟨.a, .b, .c⟩ (.s ⟨.a, .b, .b⟩)⟩,
  ⟨some (⟨.a, .b, .c⟩, true), .fa ⟨.a, .b, .d⟩ (.s ⟨.a, .a, .c⟩) 1⟩,
  ⟨some (⟨.a, .b, .c⟩, true), .ld ⟨.a, .b, .e⟩ 1 false (.s ⟨.a, .b, .d⟩)⟩,
  ⟨some (⟨.a, .b, .c⟩, true), .fa ⟨.a, .b, .f⟩ (.s ⟨.a, .a, .d⟩) 1⟩,
  ⟨some (⟨.a, .b, .c⟩, true), .ld ⟨.a, .b, .g⟩ 1 false (.s ⟨.a, .b, .f⟩)⟩,
  ⟨some (⟨.a, .b, .c⟩, true), .cmp ⟨.a, .b, .h⟩ .eql (.s ⟨.a, .b, .e⟩) (.s ⟨.a, .b, .g⟩)⟩,
  ⟨none, .pick ⟨.a, .c, .a⟩ (.s ⟨.a, .b, .c⟩) (.s ⟨.a, .b, .h⟩) (.k (.v (.bool false)))⟩]
@[reducible] def p39r2 : List GI := [⟨none, .fa ⟨.a, .c, .b⟩ (.s ⟨.a, .a, .d⟩) 2⟩,
  ⟨none, .ld ⟨.a, .c, .c⟩ 1 false (.s ⟨.a, .c, .b⟩)⟩,
  ⟨none, .cmp ⟨.a, .c, .d⟩ .neq (.s ⟨.a, .c, .c⟩) (.k (.v (.int .i64 (-1))))⟩,
  ⟨none, .mov ⟨.a, .c, .e⟩ (.s ⟨.a, .c, .d⟩)⟩,
  ⟨some (⟨.a, .c, .e⟩, true), .fa ⟨.a, .c, .f⟩ (.s ⟨.a, .a, .d⟩) 2⟩,
  ⟨some (⟨.a, .c, .e⟩, true), .ld ⟨.a, .c, .g⟩ 1 false (.s ⟨.a, .c, .f⟩)⟩,
  ⟨some (⟨.a, .c, .e⟩, true), .fa ⟨.a, .c, .h⟩ (.s ⟨.a, .a, .c⟩) 2⟩,
  ⟨some (⟨.a, .c, .e⟩, true), .ld ⟨.a, .d, .a⟩ 1 false (.s ⟨.a, .c, .h⟩)⟩,
  ⟨some (⟨.a, .c, .e⟩, true), .cmp ⟨.a, .d, .b⟩ .neq (.s ⟨.a, .c, .g⟩) (.s ⟨.a, .d, .a⟩)⟩,
  ⟨none, .pick ⟨.a, .d, .c⟩ (.s ⟨.a, .c, .e⟩) (.s ⟨.a, .d, .b⟩) (.k (.v (.bool false)))⟩,
  ⟨none, .mov ⟨.a, .a, .e⟩ (.s ⟨.a, .d, .c⟩)⟩]
@[reducible] def p39c3 : PC := .seq (.reg p39r2) .ret
@[reducible] def p39c4 : PC := .cond (.s ⟨.a, .c, .a⟩) p39c3 .skip
@[reducible] def p39c5 : PC := .seq (.reg p39r1) p39c4
@[reducible] def p39r6 : List GI := [⟨none, .fa ⟨.a, .d, .d⟩ (.s ⟨.a, .a, .c⟩) 0⟩,
  ⟨none, .ld ⟨.a, .d, .e⟩ 1 false (.s ⟨.a, .d, .d⟩)⟩,
  ⟨none, .fa ⟨.a, .d, .f⟩ (.s ⟨.a, .a, .d⟩) 1⟩,
  ⟨none, .ld ⟨.a, .d, .g⟩ 1 false (.s ⟨.a, .d, .f⟩)⟩,
  ⟨none, .cmp ⟨.a, .d, .h⟩ .lss (.s ⟨.a, .d, .e⟩) (.s ⟨.a, .d, .g⟩)⟩,
  ⟨none, .mov ⟨.a, .e, .a⟩ (.s ⟨.a, .d, .h⟩)⟩,
  ⟨some (⟨.a, .e, .a⟩, true), .fa ⟨.a, .e, .b⟩ (.s ⟨.a, .a, .d⟩) 0⟩,
  ⟨some (⟨.a, .e, .a⟩, true), .ld ⟨.a, .e, .c⟩ 1 false (.s ⟨.a, .e, .b⟩)⟩,
  ⟨some (⟨.a, .e, .a⟩, true), .fa ⟨.a, .e, .d⟩ (.s ⟨.a, .a, .c⟩) 1⟩,
  ⟨some (⟨.a, .e, .a⟩, true), .ld ⟨.a, .e, .e⟩ 1 false (.s ⟨.a, .e, .d⟩)⟩,
  ⟨some (⟨.a, .e, .a⟩, true), .cmp ⟨.a, .e, .f⟩ .lss (.s ⟨.a, .e, .c⟩) (.s ⟨.a, .e, .e⟩)⟩,
  ⟨none, .pick ⟨.a, .e, .g⟩ (.s ⟨.a, .e, .a⟩) (.s ⟨.a, .e, .f⟩) (.k (.v (.bool false)))⟩,
  ⟨none, .mov ⟨.a, .a, .e⟩ (.s ⟨.a, .e, .g⟩)⟩]
@[reducible] def p39c7 : PC := .seq (.reg p39r6) .ret
@[reducible] def p39c8 : PC := .seq p39c5 p39c7
@[reducible] def p39c9 : PC := .seq (.reg p39r0) p39c8
def p39 : PFun := ⟨p39c9, [(.t ⟨.a, .a, .e⟩)]⟩
@[simp] theorem p39_b : p39.body = p39c9 := rfl
@[simp] theorem p39_r : p39.res = [(.t ⟨.a, .a, .e⟩)] := rfl
theorem is39 : cFunB Try.prog 0 [] 39 = some p39 := by kernel_rfl
theorem na39 : ((Try.prog.funcs[39]?).map (·.ntmps)).any (2 ≤ ·) = true := by kernel_rfl
@[reducible] def p44r0 : List GI := [⟨none, .mov ⟨.a, .a, .c⟩ (.k (.v (.bool false)))⟩]
@[reducible] def p44r1 : List GI := [⟨none, .mov ⟨.a, .a, .d⟩ (.s ⟨.a, .a, .a⟩)⟩,
  ⟨none, .mov ⟨.a, .a, .e⟩ (.s ⟨.a, .a, .a⟩)⟩,
  ⟨none, .cmp ⟨.a, .a, .f⟩ .neq (.s ⟨.a, .a, .d⟩) (.s ⟨.a, .a, .e⟩)⟩,
  ⟨none, .mov ⟨.a, .a, .c⟩ (.s ⟨.a, .a, .f⟩)⟩]
@[reducible] def p44c2 : PC := .seq (.reg p44r1) .ret
@[reducible] def p44c3 : PC := .seq (.reg p44r0) p44c2
def p44 : PFun := ⟨p44c3, [(.t ⟨.a, .a, .c⟩)]⟩
@[simp] theorem p44_b : p44.body = p44c3 := rfl
@[simp] theorem p44_r : p44.res = [(.t ⟨.a, .a, .c⟩)] := rfl
theorem is44 : cFunB Try.prog 0 [] 44 = some p44 := by kernel_rfl
theorem na44 : ((Try.prog.funcs[44]?).map (·.ntmps)).any (1 ≤ ·) = true := by kernel_rfl
@[reducible] def p28r0 : List GI := [⟨none, .mov ⟨.a, .a, .e⟩ (.k (.v (.bool false)))⟩]
@[reducible] def p28r1 : List GI := [⟨none, .mov ⟨.a, .a, .f⟩ (.k (.v (.int .i64 0)))⟩]
@[reducible] def p28r2 : List GI := [⟨none, .mov ⟨.a, .b, .a⟩ (.s ⟨.a, .a, .a⟩)⟩,
  ⟨none, .len ⟨.a, .b, .b⟩ (.s ⟨.a, .b, .a⟩)⟩,
  ⟨none, .mov ⟨.a, .b, .c⟩ (.k (.v (.int .i64 0)))⟩]
@[reducible] def p28r3 : List GI := [⟨none, .cmp ⟨.a, .b, .d⟩ .lss (.s ⟨.a, .b, .c⟩) (.s ⟨.a, .b, .b⟩)⟩]
@[reducible] def p28c4 : PC := .cond (.s ⟨.a, .b, .d⟩) .skip (.exit 0)
@[reducible] def p28r5 : List GI := [⟨none, .ia ⟨.a, .b, .e⟩ (.s ⟨.a, .b, .a⟩) (.s ⟨.a, .b, .c⟩) 3⟩,
  ⟨none, .ld ⟨.a, .b, .f⟩ 3 true (.s ⟨.a, .b, .e⟩)⟩,
  ⟨none, .new ⟨.a, .a, .h⟩ [(.v (.int .i64 0)), (.v (.int .i64 0)), (.v (.int .i64 0))]⟩,
  ⟨none, .st (.s ⟨.a, .a, .h⟩) (.s ⟨.a, .b, .f⟩) 3⟩]
@[reducible] def p28r6 : List GI := [⟨none, .fa ⟨.a, .b, .g⟩ (.s ⟨.a, .a, .h⟩) 0⟩,
  ⟨none, .ld ⟨.a, .b, .h⟩ 1 false (.s ⟨.a, .b, .g⟩)⟩,
  ⟨none, .mov ⟨.a, .c, .a⟩ (.s ⟨.a, .a, .f⟩)⟩,
  ⟨none, .cmp ⟨.a, .c, .b⟩ .lss (.s ⟨.a, .b, .h⟩) (.s ⟨.a, .c, .a⟩)⟩,
  ⟨none, .mov ⟨.a, .c, .c⟩ (.s ⟨.a, .c, .b⟩)⟩,
  ⟨some (⟨.a, .c, .c⟩, false), .fa ⟨.a, .c, .d⟩ (.s ⟨.a, .a, .h⟩) 0⟩,
  ⟨some (⟨.a, .c, .c⟩, false), .ld ⟨.a, .c, .e⟩ 1 false (.s ⟨.a, .c, .d⟩)⟩,
  ⟨some (⟨.a, .c, .c⟩, false), .fa ⟨.a, .c, .f⟩ (.s ⟨.a, .a, .h⟩) 1⟩,
  ⟨some (⟨.a, .c, .c⟩, false), .ld ⟨.a, .c, .g⟩ 1 false (.s ⟨.a, .c, .f⟩)⟩,
  ⟨some (⟨.a, .c, .c⟩, false), .cmp ⟨.a, .c, .h⟩ .geq (.s ⟨.a, .c, .e⟩) (.s ⟨.a, .c, .g⟩)⟩,
  ⟨none, .pick ⟨.a, .d, .a⟩ (.s ⟨.a, .c, .c⟩) (.k (.v (.bool true))) (.s ⟨.a, .c, .h⟩)⟩,
  ⟨none, .mov ⟨.a, .d, .b⟩ (.s ⟨.a, .d, .a⟩)⟩,
  ⟨some (⟨.a, .d, .b⟩, false), .fa ⟨.a, .d, .c⟩ (.s ⟨.a, .a, .h⟩) 2⟩,
  ⟨some (⟨.a, .d, .b⟩, false), .ld ⟨.a, .d, .d⟩ 1 false (.s ⟨.a, .d, .c⟩)⟩,
  ⟨some (⟨.a, .d, .b⟩, false), .cmp ⟨.a, .d, .e⟩ .lss (.s ⟨.a, .d, .d⟩) (.k (.v (.int .i64 (-1))))⟩,
  ⟨none, .pick ⟨.a, .d, .f⟩ (.s ⟨.a, .d, .b⟩) (.k (.v (.bool true))) (.s ⟨.a, .d, .e⟩)⟩,
  ⟨none, .mov ⟨.a, .d, .g⟩ (.s ⟨.a, .d, .f⟩)⟩,
  ⟨some (⟨.a, .d, .g⟩, false), .fa ⟨.a, .d, .h⟩ (.s ⟨.a, .a, .h⟩) 2⟩,
  ⟨some (⟨.a, .d, .g⟩, false), .ld ⟨.a, .e, .a⟩ 1 false (.s ⟨.a, .d, .h⟩)⟩,
  ⟨some (⟨.a, .d, .g⟩, false), .cmp ⟨.a, .e, .b⟩ .geq (.s ⟨.a, .e, .a⟩) (.k (.v (.int .i64 200)))⟩,
  ⟨none, .pick ⟨.a, .e, .c⟩ (.s ⟨.a, .d, .g⟩) (.k (.v (.bool true))) (.s ⟨.a, .e, .b⟩)⟩]
@[reducible] def p28r7 : List GI := [⟨none, .mov ⟨.a, .a, .e⟩ (.k (.v (.bool false)))⟩]
@[reducible] def p28c8 : PC := .seq (.reg p28r7) .ret
@[reducible] def p28c9 : PC := .cond (.s ⟨.a, .e, .c⟩) p28c8 .skip
@[reducible] def p28c10 : PC := .seq (.reg p28r6) p28c9
@[reducible] def p28r11 : List GI := [⟨none, .fa ⟨.a, .e, .d⟩ (.s ⟨.a, .a, .h⟩) 1⟩,
  ⟨none, .ld ⟨.a, .e, .e⟩ 1 false (.s ⟨.a, .e, .d⟩)⟩,
  ⟨none, .mov ⟨.a, .a, .f⟩ (.s ⟨.a, .e, .e⟩)⟩]
@[reducible] def p28c12 : PC := .seq p28c10 (.reg p28r11)
@[reducible] def p28c13 : PC := .seq (.reg p28r5) p28c12
@[reducible] def p28c14 : PC := .block 1 p28c13
@[reducible] def p28r15 : List GI := [⟨none, .ar ⟨.a, .e, .f⟩ .add .i64 (.s ⟨.a, .b, .c⟩) (.k (.v (.int .i64 1)))⟩,
  ⟨none, .mov ⟨.a, .b, .c⟩ (.s ⟨.a, .e, .f⟩)⟩]
@[reducible] def p28c16 : PC := .seq p28c14 (.reg p28r15)
@[reducible] def p28c17 : PC := .seq p28c4 p28c16
@[reducible] def p28c18 : PC := .seq (.reg p28r3) p28c17
@[reducible] def p28l19 : PC := .loop 0 [⟨.a, .b, .d⟩, ⟨.a, .b, .e⟩, ⟨.a, .b, .f⟩, ⟨.a, .a, .h⟩, ⟨.a, .b, .g⟩, ⟨.a, .b, .h⟩, ⟨.a, .c, .a⟩, ⟨.a, .c, .b⟩, ⟨.a, .c, .c⟩, ⟨.a, .c, .d⟩, ⟨.a, .c, .e⟩, ⟨.a, .c, .f⟩, ⟨.a, .c, .g⟩, ⟨.a, .c, .h⟩, ⟨.a, .d, .a⟩, ⟨.a, .d, .b⟩, ⟨.a, .d, .c⟩, ⟨.a, .d, .d⟩, ⟨.a, .d, .e⟩, ⟨.a, .d, .f⟩, ⟨.a, .d, .g⟩, ⟨.a, .d, .h⟩, ⟨.a, .e, .a⟩, ⟨.a, .e, .b⟩, ⟨.a, .e, .c⟩, ⟨.a, .a, .e⟩, ⟨.a, .e, .d⟩, ⟨.a, .e, .e⟩, ⟨.a, .a, .f⟩, ⟨.a, .e, .f⟩, ⟨.a, .b, .c⟩] p28c18
@[reducible] def p28c20 : PC := .block 0 p28l19
@[reducible] def p28c21 : PC := .seq (.reg p28r2) p28c20
@[reducible] def p28r22 : List GI := [⟨none, .mov ⟨.a, .e, .g⟩ (.s ⟨.a, .a, .b⟩)⟩,
  ⟨none, .cmp ⟨.a, .e, .h⟩ .geq (.s ⟨.a, .e, .g⟩) (.k (.v (.int .i64 0)))⟩,
  ⟨none, .mov ⟨.a, .f, .a⟩ (.s ⟨.a, .e, .h⟩)⟩,
  ⟨some (⟨.a, .f, .a⟩, true), .mov ⟨.a, .f, .b⟩ (.s ⟨.a, .a, .b⟩)⟩,
  ⟨some (⟨.a, .f, .a⟩, true), .cmp ⟨.a, .f, .c⟩ .leq (.s ⟨.a, .f, .b⟩) (.k (.v (.int .i64 40)))⟩,
  ⟨none, .pick ⟨.a, .f, .d⟩ (.s ⟨.a, .f, .a⟩) (.s ⟨.a, .f, .c⟩) (.k (.v (.bool false)))⟩,
  ⟨none, .mov ⟨.a, .f, .e⟩ (.s ⟨.a, .f, .d⟩)⟩,
  ⟨some (⟨.a, .f, .e⟩, true), .mov ⟨.a, .f, .f⟩ (.s ⟨.a, .a, .f⟩)⟩,
  ⟨some (⟨.a, .f, .e⟩, true), .mov ⟨.a, .f, .g⟩ (.s ⟨.a, .a, .b⟩)⟩,
  ⟨some (⟨.a, .f, .e⟩, true), .cmp ⟨.a, .f, .h⟩ .leq (.s ⟨.a, .f, .f⟩) (.s ⟨.a, .f, .g⟩)⟩,
  ⟨none, .pick ⟨.a, .g, .a⟩ (.s ⟨.a, .f, .e⟩) (.s ⟨.a, .f, .h⟩) (.k (.v (.bool false)))⟩,
  ⟨none, .mov ⟨.a, .a, .e⟩ (.s ⟨.a, .g, .a⟩)⟩]
@[reducible] def p28c23 : PC := .seq (.reg p28r22) .ret
@[reducible] def p28c24 : PC := .seq p28c21 p28c23
@[reducible] def p28c25 : PC := .seq (.reg p28r1) p28c24
@[reducible] def p28c26 : PC := .seq (.reg p28r0) p28c25
def p28 : PFun := ⟨p28c26, [(.t ⟨.a, .a, .e⟩)]⟩
@[simp] theorem p28_b : p28.body = p28c26 := rfl
@[simp] theorem p28_r : p28.res = [(.t ⟨.a, .a, .e⟩)] := rfl
theorem is28 : cFunB Try.prog 0 [] 28 = some p28 := by kernel_rfl
theorem na28 : ((Try.prog.funcs[28]?).map (·.ntmps)).any (2 ≤ ·) = true := by kernel_rfl
@[reducible] def p31r0 : List GI := [⟨none, .box ⟨.a, .a, .c⟩ (.s ⟨.a, .a, .a⟩)⟩,
  ⟨none, .box ⟨.a, .a, .d⟩ (.s ⟨.a, .a, .b⟩)⟩,
  ⟨none, .mov ⟨.a, .a, .e⟩ (.k (.v (.bool false)))⟩]
@[reducible] def p31r1 : List GI := [⟨none, .fa ⟨.a, .a, .f⟩ (.s ⟨.a, .a, .c⟩) 0⟩,
  ⟨none, .ld ⟨.a, .a, .g⟩ 1 false (.s ⟨.a, .a, .f⟩)⟩,
  ⟨none, .fa ⟨.a, .a, .h⟩ (.s ⟨.a, .a, .d⟩) 1⟩,
  ⟨none, .ld ⟨.a, .b, .a⟩ 1 false (.s ⟨.a, .a, .h⟩)⟩,
  ⟨none, .cmp ⟨.a, .b, .b⟩ .lss (.s ⟨.a, .a, .g⟩) (.s ⟨.a, .b, .a⟩)⟩,
  ⟨none, .mov ⟨.a, .b, .c⟩ (.s ⟨.a, .b, .b⟩)⟩,
  ⟨some (⟨.a, .b, .c⟩, true), .fa ⟨.a, .b, .d⟩ (.s ⟨.a, .a, .d⟩) 0⟩,
  ⟨some (⟨.a, .b, .c⟩, true), .ld ⟨.a, .b, .e⟩ 1 false (.s ⟨.a, .b, .d⟩)⟩,
  ⟨some (⟨.a, .b, .c⟩, true), .fa ⟨.a, .b, .f⟩ (.s ⟨.a, .a, .c⟩) 1⟩,
  ⟨some (⟨.a, .b, .c⟩, true), .ld ⟨.a, .b, .g⟩ 1 false (.s ⟨.a, .b, .f⟩)⟩,
  ⟨some (⟨.a, .b, .c⟩, true), .cmp ⟨.a, .b, .h⟩ .lss (.s ⟨.a, .b, .e⟩) (.s ⟨.a, .b, .g⟩)⟩,
  ⟨none, .pick ⟨.a, .c, .a⟩ (.s ⟨.a, .b, .c⟩) (.s ⟨.a, .b, .h⟩) (.k (.v (.bool false)))⟩,
  ⟨none, .mov ⟨.a, .a, .e⟩ (.s ⟨.a, .c, .a⟩)⟩]
@[reducible] def p31c2 : PC := .seq (.reg p31r1) .ret
@[reducible] def p31c3 : PC := .seq (.reg p31r0) p31c2
def p31 : PFun := ⟨p31c3, [(.t ⟨.a, .a, .e⟩)]⟩
@[simp] theorem p31_b : p31.body = p31c3 := rfl
@[simp] theorem p31_r : p31.res = [(.t ⟨.a, .a, .e⟩)] := rfl
theorem is31 : cFunB Try.prog 0 [] 31 = some p31 := by kernel_rfl
theorem na31 : ((Try.prog.funcs[31]?).map (·.ntmps)).any (2 ≤ ·) = true := by kernel_rfl
@[reducible] def p38r0 : List GI := [⟨none, .box ⟨.a, .a, .c⟩ (.s ⟨.a, .a, .a⟩)⟩,
  ⟨none, .box ⟨.a, .a, .d⟩ (.s ⟨.a, .a, .b⟩)⟩,
  ⟨none, .mov ⟨.a, .a, .e⟩ (.k (.v (.bool false)))⟩]
@[reducible] def p38r1 : List GI := [⟨none, .fa ⟨.a, .a, .g⟩ (.s ⟨.a, .a, .c⟩) 0⟩,
  ⟨none, .ld ⟨.a, .a, .h⟩ 1 false (.s ⟨.a, .a, .g⟩)⟩,
  ⟨none, .fa ⟨.a, .b, .a⟩ (.s ⟨.a, .a, .c⟩) 1⟩,
  ⟨none, .ld ⟨.a, .b, .b⟩ 1 false (.s ⟨.a, .b, .a⟩)⟩,
  ⟨none, .fa ⟨.a, .b, .c⟩ (.s ⟨.a, .a, .d⟩) 2⟩,
  ⟨none, .ld ⟨.a, .b, .d⟩ 1 false (.s ⟨.a, .b, .c⟩)⟩,
  ⟨none, .bld ⟨.a, .b, .e⟩ [(.v (.int .i64 0)), (.v (.int .i64 0)), (.v (.int .i64 0))] [(0, 1, (.s ⟨.a, .a, .h⟩)), (1, 1, (.s ⟨.a, .b, .b⟩)), (2, 1, (.s ⟨.a, .b, .d⟩))]⟩,
  ⟨none, .new ⟨.a, .a, .f⟩ [(.v (.int .i64 0)), (.v (.int .i64 0)), (.v (.int .i64 0))]⟩,
  ⟨none, .st (.s ⟨.a, .a, .f⟩) (.s ⟨.a, .b, .e⟩) 3⟩]
@[reducible] def p38r2 : List GI := [⟨none, .ld ⟨.a, .b, .f⟩ 3 true (.s ⟨.a, .a, .d⟩)⟩,
  ⟨none, .ld ⟨.a, .b, .g⟩ 3 true (.s ⟨.a, .a, .f⟩)⟩,
  ⟨none, .aeq ⟨.a, .b, .h⟩ false [(.i .i64), (.i .i64), (.i .i64)] (.s ⟨.a, .b, .f⟩) (.s ⟨.a, .b, .g⟩)⟩]
@[reducible] def p38r3 : List GI := [⟨none, .fa ⟨.a, .c, .a⟩ (.s ⟨.a, .a, .d⟩) 2⟩,
  ⟨none, .ld ⟨.a, .c, .b⟩ 1 false (.s ⟨.a, .c, .a⟩)⟩,
  ⟨none, .cmp ⟨.a, .c, .c⟩ .neq (.s ⟨.a, .c, .b⟩) (.k (.v (.int .i64 (-1))))⟩,
  ⟨none, .mov ⟨.a, .c, .d⟩ (.s ⟨.a, .c, .c⟩)⟩,
  ⟨some (⟨.a, .c, .d⟩, true), .fa ⟨.a, .c, .e⟩ (.s ⟨.a, .a, .d⟩) 2⟩,
  ⟨some (⟨.a, .c, .d⟩, true), .ld ⟨.a, .c, .f⟩ 1 false (.s ⟨.a, .c, .e⟩)⟩,
  ⟨some (⟨.a, .c, .d⟩, true), .fa ⟨.a, .c, .g⟩ (.s ⟨.a, .a, .c⟩) 2⟩,
  ⟨some (⟨.a, .c, .d⟩, true), .ld ⟨.a, .c, .h⟩ 1 false (.s ⟨.a, .c, .g⟩)⟩,
  ⟨some (⟨.a, .c, .d⟩, true), .cmp ⟨.a, .d, .a⟩ .neq (.s ⟨.a, .c, .f⟩) (.s ⟨.a, .c, .h⟩)⟩,
  ⟨none, .pick ⟨.a, .d, .b⟩ (.s ⟨.a, .c, .d⟩) (.s ⟨.a, .d, .a⟩) (.k (.v (.bool false)))⟩,
  ⟨none, .mov ⟨.a, .a, .e⟩ (.s ⟨.a, .d, .b⟩)⟩]
@[reducible] def p38c4 : PC := .seq (.reg p38r3) .ret
@[reducible] def p38c5 : PC := .cond (.s ⟨.a, .b, .h⟩) p38c4 .skip
@[reducible] def p38c6 : PC := .seq (.reg p38r2) p38c5
@[reducible] def p38r7 : List GI := [⟨none, .ld ⟨.a, .d, .c⟩ 3 true (.s ⟨.a, .a, .d⟩)⟩,
  ⟨none, .ld ⟨.a, .d, .d⟩ 3 true (.s ⟨.a, .a, .f⟩)⟩,
  ⟨none, .call ⟨.a, .d, .e⟩ 31 [(.s ⟨.a, .d, .c⟩), (.s ⟨.a, .d, .d⟩)]⟩,
  ⟨none, .mov ⟨.a, .a, .e⟩ (.s ⟨.a, .d, .e⟩)⟩]
@[reducible] def p38c8 : PC := .seq (.reg p38r7) .ret
@[reducible] def p38c9 : PC := .seq p38c6 p38c8
@[reducible] def p38c10 : PC := .seq (.reg p38r1) p38c9
@[reducible] def p38c11 : PC := .seq (.reg p38r0) p38c10
def p38 : PFun := ⟨p38c11, [(.t ⟨.a, .a, .e⟩)]⟩
@[simp] theorem p38_b : p38.body = p38c11 := rfl
@[simp] theorem p38_r : p38.res = [(.t ⟨.a, .a, .e⟩)] := rfl
theorem is38 : cFunB Try.prog 0 [] 38 = some p38 := by kernel_rfl
theorem na38 : ((Try.prog.funcs[38]?).map (·.ntmps)).any (2 ≤ ·) = true := by kernel_rfl
@[reducible] def p34r0 : List GI := [⟨none, .mov ⟨.a, .a, .e⟩ (.k (.v (.int .i64 0)))⟩]
@[reducible] def p34r1 : List GI := [⟨none, .mov ⟨.a, .a, .h⟩ (.s ⟨.a, .a, .a⟩)⟩,
  ⟨none, .call ⟨.a, .b, .a⟩ 44 [(.s ⟨.a, .a, .h⟩)]⟩,
  ⟨none, .mov ⟨.a, .a, .f⟩ (.s ⟨.a, .b, .a⟩)⟩]
@[reducible] def p34r2 : List GI := [⟨none, .mov ⟨.a, .b, .b⟩ (.s ⟨.a, .a, .b⟩)⟩,
  ⟨none, .call ⟨.a, .b, .c⟩ 44 [(.s ⟨.a, .b, .b⟩)]⟩,
  ⟨none, .mov ⟨.a, .a, .g⟩ (.s ⟨.a, .b, .c⟩)⟩]
@[reducible] def p34r3 : List GI := [⟨none, .mov ⟨.a, .b, .d⟩ (.s ⟨.a, .a, .f⟩)⟩]
@[reducible] def p34r4 : List GI := [⟨none, .mov ⟨.a, .b, .e⟩ (.s ⟨.a, .a, .g⟩)⟩]
@[reducible] def p34r5 : List GI := [⟨none, .mov ⟨.a, .a, .e⟩ (.k (.v (.int .i64 0)))⟩]
@[reducible] def p34c6 : PC := .seq (.reg p34r5) .ret
@[reducible] def p34c7 : PC := .cond (.s ⟨.a, .b, .e⟩) p34c6 .skip
@[reducible] def p34c8 : PC := .seq (.reg p34r4) p34c7
@[reducible] def p34r9 : List GI := [⟨none, .mov ⟨.a, .a, .e⟩ (.k (.v (.int .i64 (-1))))⟩]
@[reducible] def p34c10 : PC := .seq (.reg p34r9) .ret
@[reducible] def p34c11 : PC := .seq p34c8 p34c10
@[reducible] def p34c12 : PC := .cond (.s ⟨.a, .b, .d⟩) p34c11 .skip
@[reducible] def p34c13 : PC := .seq (.reg p34r3) p34c12
@[reducible] def p34r14 : List GI := [⟨none, .mov ⟨.a, .b, .f⟩ (.s ⟨.a, .a, .g⟩)⟩]
@[reducible] def p34r15 : List GI := [⟨none, .mov ⟨.a, .a, .e⟩ (.k (.v (.int .i64 1)))⟩]
@[reducible] def p34c16 : PC := .seq (.reg p34r15) .ret
@[reducible] def p34c17 : PC := .cond (.s ⟨.a, .b, .f⟩) p34c16 .skip
@[reducible] def p34c18 : PC := .seq (.reg p34r14) p34c17
@[reducible] def p34r19 : List GI := [⟨none, .mov ⟨.a, .b, .g⟩ (.s ⟨.a, .a, .a⟩)⟩,
  ⟨none, .mov ⟨.a, .b, .h⟩ (.s ⟨.a, .a, .b⟩)⟩,
  ⟨none, .cmp ⟨.a, .c, .a⟩ .lss (.s ⟨.a, .b, .g⟩) (.s ⟨.a, .b, .h⟩)⟩]
@[reducible] def p34r20 : List GI := [⟨none, .mov ⟨.a, .a, .e⟩ (.k (.v (.int .i64 (-1))))⟩]
@[reducible] def p34c21 : PC := .seq (.reg p34r20) .ret
@[reducible] def p34c22 : PC := .cond (.s ⟨.a, .c, .a⟩) p34c21 .skip
@[reducible] def p34c23 : PC := .seq (.reg p34r19) p34c22
@[reducible] def p34r24 : List GI := [⟨none, .mov ⟨.a, .c, .b⟩ (.s ⟨.a, .a, .a⟩)⟩,
  ⟨none, .mov ⟨.a, .c, .c⟩ (.s ⟨.a, .a, .b⟩)⟩,
  ⟨none, .cmp ⟨.a, .c, .d⟩ .gtr (.s ⟨.a, .c, .b⟩) (.s ⟨.a, .c, .c⟩)⟩]
@[reducible] def p34r25 : List GI := [⟨none, .mov ⟨.a, .a, .e⟩ (.k (.v (.int .i64 1)))⟩]
@[reducible] def p34c26 : PC := .seq (.reg p34r25) .ret
@[reducible] def p34c27 : PC := .cond (.s ⟨.a, .c, .d⟩) p34c26 .skip
@[reducible] def p34c28 : PC := .seq (.reg p34r24) p34c27
@[reducible] def p34r29 : List GI := [⟨none, .mov ⟨.a, .a, .e⟩ (.k (.v (.int .i64 0)))⟩]
@[reducible] def p34c30 : PC := .seq (.reg p34r29) .ret
@[reducible] def p34c31 : PC := .seq p34c28 p34c30
@[reducible] def p34c32 : PC := .seq p34c23 p34c31
@[reducible] def p34c33 : PC := .seq p34c18 p34c32
@[reducible] def p34c34 : PC := .seq p34c13 p34c33
@[reducible] def p34c35 : PC := .seq (.reg p34r2) p34c34
@[reducible] def p34c36 : PC := .seq (.reg p34r1) p34c35
@[reducible] def p34c37 : PC := .seq (.reg p34r0) p34c36
def p34 : PFun := ⟨p34c37, [(.t ⟨.a, .a, .e⟩)]⟩
@[simp] theorem p34_b : p34.body = p34c37 := rfl
@[simp] theorem p34_r : p34.res = [(.t ⟨.a, .a, .e⟩)] := rfl
theorem is34 : cFunB Try.prog 0 [] 34 = some p34 := by kernel_rfl
theorem na34 : ((Try.prog.funcs[34]?).map (·.ntmps)).any (2 ≤ ·) = true := by kernel_rfl
@[reducible] def p30r0 : List GI := [⟨none, .box ⟨.a, .a, .c⟩ (.s ⟨.a, .a, .a⟩)⟩,
  ⟨none, .mov ⟨.a, .a, .d⟩ (.k (.v (.bool false)))⟩]
@[reducible] def p30r1 : List GI := [⟨none, .ld ⟨.a, .a, .e⟩ 3 true (.s ⟨.a, .a, .b⟩)⟩,
  ⟨none, .ld ⟨.a, .a, .f⟩ 3 true (.s ⟨.a, .a, .c⟩)⟩,
  ⟨none, .call ⟨.a, .a, .g⟩ 31 [(.s ⟨.a, .a, .e⟩), (.s ⟨.a, .a, .f⟩)]⟩,
  ⟨none, .mov ⟨.a, .a, .d⟩ (.s ⟨.a, .a, .g⟩)⟩]
@[reducible] def p30c2 : PC := .seq (.reg p30r1) .ret
@[reducible] def p30c3 : PC := .seq (.reg p30r0) p30c2
def p30 : PFun := ⟨p30c3, [(.t ⟨.a, .a, .d⟩)]⟩
@[simp] theorem p30_b : p30.body = p30c3 := rfl
@[simp] theorem p30_r : p30.res = [(.t ⟨.a, .a, .d⟩)] := rfl
theorem is30 : cFunB Try.prog 0 [] 30 = some p30 := by kernel_rfl
theorem na30 : ((Try.prog.funcs[30]?).map (·.ntmps)).any (2 ≤ ·) = true := by kernel_rfl
@[reducible] def p33r0 : List GI := [⟨none, .box ⟨.a, .a, .c⟩ (.s ⟨.a, .a, .a⟩)⟩,
  ⟨none, .box ⟨.a, .a, .d⟩ (.s ⟨.a, .a, .b⟩)⟩,
  ⟨none, .mov ⟨.a, .a, .e⟩ (.k (.v (.int .i64 0)))⟩]
@[reducible] def p33r1 : List GI := [⟨none, .fa ⟨.a, .a, .f⟩ (.s ⟨.a, .a, .c⟩) 0⟩,
  ⟨none, .ld ⟨.a, .a, .g⟩ 1 false (.s ⟨.a, .a, .f⟩)⟩,
  ⟨none, .fa ⟨.a, .a, .h⟩ (.s ⟨.a, .a, .d⟩) 0⟩,
  ⟨none, .ld ⟨.a, .b, .a⟩ 1 false (.s ⟨.a, .a, .h⟩)⟩,
  ⟨none, .call ⟨.a, .b, .b⟩ 34 [(.s ⟨.a, .a, .g⟩), (.s ⟨.a, .b, .a⟩)]⟩,
  ⟨none, .mov ⟨.a, .a, .e⟩ (.s ⟨.a, .b, .b⟩)⟩]
@[reducible] def p33c2 : PC := .seq (.reg p33r1) .ret
@[reducible] def p33c3 : PC := .seq (.reg p33r0) p33c2
def p33 : PFun := ⟨p33c3, [(.t ⟨.a, .a, .e⟩)]⟩
@[simp] theorem p33_b : p33.body = p33c3 := rfl
@[simp] theorem p33_r : p33.res = [(.t ⟨.a, .a, .e⟩)] := rfl
theorem is33 : cFunB Try.prog 0 [] 33 = some p33 := by kernel_rfl
theorem na33 : ((Try.prog.funcs[33]?).map (·.ntmps)).any (2 ≤ ·) = true := by kernel_rfl
@[reducible] def p37r0 : List GI := [⟨none, .box ⟨.a, .a, .c⟩ (.s ⟨.a, .a, .a⟩)⟩,
  ⟨none, .mov ⟨.a, .a, .d⟩ (.k (.v (.bool false)))⟩]
@[reducible] def p37r1 : List GI := [⟨none, .ld ⟨.a, .a, .e⟩ 4 true (.s ⟨.a, .a, .b⟩)⟩,
  ⟨none, .ld ⟨.a, .a, .f⟩ 3 true (.s ⟨.a, .a, .c⟩)⟩,
  ⟨none, .call ⟨.a, .a, .g⟩ 38 [(.s ⟨.a, .a, .e⟩), (.s ⟨.a, .a, .f⟩)]⟩,
  ⟨none, .mov ⟨.a, .a, .d⟩ (.s ⟨.a, .a, .g⟩)⟩]
@[reducible] def p37c2 : PC := .seq (.reg p37r1) .ret
@[reducible] def p37c3 : PC := .seq (.reg p37r0) p37c2
def p37 : PFun := ⟨p37c3, [(.t ⟨.a, .a, .d⟩)]⟩
@[simp] theorem p37_b : p37.body = p37c3 := rfl
@[simp] theorem p37_r : p37.res = [(.t ⟨.a, .a, .d⟩)] := rfl
theorem is37 : cFunB Try.prog 0 [] 37 = some p37 := by kernel_rfl
theorem na37 : ((Try.prog.funcs[37]?).map (·.ntmps)).any (2 ≤ ·) = true := by kernel_rfl
@[reducible] def p41r0 : List GI := [⟨none, .box ⟨.a, .a, .c⟩ (.s ⟨.a, .a, .a⟩)⟩,
  ⟨none, .mov ⟨.a, .a, .d⟩ (.k (.v (.bool false)))⟩]
@[reducible] def p41r1 : List GI := [⟨none, .fa ⟨.a, .a, .e⟩ (.s ⟨.a, .a, .c⟩) 0⟩,
  ⟨none, .ld ⟨.a, .a, .f⟩ 1 false (.s ⟨.a, .a, .e⟩)⟩,
  ⟨none, .ld ⟨.a, .a, .g⟩ 1 false (.s ⟨.a, .a, .b⟩)⟩,
  ⟨none, .cmp ⟨.a, .a, .h⟩ .lss (.s ⟨.a, .a, .f⟩) (.s ⟨.a, .a, .g⟩)⟩,
  ⟨none, .mov ⟨.a, .b, .a⟩ (.s ⟨.a, .a, .h⟩)⟩,
  ⟨some (⟨.a, .b, .a⟩, true), .ld ⟨.a, .b, .b⟩ 1 false (.s ⟨.a, .a, .b⟩)⟩,
  ⟨some (⟨.a, .b, .a⟩, true), .fa ⟨.a, .b, .c⟩ (.s ⟨.a, .a, .c⟩) 1⟩,
  ⟨some (⟨.a, .b, .a⟩, true), .ld ⟨.a, .b, .d⟩ 1 false (.s ⟨.a, .b, .c⟩)⟩,
  ⟨some (⟨.a, .b, .a⟩, true), .cmp ⟨.a, .b, .e⟩ .lss (.s ⟨.a, .b, .b⟩) (.s ⟨.a, .b, .d⟩)⟩,
  ⟨none, .pick ⟨.a, .b, .f⟩ (.s ⟨.a, .b, .a⟩) (.s ⟨.a, .b, .e⟩) (.k (.v (.bool false)))⟩,
  ⟨none, .mov ⟨.a, .a, .d⟩ (.s ⟨.a, .b, .f⟩)⟩]
@[reducible] def p41c2 : PC := .seq (.reg p41r1) .ret
@[reducible] def p41c3 : PC := .seq (.reg p41r0) p41c2
def p41 : PFun := ⟨p41c3, [(.t ⟨.a, .a, .d⟩)]⟩
@[simp] theorem p41_b : p41.body = p41c3 := rfl
@[simp] theorem p41_r : p41.res = [(.t ⟨.a, .a, .d⟩)] := rfl
theorem is41 : cFunB Try.prog 0 [] 41 = some p41 := by kernel_rfl
theorem na41 : ((Try.prog.funcs[41]?).map (·.ntmps)).any (2 ≤ ·) = true := by kernel_rfl
@[reducible] def p42r0 : List GI := [⟨none, .box ⟨.a, .a, .c⟩ (.s ⟨.a, .a, .a⟩)⟩,
  ⟨none, .mov ⟨.a, .a, .d⟩ (.k (.v (.bool false)))⟩]
@[reducible] def p42r1 : List GI := [⟨none, .fa ⟨.a, .a, .e⟩ (.s ⟨.a, .a, .c⟩) 0⟩,
  ⟨none, .ld ⟨.a, .a, .f⟩ 1 false (.s ⟨.a, .a, .e⟩)⟩,
  ⟨none, .ld ⟨.a, .a, .g⟩ 1 false (.s ⟨.a, .a, .b⟩)⟩,
  ⟨none, .cmp ⟨.a, .a, .h⟩ .leq (.s ⟨.a, .a, .f⟩) (.s ⟨.a, .a, .g⟩)⟩,
  ⟨none, .mov ⟨.a, .b, .a⟩ (.s ⟨.a, .a, .h⟩)⟩,
  ⟨some (⟨.a, .b, .a⟩, true), .ld ⟨.a, .b, .b⟩ 1 false (.s ⟨.a, .a, .b⟩)⟩,
  ⟨some (⟨.a, .b, .a⟩, true), .fa ⟨.a, .b, .c⟩ (.s ⟨.a, .a, .c⟩) 1⟩,
  ⟨some (⟨.a, .b, .a⟩, true), .ld ⟨.a, .b, .d⟩ 1 false (.s ⟨.a, .b, .c⟩)⟩,
  ⟨some (⟨.a, .b, .a⟩, true), .cmp ⟨.a, .b, .e⟩ .lss (.s ⟨.a, .b, .b⟩) (.s ⟨.a, .b, .d⟩)⟩,
  ⟨none, .pick ⟨.a, .b, .f⟩ (.s ⟨.a, .b, .a⟩) (.s ⟨.a, .b, .e⟩) (.k (.v (.bool false)))⟩,
  ⟨none, .mov ⟨.a, .a, .d⟩ (.s ⟨.a, .b, .f⟩)⟩]
@[reducible] def p42c2 : PC := .seq (.reg p42r1) .ret
@[reducible] def p42c3 : PC := .seq (.reg p42r0) p42c2
def p42 : PFun := ⟨p42c3, [(.t ⟨.a, .a, .d⟩)]⟩
@[simp] theorem p42_b : p42.body = p42c3 := rfl
@[simp] theorem p42_r : p42.res = [(.t ⟨.a, .a, .d⟩)] := rfl
theorem is42 : cFunB Try.prog 0 [] 42 = some p42 := by kernel_rfl
theorem na42 : ((Try.prog.funcs[42]?).map (·.ntmps)).any (2 ≤ ·) = true := by kernel_rfl
@[reducible] def p36r0 : List GI := [⟨none, .mov ⟨.a, .a, .e⟩ (.k (.v (.bool false)))⟩]
@[reducible] def p36r1 : List GI := [⟨none, .mov ⟨.a, .a, .f⟩ (.s ⟨.a, .a, .a⟩)⟩,
  ⟨none, .mov ⟨.a, .a, .g⟩ (.s ⟨.a, .a, .b⟩)⟩,
  ⟨none, .call ⟨.a, .a, .h⟩ 47 [(.s ⟨.a, .a, .f⟩), (.s ⟨.a, .a, .g⟩)]⟩,
  ⟨none, .cmp ⟨.a, .b, .a⟩ .geq (.s ⟨.a, .a, .h⟩) (.k (.v (.int .i64 0)))⟩,
  ⟨none, .mov ⟨.a, .a, .e⟩ (.s ⟨.a, .b, .a⟩)⟩]
@[reducible] def p36c2 : PC := .seq (.reg p36r1) .ret
@[reducible] def p36c3 : PC := .seq (.reg p36r0) p36c2
def p36 : PFun := ⟨p36c3, [(.t ⟨.a, .a, .e⟩)]⟩
@[simp] theorem p36_b : p36.body = p36c3 := rfl
@[simp] theorem p36_r : p36.res = [(.t ⟨.a, .a, .e⟩)] := rfl
theorem is36 : cFunB Try.prog 0 [] 36 = some p36 := by kernel_rfl
theorem na36 : ((Try.prog.funcs[36]?).map (·.ntmps)).any (2 ≤ ·) = true := by kernel_rfl
@[reducible] def p32r0 : List GI := [⟨none, .box ⟨.a, .a, .e⟩ (.s ⟨.a, .a, .b⟩)⟩,
  ⟨none, .mov ⟨.a, .a, .g⟩ (.k (.v (.int .i64 0)))⟩,
  ⟨none, .mov ⟨.a, .a, .h⟩ (.k (.v (.bool false)))⟩]
@[reducible] def p32r1 : List GI := [⟨none, .mov ⟨.a, .b, .e⟩ (.s ⟨.a, .a, .a⟩)⟩,
  ⟨none, .len ⟨.a, .b, .f⟩ (.s ⟨.a, .b, .e⟩)⟩,
  ⟨none, .mov ⟨.a, .b, .a⟩ (.s ⟨.a, .b, .f⟩)⟩]
@[reducible] def p32r2 : List GI := [⟨none, .mov ⟨.a, .b, .g⟩ (.s ⟨.a, .b, .a⟩)⟩,
  ⟨none, .mov ⟨.a, .b, .b⟩ (.k (.v (.int .i64 0)))⟩,
  ⟨none, .mov ⟨.a, .b, .c⟩ (.s ⟨.a, .b, .g⟩)⟩]
@[reducible] def p32r3 : List GI := [⟨none, .mov ⟨.a, .b, .h⟩ (.s ⟨.a, .b, .b⟩)⟩,
  ⟨none, .mov ⟨.a, .c, .a⟩ (.s ⟨.a, .b, .c⟩)⟩,
  ⟨none, .cmp ⟨.a, .c, .b⟩ .lss (.s ⟨.a, .b, .h⟩) (.s ⟨.a, .c, .a⟩)⟩]
@[reducible] def p32c4 : PC := .cond (.s ⟨.a, .c, .b⟩) .skip (.exit 0)
@[reducible] def p32c5 : PC := .seq (.reg p32r3) p32c4
@[reducible] def p32r6 : List GI := [⟨none, .mov ⟨.a, .c, .c⟩ (.s ⟨.a, .b, .b⟩)⟩,
  ⟨none, .mov ⟨.a, .c, .d⟩ (.s ⟨.a, .b, .c⟩)⟩,
  ⟨none, .ar ⟨.a, .c, .e⟩ .add .i64 (.s ⟨.a, .c, .c⟩) (.s ⟨.a, .c, .d⟩)⟩,
  ⟨none, .cvi ⟨.a, .c, .f⟩ .u64 (.s ⟨.a, .c, .e⟩)⟩,
  ⟨none, .sh ⟨.a, .c, .g⟩ .shr .u64 (.s ⟨.a, .c, .f⟩) (.k (.v (.int .u64 1)))⟩,
  ⟨none, .cvi ⟨.a, .c, .h⟩ .i64 (.s ⟨.a, .c, .g⟩)⟩,
  ⟨none, .mov ⟨.a, .b, .d⟩ (.s ⟨.a, .c, .h⟩)⟩]
@[reducible] def p32r7 : List GI := [⟨none, .mov ⟨.a, .d, .a⟩ (.s ⟨.a, .a, .c⟩)⟩,
  ⟨none, .mov ⟨.a, .d, .b⟩ (.s ⟨.a, .a, .a⟩)⟩,
  ⟨none, .mov ⟨.a, .d, .c⟩ (.s ⟨.a, .b, .d⟩)⟩,
  ⟨none, .ia ⟨.a, .d, .d⟩ (.s ⟨.a, .d, .b⟩) (.s ⟨.a, .d, .c⟩) 3⟩,
  ⟨none, .ld ⟨.a, .d, .e⟩ 3 true (.s ⟨.a, .d, .d⟩)⟩,
  ⟨none, .ld ⟨.a, .d, .f⟩ 3 true (.s ⟨.a, .a, .e⟩)⟩,
  ⟨none, .calv ⟨.a, .d, .g⟩ (.s ⟨.a, .d, .a⟩) [(.s ⟨.a, .d, .e⟩), (.s ⟨.a, .d, .f⟩)]⟩,
  ⟨none, .cmp ⟨.a, .d, .h⟩ .lss (.s ⟨.a, .d, .g⟩) (.k (.v (.int .i64 0)))⟩]
@[reducible] def p32r8 : List GI := [⟨none, .mov ⟨.a, .e, .a⟩ (.s ⟨.a, .b, .d⟩)⟩,
  ⟨none, .ar ⟨.a, .e, .b⟩ .add .i64 (.s ⟨.a, .e, .a⟩) (.k (.v (.int .i64 1)))⟩,
  ⟨none, .mov ⟨.a, .b, .b⟩ (.s ⟨.a, .e, .b⟩)⟩]
@[reducible] def p32r9 : List GI := [⟨none, .mov ⟨.a, .e, .c⟩ (.s ⟨.a, .b, .d⟩)⟩,
  ⟨none, .mov ⟨.a, .b, .c⟩ (.s ⟨.a, .e, .c⟩)⟩]
@[reducible] def p32c10 : PC := .cond (.s ⟨.a, .d, .h⟩) (.reg p32r8) (.reg p32r9)
@[reducible] def p32c11 : PC := .seq (.reg p32r7) p32c10
@[reducible] def p32c12 : PC := .seq (.reg p32r6) p32c11
@[reducible] def p32c13 : PC := .block 1 p32c12
@[reducible] def p32c14 : PC := .seq p32c5 p32c13
@[reducible] def p32l15 : PC := .loop 0 [⟨.a, .b, .h⟩, ⟨.a, .c, .a⟩, ⟨.a, .c, .b⟩, ⟨.a, .c, .c⟩, ⟨.a, .c, .d⟩, ⟨.a, .c, .e⟩, ⟨.a, .c, .f⟩, ⟨.a, .c, .g⟩, ⟨.a, .c, .h⟩, ⟨.a, .b, .d⟩, ⟨.a, .d, .a⟩, ⟨.a, .d, .b⟩, ⟨.a, .d, .c⟩, ⟨.a, .d, .d⟩, ⟨.a, .d, .e⟩, ⟨.a, .d, .f⟩, ⟨.a, .d, .g⟩, ⟨.a, .d, .h⟩, ⟨.a, .e, .a⟩, ⟨.a, .e, .b⟩, ⟨.a, .b, .b⟩, ⟨.a, .e, .c⟩, ⟨.a, .b, .c⟩] p32c14
@[reducible] def p32c16 : PC := .block 0 p32l15
@[reducible] def p32r17 : List GI := [⟨none, .mov ⟨.a, .e, .d⟩ (.s ⟨.a, .b, .b⟩)⟩,
  ⟨none, .mov ⟨.a, .e, .e⟩ (.s ⟨.a, .b, .b⟩)⟩,
  ⟨none, .mov ⟨.a, .e, .f⟩ (.s ⟨.a, .b, .a⟩)⟩,
  ⟨none, .cmp ⟨.a, .e, .g⟩ .lss (.s ⟨.a, .e, .e⟩) (.s ⟨.a, .e, .f⟩)⟩,
  ⟨none, .mov ⟨.a, .e, .h⟩ (.s ⟨.a, .e, .g⟩)⟩,
  ⟨some (⟨.a, .e, .h⟩, true), .mov ⟨.a, .f, .a⟩ (.s ⟨.a, .a, .c⟩)⟩,
  ⟨some (⟨.a, .e, .h⟩, true), .mov ⟨.a, .f, .b⟩ (.s ⟨.a, .a, .a⟩)⟩,
  ⟨some (⟨.a, .e, .h⟩, true), .mov ⟨.a, .f, .c⟩ (.s ⟨.a, .b, .b⟩)⟩,
  ⟨some (⟨.a, .e, .h⟩, true), .ia ⟨.a, .f, .d⟩ (.s ⟨.a, .f, .b⟩) (.s ⟨.a, .f, .c⟩) 3⟩,
  ⟨some (⟨.a, .e, .h⟩, true), .ld ⟨.a, .f, .e⟩ 3 true (.s ⟨.a, .f, .d⟩)⟩,
  ⟨some (⟨.a, .e, .h⟩, true), .ld ⟨.a, .f, .f⟩ 3 true (.s ⟨.a, .a, .e⟩)⟩,
  ⟨some (⟨.a, .e, .h⟩, true), .calv ⟨.a, .f, .g⟩ (.s ⟨.a, .f, .a⟩) [(.s ⟨.a, .f, .e⟩), (.s ⟨.a, .f, .f⟩)]⟩,
  ⟨some (⟨.a, .e, .h⟩, true), .cmp ⟨.a, .f, .h⟩ .eql (.s ⟨.a, .f, .g⟩) (.k (.v (.int .i64 0)))⟩,
  ⟨none, .pick ⟨.a, .g, .a⟩ (.s ⟨.a, .e, .h⟩) (.s ⟨.a, .f, .h⟩) (.k (.v (.bool false)))⟩,
  ⟨none, .mov ⟨.a, .a, .g⟩ (.s ⟨.a, .e, .d⟩)⟩,
  ⟨none, .mov ⟨.a, .a, .h⟩ (.s ⟨.a, .g, .a⟩)⟩]
@[reducible] def p32c18 : PC := .seq (.reg p32r17) .ret
@[reducible] def p32c19 : PC := .seq p32c16 p32c18
@[reducible] def p32c20 : PC := .seq (.reg p32r2) p32c19
@[reducible] def p32c21 : PC := .seq (.reg p32r1) p32c20
@[reducible] def p32c22 : PC := .seq (.reg p32r0) p32c21
def p32 : PFun := ⟨p32c22, [(.t ⟨.a, .a, .g⟩), (.t ⟨.a, .a, .h⟩)]⟩
@[simp] theorem p32_b : p32.body = p32c22 := rfl
@[simp] theorem p32_r : p32.res = [(.t ⟨.a, .a, .g⟩), (.t ⟨.a, .a, .h⟩)] := rfl
theorem is32 : cFunB Try.prog 0 [] 32 = some p32 := by kernel_rfl
theorem na32 : ((Try.prog.funcs[32]?).map (·.ntmps)).any (3 ≤ ·) = true := by kernel_rfl
@[reducible] def p47r0 : List GI := [⟨none, .mov ⟨.a, .a, .e⟩ (.k (.v (.int .i64 0)))⟩]
@[reducible] def p47r1 : List GI := [⟨none, .mov ⟨.a, .a, .g⟩ (.s ⟨.a, .a, .a⟩)⟩,
  ⟨none, .len ⟨.a, .a, .h⟩ (.s ⟨.a, .a, .g⟩)⟩,
  ⟨none, .mov ⟨.a, .b, .a⟩ (.k (.v (.int .i64 0)))⟩]
@[reducible] def p47r2 : List GI := [⟨none, .cmp ⟨.a, .b, .b⟩ .lss (.s ⟨.a, .b, .a⟩) (.s ⟨.a, .a, .h⟩)⟩]
@[reducible] def p47c3 : PC := .cond (.s ⟨.a, .b, .b⟩) .skip (.exit 0)
@[reducible] def p47r4 : List GI := [⟨none, .mov ⟨.a, .b, .c⟩ (.s ⟨.a, .b, .a⟩)⟩,
  ⟨none, .mov ⟨.a, .a, .f⟩ (.s ⟨.a, .b, .c⟩)⟩]
@[reducible] def p47r5 : List GI := [⟨none, .mov ⟨.a, .b, .d⟩ (.s ⟨.a, .a, .b⟩)⟩,
  ⟨none, .mov ⟨.a, .b, .e⟩ (.s ⟨.a, .a, .a⟩)⟩,
  ⟨none, .mov ⟨.a, .b, .f⟩ (.s ⟨.a, .a, .f⟩)⟩,
  ⟨none, .ia ⟨.a, .b, .g⟩ (.s ⟨.a, .b, .e⟩) (.s ⟨.a, .b, .f⟩) 3⟩,
  ⟨none, .ld ⟨.a, .b, .h⟩ 3 true (.s ⟨.a, .b, .g⟩)⟩,
  ⟨none, .calv ⟨.a, .c, .a⟩ (.s ⟨.a, .b, .d⟩) [(.s ⟨.a, .b, .h⟩)]⟩]
@[reducible] def p47r6 : List GI := [⟨none, .mov ⟨.a, .c, .b⟩ (.s ⟨.a, .a, .f⟩)⟩,
  ⟨none, .mov ⟨.a, .a, .e⟩ (.s ⟨.a, .c, .b⟩)⟩]
@[reducible] def p47c7 : PC := .seq (.reg p47r6) .ret
@[reducible] def p47c8 : PC := .cond (.s ⟨.a, .c, .a⟩) p47c7 .skip
@[reducible] def p47c9 : PC := .seq (.reg p47r5) p47c8
@[reducible] def p47c10 : PC := .seq (.reg p47r4) p47c9
@[reducible] def p47c11 : PC := .block 1 p47c10
@[reducible] def p47r12 : List GI := [⟨none, .ar ⟨.a, .c, .c⟩ .add .i64 (.s ⟨.a, .b, .a⟩) (.k (.v (.int .i64 1)))⟩,
  ⟨none, .mov ⟨.a, .b, .a⟩ (.s ⟨.a, .c, .c⟩)⟩]
@[reducible] def p47c13 : PC := .seq p47c11 (.reg p47r12)
@[reducible] def p47c14 : PC := .seq p47c3 p47c13
@[reducible] def p47c15 : PC := .seq (.reg p47r2) p47c14
@[reducible] def p47l16 : PC := .loop 0 [⟨.a, .b, .b⟩, ⟨.a, .b, .c⟩, ⟨.a, .a, .f⟩, ⟨.a, .b, .d⟩, ⟨.a, .b, .e⟩, ⟨.a, .b, .f⟩, ⟨.a, .b, .g⟩, ⟨.a, .b, .h⟩, ⟨.a, .c, .a⟩, ⟨.a, .c, .b⟩, ⟨.a, .a, .e⟩, ⟨.a, .c, .c⟩, ⟨.a, .b, .a⟩] p47c15
@[reducible] def p47c17 : PC := .block 0 p47l16
@[reducible] def p47c18 : PC := .seq (.reg p47r1) p47c17
@[reducible] def p47r19 : List GI := [⟨none, .mov ⟨.a, .a, .e⟩ (.k (.v (.int .i64 (-1))))⟩]
@[reducible] def p47c20 : PC := .seq (.reg p47r19) .ret
@[reducible] def p47c21 : PC := .seq p47c18 p47c20
@[reducible] def p47c22 : PC := .seq (.reg p47r0) p47c21
def p47 : PFun := ⟨p47c22, [(.t ⟨.a, .a, .e⟩)]⟩
@[simp] theorem p47_b : p47.body = p47c22 := rfl
@[simp] theorem p47_r : p47.res = [(.t ⟨.a, .a, .e⟩)] := rfl
theorem is47 : cFunB Try.prog 0 [] 47 = some p47 := by kernel_rfl
theorem na47 : ((Try.prog.funcs[47]?).map (·.ntmps)).any (2 ≤ ·) = true := by kernel_rfl
@[reducible] def p16r0 : List GI := [⟨none, .box ⟨.a, .a, .c⟩ (.s ⟨.a, .a, .a⟩)⟩,
  ⟨none, .new ⟨.a, .a, .e⟩ [(.v (.int .i64 0)), (.sl 0 [] .full)]⟩]
@[reducible] def p16r1 : List GI := [⟨none, .fa ⟨.a, .b, .a⟩ (.s ⟨.a, .a, .c⟩) 0⟩,
  ⟨none, .ld ⟨.a, .b, .b⟩ 1 false (.s ⟨.a, .b, .a⟩)⟩,
  ⟨none, .bld ⟨.a, .b, .c⟩ [(.v (.int .i64 0)), (.sl 0 [] .full)] [(0, 1, (.s ⟨.a, .b, .b⟩))]⟩,
  ⟨none, .new ⟨.a, .a, .f⟩ [(.v (.int .i64 0)), (.sl 0 [] .full)]⟩,
  ⟨none, .st (.s ⟨.a, .a, .f⟩) (.s ⟨.a, .b, .c⟩) 2⟩]
@[reducible] def p16r2 : List GI := [⟨none, .fa ⟨.a, .b, .d⟩ (.s ⟨.a, .a, .c⟩) 1⟩,
  ⟨none, .ld ⟨.a, .b, .e⟩ 1 false (.s ⟨.a, .b, .d⟩)⟩,
  ⟨none, .len ⟨.a, .b, .f⟩ (.s ⟨.a, .b, .e⟩)⟩,
  ⟨none, .mov ⟨.a, .b, .g⟩ (.k (.v (.int .i64 0)))⟩]
@[reducible] def p16r3 : List GI := [⟨none, .cmp ⟨.a, .b, .h⟩ .lss (.s ⟨.a, .b, .g⟩) (.s ⟨.a, .b, .f⟩)⟩]
@[reducible] def p16c4 : PC := .cond (.s ⟨.a, .b, .h⟩) .skip (.exit 0)
@[reducible] def p16r5 : List GI := [⟨none, .ia ⟨.a, .c, .a⟩ (.s ⟨.a, .b, .e⟩) (.s ⟨.a, .b, .g⟩) 4⟩,
  ⟨none, .ld ⟨.a, .c, .b⟩ 4 true (.s ⟨.a, .c, .a⟩)⟩,
  ⟨none, .new ⟨.a, .a, .h⟩ [(.v (.int .i64 0)), (.v (.int .i64 0)), (.v (.int .i64 0)), (.v (.int .i64 0))]⟩,
  ⟨none, .st (.s ⟨.a, .a, .h⟩) (.s ⟨.a, .c, .b⟩) 4⟩]
@[reducible] def p16r6 : List GI := [⟨none, .mov ⟨.a, .c, .c⟩ (.s ⟨.a, .a, .b⟩)⟩,
  ⟨none, .mkf ⟨.a, .c, .d⟩ 37 [(.s ⟨.a, .a, .h⟩)]⟩,
  ⟨none, .call ⟨.a, .c, .e⟩ 36 [(.s ⟨.a, .c, .c⟩), (.s ⟨.a, .c, .d⟩)]⟩,
  ⟨none, .not ⟨.a, .c, .f⟩ (.s ⟨.a, .c, .e⟩)⟩]
@[reducible] def p16r7 : List GI := [⟨none, .fa ⟨.a, .c, .g⟩ (.s ⟨.a, .a, .f⟩) 1⟩,
  ⟨none, .ld ⟨.a, .c, .h⟩ 1 false (.s ⟨.a, .c, .g⟩)⟩,
  ⟨none, .ld ⟨.a, .d, .a⟩ 4 true (.s ⟨.a, .a, .h⟩)⟩,
  ⟨none, .lit ⟨.a, .d, .b⟩ 4 [(.v (.int .i64 0)), (.v (.int .i64 0)), (.v (.int .i64 0)), (.v (.int .i64 0))] 1 [(0, (.s ⟨.a, .d, .a⟩))]⟩,
  ⟨none, .app ⟨.a, .d, .c⟩ (.s ⟨.a, .c, .h⟩) (.s ⟨.a, .d, .b⟩) 4 32 0 49⟩,
  ⟨none, .fa ⟨.a, .d, .d⟩ (.s ⟨.a, .a, .f⟩) 1⟩,
  ⟨none, .st (.s ⟨.a, .d, .d⟩) (.s ⟨.a, .d, .c⟩) 1⟩]
@[reducible] def p16c8 : PC := .cond (.s ⟨.a, .c, .f⟩) (.reg p16r7) .skip
@[reducible] def p16c9 : PC := .seq (.reg p16r6) p16c8
@[reducible] def p16c10 : PC := .seq (.reg p16r5) p16c9
@[reducible] def p16c11 : PC := .block 1 p16c10
@[reducible] def p16r12 : List GI := [⟨none, .ar ⟨.a, .d, .e⟩ .add .i64 (.s ⟨.a, .b, .g⟩) (.k (.v (.int .i64 1)))⟩,
  ⟨none, .mov ⟨.a, .b, .g⟩ (.s ⟨.a, .d, .e⟩)⟩]
@[reducible] def p16c13 : PC := .seq p16c11 (.reg p16r12)
@[reducible] def p16c14 : PC := .seq p16c4 p16c13
@[reducible] def p16c15 : PC := .seq (.reg p16r3) p16c14
@[reducible] def p16l16 : PC := .loop 0 [⟨.a, .b, .h⟩, ⟨.a, .c, .a⟩, ⟨.a, .c, .b⟩, ⟨.a, .a, .h⟩, ⟨.a, .c, .c⟩, ⟨.a, .c, .d⟩, ⟨.a, .c, .e⟩, ⟨.a, .c, .f⟩, ⟨.a, .c, .g⟩, ⟨.a, .c, .h⟩, ⟨.a, .d, .a⟩, ⟨.a, .d, .b⟩, ⟨.a, .d, .c⟩, ⟨.a, .d, .d⟩, ⟨.a, .d, .e⟩, ⟨.a, .b, .g⟩] p16c15
@[reducible] def p16c17 : PC := .block 0 p16l16
@[reducible] def p16c18 : PC := .seq (.reg p16r2) p16c17
@[reducible] def p16r19 : List GI := [⟨none, .ld ⟨.a, .d, .f⟩ 2 true (.s ⟨.a, .a, .f⟩)⟩,
  ⟨none, .st (.s ⟨.a, .a, .e⟩) (.s ⟨.a, .d, .f⟩) 2⟩]
@[reducible] def p16c20 : PC := .seq (.reg p16r19) .ret
@[reducible] def p16c21 : PC := .seq p16c18 p16c20
@[reducible] def p16c22 : PC := .seq (.reg p16r1) p16c21
@[reducible] def p16c23 : PC := .seq (.reg p16r0) p16c22
def p16 : PFun := ⟨p16c23, [(.c ⟨.a, .a, .e⟩ 2 true)]⟩
@[simp] theorem p16_b : p16.body = p16c23 := rfl
@[simp] theorem p16_r : p16.res = [(.c ⟨.a, .a, .e⟩ 2 true)] := rfl
theorem is16 : cFunB Try.prog 0 [] 16 = some p16 := by kernel_rfl
theorem na16 : ((Try.prog.funcs[16]?).map (·.ntmps)).any (2 ≤ ·) = true := by kernel_rfl
@[reducible] def p3r0 : List GI := [⟨none, .box ⟨.a, .a, .f⟩ (.s ⟨.a, .a, .c⟩)⟩,
  ⟨none, .mov ⟨.a, .a, .g⟩ (.k (.v (.bool false)))⟩]
@[reducible] def p3r1 : List GI := [⟨none, .call ⟨.a, .c, .b⟩ 9 []⟩,
  ⟨none, .mov ⟨.a, .a, .h⟩ (.s ⟨.a, .c, .b⟩)⟩]
@[reducible] def p3r2 : List GI := [⟨none, .iap ⟨.a, .c, .c⟩ (.s ⟨.a, .a, .f⟩) (.k (.v (.int .i64 0))) 1 4⟩,
  ⟨none, .ld ⟨.a, .c, .d⟩ 1 false (.s ⟨.a, .c, .c⟩)⟩,
  ⟨none, .cvi ⟨.a, .c, .e⟩ .u8 (.s ⟨.a, .c, .d⟩)⟩,
  ⟨none, .cvi ⟨.a, .c, .f⟩ .i64 (.s ⟨.a, .c, .e⟩)⟩,
  ⟨none, .dv ⟨.a, .c, .g⟩ .rem .i64 (.s ⟨.a, .c, .f⟩) (.k (.v (.int .i64 9)))⟩,
  ⟨none, .ar ⟨.a, .c, .h⟩ .add .i64 (.k (.v (.int .i64 1))) (.s ⟨.a, .c, .g⟩)⟩,
  ⟨none, .mov ⟨.a, .b, .a⟩ (.s ⟨.a, .c, .h⟩)⟩]
@[reducible] def p3r3 : List GI := [⟨none, .mov ⟨.a, .d, .a⟩ (.s ⟨.a, .a, .a⟩)⟩,
  ⟨none, .mov ⟨.a, .d, .b⟩ (.s ⟨.a, .b, .a⟩)⟩,
  ⟨none, .call ⟨.a, .d, .c⟩ 10 [(.s ⟨.a, .d, .a⟩), (.s ⟨.a, .d, .b⟩)]⟩,
  ⟨none, .mov ⟨.a, .d, .d⟩ (.s ⟨.a, .a, .b⟩)⟩,
  ⟨none, .mov ⟨.a, .d, .e⟩ (.s ⟨.a, .b, .a⟩)⟩,
  ⟨none, .call ⟨.a, .d, .f⟩ 11 [(.s ⟨.a, .d, .d⟩), (.s ⟨.a, .d, .e⟩)]⟩,
  ⟨none, .new ⟨.a, .b, .c⟩ [(.v (.int .i64 0)), (.sl 0 [] .full)]⟩,
  ⟨none, .mov ⟨.a, .b, .b⟩ (.s ⟨.a, .d, .c⟩)⟩,
  ⟨none, .st (.s ⟨.a, .b, .c⟩) (.s ⟨.a, .d, .f⟩) 2⟩]
@[reducible] def p3r4 : List GI := [⟨none, .iap ⟨.a, .d, .g⟩ (.s ⟨.a, .a, .f⟩) (.k (.v (.int .i64 1))) 1 4⟩,
  ⟨none, .ld ⟨.a, .d, .h⟩ 1 false (.s ⟨.a, .d, .g⟩)⟩,
  ⟨none, .cvi ⟨.a, .e, .a⟩ .i64 (.s ⟨.a, .d, .h⟩)⟩,
  ⟨none, .dv ⟨.a, .e, .b⟩ .rem .i64 (.s ⟨.a, .e, .a⟩) (.k (.v (.int .i64 12)))⟩,
  ⟨none, .iap ⟨.a, .e, .c⟩ (.s ⟨.a, .a, .f⟩) (.k (.v (.int .i64 2))) 1 4⟩,
  ⟨none, .ld ⟨.a, .e, .d⟩ 1 false (.s ⟨.a, .e, .c⟩)⟩,
  ⟨none, .cvi ⟨.a, .e, .e⟩ .i64 (.s ⟨.a, .e, .d⟩)⟩,
  ⟨none, .dv ⟨.a, .e, .f⟩ .rem .i64 (.s ⟨.a, .e, .e⟩) (.k (.v (.int .i64 12)))⟩,
  ⟨none, .iap ⟨.a, .e, .g⟩ (.s ⟨.a, .a, .f⟩) (.k (.v (.int .i64 3))) 1 4⟩,
  ⟨none, .ld ⟨.a, .e, .h⟩ 1 false (.s ⟨.a, .e, .g⟩)⟩,
  ⟨none, .cvi ⟨.a, .f, .a⟩ .i64 (.s ⟨.a, .e, .h⟩)⟩,
  ⟨none, .dv ⟨.a, .f, .b⟩ .rem .i64 (.s ⟨.a, .f, .a⟩) (.k (.v (.int .i64 3)))⟩,
  ⟨none, .bld ⟨.a, .f, .c⟩ [(.v (.int .i64 0)), (.v (.int .i64 0)), (.v (.int .i64 0))] [(0, 1, (.s ⟨.a, .e, .b⟩)), (1, 1, (.s ⟨.a, .e, .f⟩)), (2, 1, (.s ⟨.a, .f, .b⟩))]⟩,
  ⟨none, .new ⟨.a, .b, .d⟩ [(.v (.int .i64 0)), (.v (.int .i64 0)), (.v (.int .i64 0))]⟩,
  ⟨none, .st (.s ⟨.a, .b, .d⟩) (.s ⟨.a, .f, .c⟩) 3⟩]
@[reducible] def p3r5 : List GI := [⟨none, .mov ⟨.a, .f, .e⟩ (.s ⟨.a, .b, .b⟩)⟩,
  ⟨none, .ld ⟨.a, .f, .f⟩ 3 true (.s ⟨.a, .b, .d⟩)⟩,
  ⟨none, .mov ⟨.a, .f, .g⟩ (.s ⟨.a, .b, .a⟩)⟩,
  ⟨none, .call ⟨.a, .f, .h⟩ 12 [(.s ⟨.a, .f, .e⟩), (.s ⟨.a, .f, .f⟩), (.s ⟨.a, .f, .g⟩)]⟩,
  ⟨none, .mov ⟨.a, .f, .d⟩ (.s ⟨.a, .f, .h⟩)⟩,
  ⟨none, .ext ⟨.a, .g, .a⟩ (.s ⟨.a, .f, .d⟩) 0⟩,
  ⟨none, .ext ⟨.a, .g, .b⟩ (.s ⟨.a, .f, .d⟩) 1⟩,
  ⟨none, .mov ⟨.a, .b, .e⟩ (.s ⟨.a, .g, .a⟩)⟩,
  ⟨none, .mov ⟨.a, .b, .f⟩ (.s ⟨.a, .g, .b⟩)⟩]
@[reducible] def p3r6 : List GI := [⟨none, .mov ⟨.a, .g, .d⟩ (.s ⟨.a, .b, .b⟩)⟩,
  ⟨none, .ld ⟨.a, .g, .e⟩ 3 true (.s ⟨.a, .b, .d⟩)⟩,
  ⟨none, .mov ⟨.a, .g, .f⟩ (.s ⟨.a, .b, .a⟩)⟩,
  ⟨none, .call ⟨.a, .g, .g⟩ 13 [(.s ⟨.a, .g, .d⟩), (.s ⟨.a, .g, .e⟩), (.s ⟨.a, .g, .f⟩)]⟩,
  ⟨none, .mov ⟨.a, .g, .c⟩ (.s ⟨.a, .g, .g⟩)⟩,
  ⟨none, .ext ⟨.a, .g, .h⟩ (.s ⟨.a, .g, .c⟩) 0⟩,
  ⟨none, .ext ⟨.a, .h, .a⟩ (.s ⟨.a, .g, .c⟩) 1⟩,
  ⟨none, .mov ⟨.a, .b, .g⟩ (.s ⟨.a, .g, .h⟩)⟩,
  ⟨none, .mov ⟨.a, .b, .h⟩ (.s ⟨.a, .h, .a⟩)⟩]
@[reducible] def p3r7 : List GI := [⟨none, .iap ⟨.a, .h, .b⟩ (.s ⟨.a, .a, .f⟩) (.k (.v (.int .i64 1))) 1 4⟩,
  ⟨none, .ld ⟨.a, .h, .c⟩ 1 false (.s ⟨.a, .h, .b⟩)⟩,
  ⟨none, .cvi ⟨.a, .h, .d⟩ .u8 (.s ⟨.a, .h, .c⟩)⟩,
  ⟨none, .cvi ⟨.a, .h, .e⟩ .i64 (.s ⟨.a, .h, .d⟩)⟩,
  ⟨none, .dv ⟨.a, .h, .f⟩ .rem .i64 (.s ⟨.a, .h, .e⟩) (.k (.v (.int .i64 12)))⟩,
  ⟨none, .mov ⟨.a, .c, .a⟩ (.s ⟨.a, .h, .f⟩)⟩]
@[reducible] def p3r8 : List GI := [⟨none, .mov ⟨.a, .h, .g⟩ (.s ⟨.a, .b, .e⟩)⟩,
  ⟨none, .mov ⟨.a, .h, .h⟩ (.s ⟨.a, .b, .g⟩)⟩,
  ⟨none, .call ⟨.b, .a, .a⟩ 14 [(.s ⟨.a, .h, .g⟩), (.s ⟨.a, .h, .h⟩)]⟩,
  ⟨none, .not ⟨.b, .a, .b⟩ (.s ⟨.b, .a, .a⟩)⟩,
  ⟨none, .mov ⟨.b, .a, .c⟩ (.s ⟨.b, .a, .b⟩)⟩,
  ⟨some (⟨.b, .a, .c⟩, false), .mov ⟨.b, .a, .d⟩ (.s ⟨.a, .b, .f⟩)⟩,
  ⟨some (⟨.b, .a, .c⟩, false), .mov ⟨.b, .a, .e⟩ (.s ⟨.a, .b, .h⟩)⟩,
  ⟨some (⟨.b, .a, .c⟩, false), .cmp ⟨.b, .a, .f⟩ .neq (.s ⟨.b, .a, .d⟩) (.s ⟨.b, .a, .e⟩)⟩,
  ⟨none, .pick ⟨.b, .a, .g⟩ (.s ⟨.b, .a, .c⟩) (.k (.v (.bool true))) (.s ⟨.b, .a, .f⟩)⟩,
  ⟨none, .mov ⟨.b, .a, .h⟩ (.s ⟨.b, .a, .g⟩)⟩,
  ⟨some (⟨.b, .a, .h⟩, false), .ld ⟨.b, .b, .a⟩ 2 true (.s ⟨.a, .b, .c⟩)⟩,
  ⟨some (⟨.b, .a, .h⟩, false), .mov ⟨.b, .b, .b⟩ (.s ⟨.a, .b, .b⟩)⟩,
  ⟨some (⟨.b, .a, .h⟩, false), .call ⟨.b, .b, .c⟩ 16 [(.s ⟨.b, .b, .a⟩), (.s ⟨.b, .b, .b⟩)]⟩,
  ⟨some (⟨.b, .a, .h⟩, false), .ld ⟨.b, .b, .d⟩ 2 true (.s ⟨.a, .b, .c⟩)⟩,
  ⟨some (⟨.b, .a, .h⟩, false), .mov ⟨.b, .b, .e⟩ (.s ⟨.a, .b, .b⟩)⟩,
  ⟨some (⟨.b, .a, .h⟩, false), .call ⟨.b, .b, .f⟩ 17 [(.s ⟨.b, .b, .d⟩), (.s ⟨.b, .b, .e⟩)]⟩,
  ⟨some (⟨.b, .a, .h⟩, false), .call ⟨.b, .b, .g⟩ 15 [(.s ⟨.b, .b, .c⟩), (.s ⟨.b, .b, .f⟩)]⟩,
  ⟨some (⟨.b, .a, .h⟩, false), .not ⟨.b, .b, .h⟩ (.s ⟨.b, .b, .g⟩)⟩,
  ⟨none, .pick ⟨.b, .c, .a⟩ (.s ⟨.b, .a, .h⟩) (.k (.v (.bool true))) (.s ⟨.b, .b, .h⟩)⟩]
@[reducible] def p3r9 : List GI := [⟨none, .mov ⟨.a, .a, .g⟩ (.k (.v (.bool false)))⟩]
@[reducible] def p3c10 : PC := .seq (.reg p3r9) .ret
@[reducible] def p3c11 : PC := .cond (.s ⟨.b, .c, .a⟩) p3c10 .skip
@[reducible] def p3c12 : PC := .seq (.reg p3r8) p3c11
@[reducible] def p3r13 : List GI := [⟨none, .mov ⟨.b, .c, .b⟩ (.s ⟨.a, .b, .b⟩)⟩,
  ⟨none, .mov ⟨.b, .c, .c⟩ (.s ⟨.a, .c, .a⟩)⟩,
  ⟨none, .call ⟨.b, .c, .d⟩ 18 [(.s ⟨.b, .c, .b⟩), (.s ⟨.b, .c, .c⟩)]⟩,
  ⟨none, .mov ⟨.b, .c, .e⟩ (.s ⟨.a, .b, .b⟩)⟩,
  ⟨none, .mov ⟨.b, .c, .f⟩ (.s ⟨.a, .c, .a⟩)⟩,
  ⟨none, .call ⟨.b, .c, .g⟩ 19 [(.s ⟨.b, .c, .e⟩), (.s ⟨.b, .c, .f⟩)]⟩,
  ⟨none, .call ⟨.b, .c, .h⟩ 14 [(.s ⟨.b, .c, .d⟩), (.s ⟨.b, .c, .g⟩)]⟩,
  ⟨none, .mov ⟨.b, .d, .a⟩ (.s ⟨.b, .c, .h⟩)⟩,
  ⟨some (⟨.b, .d, .a⟩, true), .mov ⟨.b, .d, .b⟩ (.s ⟨.a, .b, .b⟩)⟩,
  ⟨some (⟨.b, .d, .a⟩, true), .mov ⟨.b, .d, .c⟩ (.s ⟨.a, .c, .a⟩)⟩,
  ⟨some (⟨.b, .d, .a⟩, true), .call ⟨.b, .d, .d⟩ 20 [(.s ⟨.b, .d, .b⟩), (.s ⟨.b, .d, .c⟩)]⟩,
  ⟨some (⟨.b, .d, .a⟩, true), .mov ⟨.b, .d, .e⟩ (.s ⟨.a, .b, .b⟩)⟩,
  ⟨some (⟨.b, .d, .a⟩, true), .mov ⟨.b, .d, .f⟩ (.s ⟨.a, .c, .a⟩)⟩,
  ⟨some (⟨.b, .d, .a⟩, true), .call ⟨.b, .d, .g⟩ 21 [(.s ⟨.b, .d, .e⟩), (.s ⟨.b, .d, .f⟩)]⟩,
  ⟨some (⟨.b, .d, .a⟩, true), .call ⟨.b, .d, .h⟩ 14 [(.s ⟨.b, .d, .d⟩), (.s ⟨.b, .d, .g⟩)]⟩,
  ⟨none, .pick ⟨.b, .e, .a⟩ (.s ⟨.b, .d, .a⟩) (.s ⟨.b, .d, .h⟩) (.k (.v (.bool false)))⟩,
  ⟨none, .mov ⟨.b, .e, .b⟩ (.s ⟨.b, .e, .a⟩)⟩,
  ⟨some (⟨.b, .e, .b⟩, true), .mov ⟨.b, .e, .c⟩ (.s ⟨.a, .a, .h⟩)⟩,
  ⟨none, .pick ⟨.b, .e, .d⟩ (.s ⟨.b, .e, .b⟩) (.s ⟨.b, .e, .c⟩) (.k (.v (.bool false)))⟩,
  ⟨none, .mov ⟨.a, .a, .g⟩ (.s ⟨.b, .e, .d⟩)⟩]
@[reducible] def p3c14 : PC := .seq (.reg p3r13) .ret
@[reducible] def p3c15 : PC := .seq p3c12 p3c14
@[reducible] def p3c16 : PC := .seq (.reg p3r7) p3c15
@[reducible] def p3c17 : PC := .seq (.reg p3r6) p3c16
@[reducible] def p3c18 : PC := .seq (.reg p3r5) p3c17
@[reducible] def p3c19 : PC := .seq (.reg p3r4) p3c18
@[reducible] def p3c20 : PC := .seq (.reg p3r3) p3c19
@[reducible] def p3c21 : PC := .seq (.reg p3r2) p3c20
@[reducible] def p3c22 : PC := .seq (.reg p3r1) p3c21
@[reducible] def p3c23 : PC := .seq (.reg p3r0) p3c22
def p3 : PFun := ⟨p3c23, [(.t ⟨.a, .a, .g⟩)]⟩
@[simp] theorem p3_b : p3.body = p3c23 := rfl
@[simp] theorem p3_r : p3.res = [(.t ⟨.a, .a, .g⟩)] := rfl
theorem is3 : cFunB Try.prog 0 [] 3 = some p3 := by kernel_rfl
theorem na3 : ((Try.prog.funcs[3]?).map (·.ntmps)).any (3 ≤ ·) = true := by kernel_rfl
@[reducible] def p4r0 : List GI := [⟨none, .box ⟨.a, .a, .e⟩ (.s ⟨.a, .a, .b⟩)⟩,
  ⟨none, .mov ⟨.a, .a, .g⟩ (.k (.v (.bool false)))⟩]
@[reducible] def p4r1 : List GI := [⟨none, .call ⟨.a, .c, .b⟩ 9 []⟩,
  ⟨none, .mov ⟨.a, .a, .h⟩ (.s ⟨.a, .c, .b⟩)⟩]
@[reducible] def p4r2 : List GI := [⟨none, .mov ⟨.a, .c, .c⟩ (.s ⟨.a, .a, .c⟩)⟩,
  ⟨none, .cvi ⟨.a, .c, .d⟩ .i64 (.s ⟨.a, .c, .c⟩)⟩,
  ⟨none, .dv ⟨.a, .c, .e⟩ .rem .i64 (.s ⟨.a, .c, .d⟩) (.k (.v (.int .i64 9)))⟩,
  ⟨none, .ar ⟨.a, .c, .f⟩ .add .i64 (.k (.v (.int .i64 1))) (.s ⟨.a, .c, .e⟩)⟩,
  ⟨none, .mov ⟨.a, .b, .a⟩ (.s ⟨.a, .c, .f⟩)⟩]
@[reducible] def p4r3 : List GI := [⟨none, .new ⟨.a, .b, .c⟩ [(.v (.int .i64 0)), (.v (.int .i64 0)), (.v (.int .i64 0))]⟩,
  ⟨none, .mov ⟨.a, .c, .g⟩ (.s ⟨.a, .a, .a⟩)⟩,
  ⟨none, .mov ⟨.a, .c, .h⟩ (.s ⟨.a, .b, .a⟩)⟩,
  ⟨none, .call ⟨.a, .d, .a⟩ 10 [(.s ⟨.a, .c, .g⟩), (.s ⟨.a, .c, .h⟩)]⟩,
  ⟨none, .ld ⟨.a, .d, .b⟩ 3 true (.s ⟨.a, .a, .e⟩)⟩,
  ⟨none, .mov ⟨.a, .d, .c⟩ (.s ⟨.a, .b, .a⟩)⟩,
  ⟨none, .call ⟨.a, .d, .d⟩ 22 [(.s ⟨.a, .d, .b⟩), (.s ⟨.a, .d, .c⟩)]⟩,
  ⟨none, .mov ⟨.a, .b, .b⟩ (.s ⟨.a, .d, .a⟩)⟩,
  ⟨none, .st (.s ⟨.a, .b, .c⟩) (.s ⟨.a, .d, .d⟩) 3⟩]
@[reducible] def p4r4 : List GI := [⟨none, .mov ⟨.a, .d, .f⟩ (.s ⟨.a, .b, .b⟩)⟩,
  ⟨none, .ld ⟨.a, .d, .g⟩ 3 true (.s ⟨.a, .b, .c⟩)⟩,
  ⟨none, .mov ⟨.a, .d, .h⟩ (.s ⟨.a, .b, .a⟩)⟩,
  ⟨none, .call ⟨.a, .e, .a⟩ 12 [(.s ⟨.a, .d, .f⟩), (.s ⟨.a, .d, .g⟩), (.s ⟨.a, .d, .h⟩)]⟩,
  ⟨none, .mov ⟨.a, .d, .e⟩ (.s ⟨.a, .e, .a⟩)⟩,
  ⟨none, .ext ⟨.a, .e, .b⟩ (.s ⟨.a, .d, .e⟩) 0⟩,
  ⟨none, .ext ⟨.a, .e, .c⟩ (.s ⟨.a, .d, .e⟩) 1⟩,
  ⟨none, .mov ⟨.a, .b, .d⟩ (.s ⟨.a, .e, .b⟩)⟩,
  ⟨none, .mov ⟨.a, .b, .e⟩ (.s ⟨.a, .e, .c⟩)⟩]
@[reducible] def p4r5 : List GI := [⟨none, .mov ⟨.a, .e, .e⟩ (.s ⟨.a, .b, .d⟩)⟩,
  ⟨none, .ld ⟨.a, .e, .f⟩ 3 true (.s ⟨.a, .b, .c⟩)⟩,
  ⟨none, .mov ⟨.a, .e, .g⟩ (.s ⟨.a, .b, .a⟩)⟩,
  ⟨none, .call ⟨.a, .e, .h⟩ 12 [(.s ⟨.a, .e, .e⟩), (.s ⟨.a, .e, .f⟩), (.s ⟨.a, .e, .g⟩)]⟩,
  ⟨none, .mov ⟨.a, .e, .d⟩ (.s ⟨.a, .e, .h⟩)⟩,
  ⟨none, .ext ⟨.a, .f, .a⟩ (.s ⟨.a, .e, .d⟩) 0⟩,
  ⟨none, .ext ⟨.a, .f, .b⟩ (.s ⟨.a, .e, .d⟩) 1⟩,
  ⟨none, .mov ⟨.a, .b, .f⟩ (.s ⟨.a, .f, .a⟩)⟩,
  ⟨none, .mov ⟨.a, .b, .g⟩ (.s ⟨.a, .f, .b⟩)⟩]
@[reducible] def p4r6 : List GI := [⟨none, .mov ⟨.a, .f, .c⟩ (.s ⟨.a, .b, .e⟩)⟩,
  ⟨none, .cmp ⟨.a, .f, .d⟩ .neq (.s ⟨.a, .f, .c⟩) (.k (.v (.int .i64 0)))⟩,
  ⟨none, .mov ⟨.a, .f, .e⟩ (.s ⟨.a, .f, .d⟩)⟩,
  ⟨some (⟨.a, .f, .e⟩, false), .mov ⟨.a, .f, .f⟩ (.s ⟨.a, .b, .g⟩)⟩,
  ⟨some (⟨.a, .f, .e⟩, false), .cmp ⟨.a, .f, .g⟩ .neq (.s ⟨.a, .f, .f⟩) (.k (.v (.int .i64 0)))⟩,
  ⟨none, .pick ⟨.a, .f, .h⟩ (.s ⟨.a, .f, .e⟩) (.k (.v (.bool true))) (.s ⟨.a, .f, .g⟩)⟩,
  ⟨none, .mov ⟨.a, .g, .a⟩ (.s ⟨.a, .f, .h⟩)⟩,
  ⟨some (⟨.a, .g, .a⟩, false), .mov ⟨.a, .g, .b⟩ (.s ⟨.a, .b, .d⟩)⟩,
  ⟨some (⟨.a, .g, .a⟩, false), .mov ⟨.a, .g, .c⟩ (.s ⟨.a, .b, .a⟩)⟩,
  ⟨some (⟨.a, .g, .a⟩, false), .call ⟨.a, .g, .d⟩ 23 [(.s ⟨.a, .g, .b⟩), (.s ⟨.a, .g, .c⟩)]⟩,
  ⟨some (⟨.a, .g, .a⟩, false), .not ⟨.a, .g, .e⟩ (.s ⟨.a, .g, .d⟩)⟩,
  ⟨none, .pick ⟨.a, .g, .f⟩ (.s ⟨.a, .g, .a⟩) (.k (.v (.bool true))) (.s ⟨.a, .g, .e⟩)⟩,
  ⟨none, .mov ⟨.a, .g, .g⟩ (.s ⟨.a, .g, .f⟩)⟩,
  ⟨some (⟨.a, .g, .g⟩, false), .mov ⟨.a, .g, .h⟩ (.s ⟨.a, .b, .d⟩)⟩,
  ⟨some (⟨.a, .g, .g⟩, false), .ld ⟨.a, .h, .a⟩ 3 true (.s ⟨.a, .b, .c⟩)⟩,
  ⟨some (⟨.a, .g, .g⟩, false), .call ⟨.a, .h, .b⟩ 24 [(.s ⟨.a, .g, .h⟩), (.s ⟨.a, .h, .a⟩)]⟩,
  ⟨some (⟨.a, .g, .g⟩, false), .not ⟨.a, .h, .c⟩ (.s ⟨.a, .h, .b⟩)⟩,
  ⟨none, .pick ⟨.a, .h, .d⟩ (.s ⟨.a, .g, .g⟩) (.k (.v (.bool true))) (.s ⟨.a, .h, .c⟩)⟩,
  ⟨none, .mov ⟨.a, .h, .e⟩ (.s ⟨.a, .h, .d⟩)⟩,
  ⟨some (⟨.a, .h, .e⟩, false), .mov ⟨.a, .h, .f⟩ (.s ⟨.a, .b, .d⟩)⟩,
  ⟨some (⟨.a, .h, .e⟩, false), .mov ⟨.a, .h, .g⟩ (.s ⟨.a, .b, .f⟩)⟩,
  ⟨some (⟨.a, .h, .e⟩, false), .call ⟨.a, .h, .h⟩ 14 [(.s ⟨.a, .h, .f⟩), (.s ⟨.a, .h, .g⟩)]⟩,
  ⟨some (⟨.a, .h, .e⟩, false), .not ⟨.b, .a, .a⟩ (.s ⟨.a, .h, .h⟩)⟩,
  ⟨none, .pick ⟨.b, .a, .b⟩ (.s ⟨.a, .h, .e⟩) (.k (.v (.bool true))) (.s ⟨.b, .a, .a⟩)⟩]
@[reducible] def p4r7 : List GI := [⟨none, .mov ⟨.a, .a, .g⟩ (.k (.v (.bool false)))⟩]
@[reducible] def p4c8 : PC := .seq (.reg p4r7) .ret
@[reducible] def p4c9 : PC := .cond (.s ⟨.b, .a, .b⟩) p4c8 .skip
@[reducible] def p4c10 : PC := .seq (.reg p4r6) p4c9
@[reducible] def p4r11 : List GI := [⟨none, .mov ⟨.a, .b, .h⟩ (.k (.v (.int .i64 1)))⟩]
@[reducible] def p4r12 : List GI := [⟨none, .mov ⟨.a, .c, .a⟩ (.k (.v (.int .i64 0)))⟩]
@[reducible] def p4r13 : List GI := [⟨none, .mov ⟨.b, .a, .c⟩ (.s ⟨.a, .c, .a⟩)⟩,
  ⟨none, .mov ⟨.b, .a, .d⟩ (.s ⟨.a, .b, .b⟩)⟩,
  ⟨none, .len ⟨.b, .a, .e⟩ (.s ⟨.b, .a, .d⟩)⟩,
  ⟨none, .cmp ⟨.b, .a, .f⟩ .lss (.s ⟨.b, .a, .c⟩) (.s ⟨.b, .a, .e⟩)⟩]
@[reducible] def p4c14 : PC := .cond (.s ⟨.b, .a, .f⟩) .skip (.exit 0)
@[reducible] def p4c15 : PC := .seq (.reg p4r13) p4c14
@[reducible] def p4r16 : List GI := [⟨none, .mov ⟨.b, .b, .a⟩ (.s ⟨.a, .b, .b⟩)⟩,
  ⟨none, .mov ⟨.b, .b, .b⟩ (.s ⟨.a, .c, .a⟩)⟩,
  ⟨none, .ia ⟨.b, .b, .c⟩ (.s ⟨.b, .b, .a⟩) (.s ⟨.b, .b, .b⟩) 3⟩,
  ⟨none, .ld ⟨.b, .b, .d⟩ 3 true (.s ⟨.b, .b, .c⟩)⟩,
  ⟨none, .ld ⟨.b, .b, .e⟩ 3 true (.s ⟨.a, .b, .c⟩)⟩,
  ⟨none, .call ⟨.b, .b, .f⟩ 25 [(.s ⟨.b, .b, .d⟩), (.s ⟨.b, .b, .e⟩)]⟩,
  ⟨none, .not ⟨.b, .b, .g⟩ (.s ⟨.b, .b, .f⟩)⟩]
@[reducible] def p4r17 : List GI := [⟨none, .mov ⟨.b, .b, .h⟩ (.s ⟨.a, .b, .h⟩)⟩,
  ⟨none, .ar ⟨.b, .c, .a⟩ .add .i64 (.s ⟨.b, .b, .h⟩) (.k (.v (.int .i64 1)))⟩,
  ⟨none, .mov ⟨.a, .b, .h⟩ (.s ⟨.b, .c, .a⟩)⟩]
@[reducible] def p4r18 : List GI := [⟨none, .mov ⟨.b, .c, .b⟩ (.s ⟨.a, .b, .d⟩)⟩,
  ⟨none, .mov ⟨.b, .c, .c⟩ (.s ⟨.a, .b, .b⟩)⟩,
  ⟨none, .mov ⟨.b, .c, .d⟩ (.s ⟨.a, .c, .a⟩)⟩,
  ⟨none, .ia ⟨.b, .c, .e⟩ (.s ⟨.b, .c, .c⟩) (.s ⟨.b, .c, .d⟩) 3⟩,
  ⟨none, .ld ⟨.b, .c, .f⟩ 3 true (.s ⟨.b, .c, .e⟩)⟩,
  ⟨none, .call ⟨.b, .c, .g⟩ 24 [(.s ⟨.b, .c, .b⟩), (.s ⟨.b, .c, .f⟩)]⟩,
  ⟨none, .not ⟨.b, .c, .h⟩ (.s ⟨.b, .c, .g⟩)⟩]
@[reducible] def p4r19 : List GI := [⟨none, .mov ⟨.a, .a, .g⟩ (.k (.v (.bool false)))⟩]
@[reducible] def p4c20 : PC := .seq (.reg p4r19) .ret
@[reducible] def p4c21 : PC := .cond (.s ⟨.b, .c, .h⟩) p4c20 .skip
@[reducible] def p4c22 : PC := .seq (.reg p4r18) p4c21
@[reducible] def p4c23 : PC := .seq (.reg p4r17) p4c22
@[reducible] def p4c24 : PC := .cond (.s ⟨.b, .b, .g⟩) p4c23 .skip
@[reducible] def p4c25 : PC := .seq (.reg p4r16) p4c24
@[reducible] def p4c26 : PC := .block 1 p4c25
@[reducible] def p4r27 : List GI := [⟨none, .mov ⟨.b, .a, .g⟩ (.s ⟨.a, .c, .a⟩)⟩,
  ⟨none, .ar ⟨.b, .a, .h⟩ .add .i64 (.s ⟨.b, .a, .g⟩) (.k (.v (.int .i64 1)))⟩,
  ⟨none, .mov ⟨.a, .c, .a⟩ (.s ⟨.b, .a, .h⟩)⟩]
@[reducible] def p4c28 : PC := .seq p4c26 (.reg p4r27)
@[reducible] def p4c29 : PC := .seq p4c15 p4c28
@[reducible] def p4l30 : PC := .loop 0 [⟨.b, .a, .c⟩, ⟨.b, .a, .d⟩, ⟨.b, .a, .e⟩, ⟨.b, .a, .f⟩, ⟨.b, .b, .a⟩, ⟨.b, .b, .b⟩, ⟨.b, .b, .c⟩, ⟨.b, .b, .d⟩, ⟨.b, .b, .e⟩, ⟨.b, .b, .f⟩, ⟨.b, .b, .g⟩, ⟨.b, .b, .h⟩, ⟨.b, .c, .a⟩, ⟨.a, .b, .h⟩, ⟨.b, .c, .b⟩, ⟨.b, .c, .c⟩, ⟨.b, .c, .d⟩, ⟨.b, .c, .e⟩, ⟨.b, .c, .f⟩, ⟨.b, .c, .g⟩, ⟨.b, .c, .h⟩, ⟨.a, .a, .g⟩, ⟨.b, .a, .g⟩, ⟨.b, .a, .h⟩, ⟨.a, .c, .a⟩] p4c29
@[reducible] def p4c31 : PC := .block 0 p4l30
@[reducible] def p4c32 : PC := .seq (.reg p4r12) p4c31
@[reducible] def p4r33 : List GI := [⟨none, .mov ⟨.b, .d, .a⟩ (.s ⟨.a, .b, .d⟩)⟩,
  ⟨none, .len ⟨.b, .d, .b⟩ (.s ⟨.b, .d, .a⟩)⟩,
  ⟨none, .mov ⟨.b, .d, .c⟩ (.s ⟨.a, .b, .h⟩)⟩,
  ⟨none, .cmp ⟨.b, .d, .d⟩ .eql (.s ⟨.b, .d, .b⟩) (.s ⟨.b, .d, .c⟩)⟩,
  ⟨none, .mov ⟨.b, .d, .e⟩ (.s ⟨.b, .d, .d⟩)⟩,
  ⟨some (⟨.b, .d, .e⟩, true), .mov ⟨.b, .d, .f⟩ (.s ⟨.a, .a, .h⟩)⟩,
  ⟨none, .pick ⟨.b, .d, .g⟩ (.s ⟨.b, .d, .e⟩) (.s ⟨.b, .d, .f⟩) (.k (.v (.bool false)))⟩,
  ⟨none, .mov ⟨.a, .a, .g⟩ (.s ⟨.b, .d, .g⟩)⟩]
@[reducible] def p4c34 : PC := .seq (.reg p4r33) .ret
@[reducible] def p4c35 : PC := .seq p4c32 p4c34
@[reducible] def p4c36 : PC := .seq (.reg p4r11) p4c35
@[reducible] def p4c37 : PC := .seq p4c10 p4c36
@[reducible] def p4c38 : PC := .seq (.reg p4r5) p4c37
@[reducible] def p4c39 : PC := .seq (.reg p4r4) p4c38
@[reducible] def p4c40 : PC := .seq (.reg p4r3) p4c39
@[reducible] def p4c41 : PC := .seq (.reg p4r2) p4c40
@[reducible] def p4c42 : PC := .seq (.reg p4r1) p4c41
@[reducible] def p4c43 : PC := .seq (.reg p4r0) p4c42
def p4 : PFun := ⟨p4c43, [(.t ⟨.a, .a, .g⟩)]⟩
@[simp] theorem p4_b : p4.body = p4c43 := rfl
@[simp] theorem p4_r : p4.res = [(.t ⟨.a, .a, .g⟩)] := rfl
theorem is4 : cFunB Try.prog 0 [] 4 = some p4 := by kernel_rfl
theorem na4 : ((Try.prog.funcs[4]?).map (·.ntmps)).any (3 ≤ ·) = true := by kernel_rfl
@[reducible] def p5r0 : List GI := [⟨none, .mov ⟨.a, .a, .g⟩ (.k (.v (.bool false)))⟩]
@[reducible] def p5r1 : List GI := [⟨none, .call ⟨.a, .c, .f⟩ 9 []⟩,
  ⟨none, .mov ⟨.a, .a, .h⟩ (.s ⟨.a, .c, .f⟩)⟩]
@[reducible] def p5r2 : List GI := [⟨none, .mov ⟨.a, .c, .g⟩ (.s ⟨.a, .a, .c⟩)⟩,
  ⟨none, .cvi ⟨.a, .c, .h⟩ .i64 (.s ⟨.a, .c, .g⟩)⟩,
  ⟨none, .dv ⟨.a, .d, .a⟩ .rem .i64 (.s ⟨.a, .c, .h⟩) (.k (.v (.int .i64 5)))⟩,
  ⟨none, .ar ⟨.a, .d, .b⟩ .add .i64 (.k (.v (.int .i64 1))) (.s ⟨.a, .d, .a⟩)⟩,
  ⟨none, .mov ⟨.a, .b, .a⟩ (.s ⟨.a, .d, .b⟩)⟩]
@[reducible] def p5r3 : List GI := [⟨none, .mov ⟨.a, .d, .c⟩ (.s ⟨.a, .a, .a⟩)⟩,
  ⟨none, .mov ⟨.a, .d, .d⟩ (.s ⟨.a, .a, .a⟩)⟩,
  ⟨none, .len ⟨.a, .d, .e⟩ (.s ⟨.a, .d, .d⟩)⟩,
  ⟨none, .mm ⟨.a, .d, .f⟩ false (.s ⟨.a, .d, .e⟩) (.k (.v (.int .i64 3)))⟩,
  ⟨none, .slc ⟨.a, .d, .g⟩ (.s ⟨.a, .d, .c⟩) none (some (.s ⟨.a, .d, .f⟩)) none 3⟩,
  ⟨none, .mov ⟨.a, .d, .h⟩ (.s ⟨.a, .b, .a⟩)⟩,
  ⟨none, .call ⟨.a, .e, .a⟩ 10 [(.s ⟨.a, .d, .g⟩), (.s ⟨.a, .d, .h⟩)]⟩,
  ⟨none, .mov ⟨.a, .e, .b⟩ (.s ⟨.a, .a, .b⟩)⟩,
  ⟨none, .mov ⟨.a, .e, .c⟩ (.s ⟨.a, .b, .a⟩)⟩,
  ⟨none, .call ⟨.a, .e, .d⟩ 11 [(.s ⟨.a, .e, .b⟩), (.s ⟨.a, .e, .c⟩)]⟩,
  ⟨none, .new ⟨.a, .b, .c⟩ [(.v (.int .i64 0)), (.sl 0 [] .full)]⟩,
  ⟨none, .mov ⟨.a, .b, .b⟩ (.s ⟨.a, .e, .a⟩)⟩,
  ⟨none, .st (.s ⟨.a, .b, .c⟩) (.s ⟨.a, .e, .d⟩) 2⟩]
@[reducible] def p5r4 : List GI := [⟨none, .ld ⟨.a, .e, .e⟩ 2 true (.s ⟨.a, .b, .c⟩)⟩,
  ⟨none, .mov ⟨.a, .e, .f⟩ (.s ⟨.a, .b, .b⟩)⟩,
  ⟨none, .call ⟨.a, .e, .g⟩ 16 [(.s ⟨.a, .e, .e⟩), (.s ⟨.a, .e, .f⟩)]⟩,
  ⟨none, .new ⟨.a, .b, .d⟩ [(.v (.int .i64 0)), (.sl 0 [] .full)]⟩,
  ⟨none, .st (.s ⟨.a, .b, .d⟩) (.s ⟨.a, .e, .g⟩) 2⟩]
@[reducible] def p5r5 : List GI := [⟨none, .fa ⟨.a, .e, .h⟩ (.s ⟨.a, .b, .d⟩) 0⟩,
  ⟨none, .ld ⟨.a, .f, .a⟩ 1 false (.s ⟨.a, .e, .h⟩)⟩,
  ⟨none, .mov ⟨.a, .f, .b⟩ (.s ⟨.a, .b, .a⟩)⟩,
  ⟨none, .cmp ⟨.a, .f, .c⟩ .neq (.s ⟨.a, .f, .a⟩) (.s ⟨.a, .f, .b⟩)⟩,
  ⟨none, .mov ⟨.a, .f, .d⟩ (.s ⟨.a, .f, .c⟩)⟩,
  ⟨some (⟨.a, .f, .d⟩, false), .fa ⟨.a, .f, .e⟩ (.s ⟨.a, .b, .d⟩) 1⟩,
  ⟨some (⟨.a, .f, .d⟩, false), .ld ⟨.a, .f, .f⟩ 1 false (.s ⟨.a, .f, .e⟩)⟩,
  ⟨some (⟨.a, .f, .d⟩, false), .len ⟨.a, .f, .g⟩ (.s ⟨.a, .f, .f⟩)⟩,
  ⟨some (⟨.a, .f, .d⟩, false), .fa ⟨.a, .f, .h⟩ (.s ⟨.a, .b, .c⟩) 1⟩,
  ⟨some (⟨.a, .f, .d⟩, false), .ld ⟨.a, .g, .a⟩ 1 false (.s ⟨.a, .f, .h⟩)⟩,
  ⟨some (⟨.a, .f, .d⟩, false), .len ⟨.a, .g, .b⟩ (.s ⟨.a, .g, .a⟩)⟩,
  ⟨some (⟨.a, .f, .d⟩, false), .cmp ⟨.a, .g, .c⟩ .gtr (.s ⟨.a, .f, .g⟩) (.s ⟨.a, .g, .b⟩)⟩,
  ⟨none, .pick ⟨.a, .g, .d⟩ (.s ⟨.a, .f, .d⟩) (.k (.v (.bool true))) (.s ⟨.a, .g, .c⟩)⟩]
@[reducible] def p5r6 : List GI := [⟨none, .mov ⟨.a, .a, .g⟩ (.k (.v (.bool false)))⟩]
@[reducible] def p5c7 : PC := .seq (.reg p5r6) .ret
@[reducible] def p5c8 : PC := .cond (.s ⟨.a, .g, .d⟩) p5c7 .skip
@[reducible] def p5c9 : PC := .seq (.reg p5r5) p5c8
@[reducible] def p5r10 : List GI := [⟨none, .mov ⟨.a, .b, .e⟩ (.k (.v (.int .i64 0)))⟩]
@[reducible] def p5r11 : List GI := [⟨none, .mov ⟨.a, .g, .e⟩ (.s ⟨.a, .b, .e⟩)⟩,
  ⟨none, .fa ⟨.a, .g, .f⟩ (.s ⟨.a, .b, .d⟩) 1⟩,
  ⟨none, .ld ⟨.a, .g, .g⟩ 1 false (.s ⟨.a, .g, .f⟩)⟩,
  ⟨none, .len ⟨.a, .g, .h⟩ (.s ⟨.a, .g, .g⟩)⟩,
  ⟨none, .cmp ⟨.a, .h, .a⟩ .lss (.s ⟨.a, .g, .e⟩) (.s ⟨.a, .g, .h⟩)⟩]
@[reducible] def p5c12 : PC := .cond (.s ⟨.a, .h, .a⟩) .skip (.exit 0)
@[reducible] def p5c13 : PC := .seq (.reg p5r11) p5c12
@[reducible] def p5r14 : List GI := [⟨none, .fa ⟨.a, .h, .d⟩ (.s ⟨.a, .b, .d⟩) 1⟩,
  ⟨none, .ld ⟨.a, .h, .e⟩ 1 false (.s ⟨.a, .h, .d⟩)⟩,
  ⟨none, .mov ⟨.a, .h, .f⟩ (.s ⟨.a, .b, .e⟩)⟩,
  ⟨none, .ia ⟨.a, .h, .g⟩ (.s ⟨.a, .h, .e⟩) (.s ⟨.a, .h, .f⟩) 4⟩,
  ⟨none, .fa ⟨.a, .h, .h⟩ (.s ⟨.a, .h, .g⟩) 0⟩,
  ⟨none, .ld ⟨.b, .a, .a⟩ 1 false (.s ⟨.a, .h, .h⟩)⟩,
  ⟨none, .cmp ⟨.b, .a, .b⟩ .lss (.s ⟨.b, .a, .a⟩) (.k (.v (.int .i64 0)))⟩,
  ⟨none, .mov ⟨.b, .a, .c⟩ (.s ⟨.b, .a, .b⟩)⟩,
  ⟨some (⟨.b, .a, .c⟩, false), .fa ⟨.b, .a, .d⟩ (.s ⟨.a, .b, .d⟩) 1⟩,
  ⟨some (⟨.b, .a, .c⟩, false), .ld ⟨.b, .a, .e⟩ 1 false (.s ⟨.b, .a, .d⟩)⟩,
  ⟨some (⟨.b, .a, .c⟩, false), .mov ⟨.b, .a, .f⟩ (.s ⟨.a, .b, .e⟩)⟩,
  ⟨some (⟨.b, .a, .c⟩, false), .ia ⟨.b, .a, .g⟩ (.s ⟨.b, .a, .e⟩) (.s ⟨.b, .a, .f⟩) 4⟩,
  ⟨some (⟨.b, .a, .c⟩, false), .fa ⟨.b, .a, .h⟩ (.s ⟨.b, .a, .g⟩) 1⟩,
  ⟨some (⟨.b, .a, .c⟩, false), .ld ⟨.b, .b, .a⟩ 1 false (.s ⟨.b, .a, .h⟩)⟩,
  ⟨some (⟨.b, .a, .c⟩, false), .fa ⟨.b, .b, .b⟩ (.s ⟨.a, .b, .d⟩) 1⟩,
  ⟨some (⟨.b, .a, .c⟩, false), .ld ⟨.b, .b, .c⟩ 1 false (.s ⟨.b, .b, .b⟩)⟩,
  ⟨some (⟨.b, .a, .c⟩, false), .mov ⟨.b, .b, .d⟩ (.s ⟨.a, .b, .e⟩)⟩,
  ⟨some (⟨.b, .a, .c⟩, false), .ia ⟨.b, .b, .e⟩ (.s ⟨.b, .b, .c⟩) (.s ⟨.b, .b, .d⟩) 4⟩,
  ⟨some (⟨.b, .a, .c⟩, false), .fa ⟨.b, .b, .f⟩ (.s ⟨.b, .b, .e⟩) 0⟩,
  ⟨some (⟨.b, .a, .c⟩, false), .ld ⟨.b, .b, .g⟩ 1 false (.s ⟨.b, .b, .f⟩)⟩,
  ⟨some (⟨.b, .a, .c⟩, false), .cmp ⟨.b, .b, .h⟩ .leq (.s ⟨.b, .b, .a⟩) (.s ⟨.b, .b, .g⟩)⟩,
  ⟨none, .pick ⟨.b, .c, .a⟩ (.s ⟨.b, .a, .c⟩) (.k (.v (.bool true))) (.s ⟨.b, .b, .h⟩)⟩,
  ⟨none, .mov ⟨.b, .c, .b⟩ (.s ⟨.b, .c, .a⟩)⟩,
  ⟨some (⟨.b, .c, .b⟩, false), .fa ⟨.b, .c, .c⟩ (.s ⟨.a, .b, .d⟩) 1⟩,
  ⟨some (⟨.b, .c, .b⟩, false), .ld ⟨.b, .c, .d⟩ 1 false (.s ⟨.b, .c, .c⟩)⟩,
  ⟨some (⟨.b, .c, .b⟩, false), .mov ⟨.b, .c, .e⟩ (.s ⟨.a, .b, .e⟩)⟩,
  ⟨some (⟨.b, .c, .b⟩, false), .ia ⟨.b, .c, .f⟩ (.s ⟨.b, .c, .d⟩) (.s ⟨.b, .c, .e⟩) 4⟩,
  ⟨some (⟨.b, .c, .b⟩, false), .fa ⟨.b, .c, .g⟩ (.s ⟨.b, .c, .f⟩) 1⟩,
  ⟨some (⟨.b, .c, .b⟩, false), .ld ⟨.b, .c, .h⟩ 1 false (.s ⟨.b, .c, .g⟩)⟩,
  ⟨some (⟨.b, .c, .b⟩, false), .mov ⟨.b, .d, .a⟩ (.s ⟨.a, .b, .a⟩)⟩,
  ⟨some (⟨.b, .c, .b⟩, false), .cmp ⟨.b, .d, .b⟩ .gtr (.s ⟨.b, .c, .h⟩) (.s ⟨.b, .d, .a⟩)⟩,
  ⟨none, .pick ⟨.b, .d, .c⟩ (.s ⟨.b, .c, .b⟩) (.k (.v (.bool true))) (.s ⟨.b, .d, .b⟩)⟩]
@[reducible] def p5r15 : List GI := [⟨none, .mov ⟨.a, .a, .g⟩ (.k (.v (.bool false)))⟩]
@[reducible] def p5c16 : PC := .seq (.reg p5r15) .ret
@[reducible] def p5c17 : PC := .cond (.s ⟨.b, .d, .c⟩) p5c16 .skip
@[reducible] def p5c18 : PC := .seq (.reg p5r14) p5c17
@[reducible] def p5c19 : PC := .block 1 p5c18
@[reducible] def p5r20 : List GI := [⟨none, .mov ⟨.a, .h, .b⟩ (.s ⟨.a, .b, .e⟩)⟩,
  ⟨none, .ar ⟨.a, .h, .c⟩ .add .i64 (.s ⟨.a, .h, .b⟩) (.k (.v (.int .i64 1)))⟩,
  ⟨none, .mov ⟨.a, .b, .e⟩ (.s ⟨.a, .h, .c⟩)⟩]
@[reducible] def p5c21 : PC := .seq p5c19 (.reg p5r20)
@[reducible] def p5c22 : PC := .seq p5c13 p5c21
@[reducible] def p5l23 : PC := .loop 0 [⟨.a, .g, .e⟩, ⟨.a, .g, .f⟩, ⟨.a, .g, .g⟩, ⟨.a, .g, .h⟩, ⟨.a, .h, .a⟩, ⟨.a, .h, .d⟩, ⟨.a, .h, .e⟩, ⟨.a, .h, .f⟩, ⟨.a, .h, .g⟩, ⟨.a, .h, .h⟩, ⟨.b, .a, .a⟩, ⟨.b, .a, .b⟩, ⟨.b, .a, .c⟩, ⟨.b, .a, .d⟩, ⟨.b, .a, .e⟩, ⟨.b, .a, .f⟩, ⟨.b, .a, .g⟩, ⟨.b, .a, .h⟩, ⟨.b, .b, .a⟩, ⟨.b, .b, .b⟩, ⟨.b, .b, .c⟩, ⟨.b, .b, .d⟩, ⟨.b, .b, .e⟩, ⟨.b, .b, .f⟩, ⟨.b, .b, .g⟩, ⟨.b, .b, .h⟩, ⟨.b, .c, .a⟩, ⟨.b, .c, .b⟩, ⟨.b, .c, .c⟩, ⟨.b, .c, .d⟩, ⟨.b, .c, .e⟩, ⟨.b, .c, .f⟩, ⟨.b, .c, .g⟩, ⟨.b, .c, .h⟩, ⟨.b, .d, .a⟩, ⟨.b, .d, .b⟩, ⟨.b, .d, .c⟩, ⟨.a, .a, .g⟩, ⟨.a, .h, .b⟩, ⟨.a, .h, .c⟩, ⟨.a, .b, .e⟩] p5c22
@[reducible] def p5c24 : PC := .block 0 p5l23
@[reducible] def p5c25 : PC := .seq (.reg p5r10) p5c24
@[reducible] def p5r26 : List GI := [⟨none, .ld ⟨.b, .d, .d⟩ 2 true (.s ⟨.a, .b, .c⟩)⟩,
  ⟨none, .call ⟨.b, .d, .e⟩ 26 [(.s ⟨.b, .d, .d⟩), (.k (.v (.int .i64 0)))]⟩,
  ⟨none, .lit ⟨.b, .d, .f⟩ 1 [(.sl 0 [] .full)] 0 []⟩,
  ⟨none, .mov ⟨.a, .b, .f⟩ (.s ⟨.b, .d, .e⟩)⟩,
  ⟨none, .mov ⟨.a, .b, .g⟩ (.s ⟨.b, .d, .f⟩)⟩]
@[reducible] def p5r27 : List GI := [⟨none, .mov ⟨.a, .b, .h⟩ (.k (.v (.int .i64 0)))⟩]
@[reducible] def p5r28 : List GI := [⟨none, .mov ⟨.b, .d, .g⟩ (.s ⟨.a, .b, .h⟩)⟩,
  ⟨none, .mov ⟨.b, .d, .h⟩ (.s ⟨.a, .b, .f⟩)⟩,
  ⟨none, .len ⟨.b, .e, .a⟩ (.s ⟨.b, .d, .h⟩)⟩,
  ⟨none, .cmp ⟨.b, .e, .b⟩ .lss (.s ⟨.b, .d, .g⟩) (.s ⟨.b, .e, .a⟩)⟩]
@[reducible] def p5c29 : PC := .cond (.s ⟨.b, .e, .b⟩) .skip (.exit 2)
@[reducible] def p5c30 : PC := .seq (.reg p5r28) p5c29
@[reducible] def p5r31 : List GI := [⟨none, .mov ⟨.a, .c, .a⟩ (.k (.v (.bool true)))⟩]
@[reducible] def p5r32 : List GI := [⟨none, .mov ⟨.a, .c, .b⟩ (.k (.v (.int .i64 0)))⟩]
@[reducible] def p5r33 : List GI := [⟨none, .mov ⟨.b, .e, .e⟩ (.s ⟨.a, .c, .b⟩)⟩,
  ⟨none, .mov ⟨.b, .e, .f⟩ (.s ⟨.a, .b, .b⟩)⟩,
  ⟨none, .len ⟨.b, .e, .g⟩ (.s ⟨.b, .e, .f⟩)⟩,
  ⟨none, .cmp ⟨.b, .e, .h⟩ .lss (.s ⟨.b, .e, .e⟩) (.s ⟨.b, .e, .g⟩)⟩]
@[reducible] def p5c34 : PC := .cond (.s ⟨.b, .e, .h⟩) .skip (.exit 4)
@[reducible] def p5c35 : PC := .seq (.reg p5r33) p5c34
@[reducible] def p5r36 : List GI := [⟨none, .mov ⟨.a, .c, .c⟩ (.k (.v (.bool false)))⟩]
@[reducible] def p5r37 : List GI := [⟨none, .mov ⟨.a, .c, .d⟩ (.k (.v (.int .i64 0)))⟩]
@[reducible] def p5r38 : List GI := [⟨none, .mov ⟨.b, .f, .c⟩ (.s ⟨.a, .c, .d⟩)⟩,
  ⟨none, .mov ⟨.b, .f, .d⟩ (.s ⟨.a, .b, .f⟩)⟩,
  ⟨none, .mov ⟨.b, .f, .e⟩ (.s ⟨.a, .b, .h⟩)⟩,
  ⟨none, .ia ⟨.b, .f, .f⟩ (.s ⟨.b, .f, .d⟩) (.s ⟨.b, .f, .e⟩) 1⟩,
  ⟨none, .ld ⟨.b, .f, .g⟩ 1 false (.s ⟨.b, .f, .f⟩)⟩,
  ⟨none, .len ⟨.b, .f, .h⟩ (.s ⟨.b, .f, .g⟩)⟩,
  ⟨none, .cmp ⟨.b, .g, .a⟩ .lss (.s ⟨.b, .f, .c⟩) (.s ⟨.b, .f, .h⟩)⟩]
@[reducible] def p5c39 : PC := .cond (.s ⟨.b, .g, .a⟩) .skip (.exit 6)
@[reducible] def p5c40 : PC := .seq (.reg p5r38) p5c39
@[reducible] def p5r41 : List GI := [⟨none, .mov ⟨.b, .g, .d⟩ (.s ⟨.a, .b, .f⟩)⟩,
  ⟨none, .mov ⟨.b, .g, .e⟩ (.s ⟨.a, .b, .h⟩)⟩,
  ⟨none, .ia ⟨.b, .g, .f⟩ (.s ⟨.b, .g, .d⟩) (.s ⟨.b, .g, .e⟩) 1⟩,
  ⟨none, .ld ⟨.b, .g, .g⟩ 1 false (.s ⟨.b, .g, .f⟩)⟩,
  ⟨none, .mov ⟨.b, .g, .h⟩ (.s ⟨.a, .c, .d⟩)⟩,
  ⟨none, .ia ⟨.b, .h, .a⟩ (.s ⟨.b, .g, .g⟩) (.s ⟨.b, .g, .h⟩) 4⟩,
  ⟨none, .ld ⟨.b, .h, .b⟩ 4 true (.s ⟨.b, .h, .a⟩)⟩,
  ⟨none, .new ⟨.a, .c, .e⟩ [(.v (.int .i64 0)), (.v (.int .i64 0)), (.v (.int .i64 0)), (.v (.int .i64 0))]⟩,
  ⟨none, .st (.s ⟨.a, .c, .e⟩) (.s ⟨.b, .h, .b⟩) 4⟩]
@[reducible] def p5r42 : List GI := [⟨none, .mov ⟨.b, .h, .c⟩ (.s ⟨.a, .c, .c⟩)⟩,
  ⟨none, .mov ⟨.b, .h, .d⟩ (.s ⟨.b, .h, .c⟩)⟩,
  ⟨some (⟨.b, .h, .d⟩, false), .fa ⟨.b, .h, .e⟩ (.s ⟨.a, .c, .e⟩) 0⟩,
  ⟨some (⟨.b, .h, .d⟩, false), .ld ⟨.b, .h, .f⟩ 1 false (.s ⟨.b, .h, .e⟩)⟩,
  ⟨some (⟨.b, .h, .d⟩, false), .mov ⟨.b, .h, .g⟩ (.s ⟨.a, .b, .b⟩)⟩,
  ⟨some (⟨.b, .h, .d⟩, false), .mov ⟨.b, .h, .h⟩ (.s ⟨.a, .c, .b⟩)⟩,
  ⟨some (⟨.b, .h, .d⟩, false), .ia ⟨.c, .a, .a⟩ (.s ⟨.b, .h, .g⟩) (.s ⟨.b, .h, .h⟩) 3⟩,
  ⟨some (⟨.b, .h, .d⟩, false), .fa ⟨.c, .a, .b⟩ (.s ⟨.c, .a, .a⟩) 0⟩,
  ⟨some (⟨.b, .h, .d⟩, false), .ld ⟨.c, .a, .c⟩ 1 false (.s ⟨.c, .a, .b⟩)⟩,
  ⟨some (⟨.b, .h, .d⟩, false), .cmp ⟨.c, .a, .d⟩ .eql (.s ⟨.b, .h, .f⟩) (.s ⟨.c, .a, .c⟩)⟩,
  ⟨some (⟨.b, .h, .d⟩, false), .mov ⟨.c, .a, .e⟩ (.s ⟨.c, .a, .d⟩)⟩,
  ⟨some (⟨.c, .a, .e⟩, true), .fa ⟨.c, .a, .f⟩ (.s ⟨.a, .c, .e⟩) 1⟩,
  ⟨some (⟨.c, .a, .e⟩, true), .ld ⟨.c, .a, .g⟩ 1 false (.s ⟨.c, .a, .f⟩)⟩,
  ⟨some (⟨.c, .a, .e⟩, true), .mov ⟨.c, .a, .h⟩ (.s ⟨.a, .b, .b⟩)⟩,
  ⟨some (⟨.c, .a, .e⟩, true), .mov ⟨.c, .b, .a⟩ (.s ⟨.a, .c, .b⟩)⟩,
  ⟨some (⟨.c, .a, .e⟩, true), .ia ⟨.c, .b, .b⟩ (.s ⟨.c, .a, .h⟩) (.s ⟨.c, .b, .a⟩) 3⟩,
  ⟨some (⟨.c, .a, .e⟩, true), .fa ⟨.c, .b, .c⟩ (.s ⟨.c, .b, .b⟩) 1⟩,
  ⟨some (⟨.c, .a, .e⟩, true), .ld ⟨.c, .b, .d⟩ 1 false (.s ⟨.c, .b, .c⟩)⟩,
  ⟨some (⟨.c, .a, .e⟩, true), .cmp ⟨.c, .b, .e⟩ .eql (.s ⟨.c, .a, .g⟩) (.s ⟨.c, .b, .d⟩)⟩,
  ⟨some (⟨.b, .h, .d⟩, false), .pick ⟨.c, .b, .f⟩ (.s ⟨.c, .a, .e⟩) (.s ⟨.c, .b, .e⟩) (.k (.v (.bool false)))⟩,
  ⟨some (⟨.b, .h, .d⟩, false), .mov ⟨.c, .b, .g⟩ (.s ⟨.c, .b, .f⟩)⟩,
  ⟨some (⟨.c, .b, .g⟩, true), .mov ⟨.c, .b, .h⟩ (.s ⟨.a, .b, .b⟩)⟩,
  ⟨some (⟨.c, .b, .g⟩, true), .mov ⟨.c, .c, .a⟩ (.s ⟨.a, .c, .b⟩)⟩,
  ⟨some (⟨.c, .b, .g⟩, true), .ia ⟨.c, .c, .b⟩ (.s ⟨.c, .b, .h⟩) (.s ⟨.c, .c, .a⟩) 3⟩,
  ⟨some (⟨.c, .b, .g⟩, true), .fa ⟨.c, .c, .c⟩ (.s ⟨.c, .c, .b⟩) 2⟩,
  ⟨some (⟨.c, .b, .g⟩, true), .ld ⟨.c, .c, .d⟩ 1 false (.s ⟨.c, .c, .c⟩)⟩,
  ⟨some (⟨.c, .b, .g⟩, true), .cmp ⟨.c, .c, .e⟩ .eql (.s ⟨.c, .c, .d⟩) (.k (.v (.int .i64 (-1))))⟩,
  ⟨some (⟨.c, .b, .g⟩, true), .mov ⟨.c, .c, .f⟩ (.s ⟨.c, .c, .e⟩)⟩,
  ⟨some (⟨.c, .c, .f⟩, false), .mov ⟨.c, .c, .g⟩ (.s ⟨.a, .b, .b⟩)⟩,
  ⟨some (⟨.c, .c, .f⟩, false), .mov ⟨.c, .c, .h⟩ (.s ⟨.a, .c, .b⟩)⟩,
  ⟨some (⟨.c, .c, .f⟩, false), .ia ⟨.c, .d, .a⟩ (.s ⟨.c, .c, .g⟩) (.s ⟨.c, .c, .h⟩) 3⟩,
  ⟨some (⟨.c, .c, .f⟩, false), .fa ⟨.c, .d, .b⟩ (.s ⟨.c, .d, .a⟩) 2⟩,
  ⟨some (⟨.c, .c, .f⟩, false), .ld ⟨.c, .d, .c⟩ 1 false (.s ⟨.c, .d, .b⟩)⟩,
  ⟨some (⟨.c, .c, .f⟩, false), .fa ⟨.c, .d, .d⟩ (.s ⟨.a, .c, .e⟩) 2⟩,
  ⟨some (⟨.c, .c, .f⟩, false), .ld ⟨.c, .d, .e⟩ 1 false (.s ⟨.c, .d, .d⟩)⟩,
  ⟨some (⟨.c, .c, .f⟩, false), .cmp ⟨.c, .d, .f⟩ .eql (.s ⟨.c, .d, .c⟩) (.s ⟨.c, .d, .e⟩)⟩,
  ⟨some (⟨.c, .b, .g⟩, true), .pick ⟨.c, .d, .g⟩ (.s ⟨.c, .c, .f⟩) (.k (.v (.bool true))) (.s ⟨.c, .d, .f⟩)⟩,
  ⟨some (⟨.b, .h, .d⟩, false), .pick ⟨.c, .d, .h⟩ (.s ⟨.c, .b, .g⟩) (.s ⟨.c, .d, .g⟩) (.k (.v (.bool false)))⟩,
  ⟨none, .pick ⟨.c, .e, .a⟩ (.s ⟨.b, .h, .d⟩) (.k (.v (.bool true))) (.s ⟨.c, .d, .h⟩)⟩,
  ⟨none, .mov ⟨.a, .c, .c⟩ (.s ⟨.c, .e, .a⟩)⟩]
@[reducible] def p5c43 : PC := .seq (.reg p5r41) (.reg p5r42)
@[reducible] def p5c44 : PC := .block 7 p5c43
@[reducible] def p5r45 : List GI := [⟨none, .mov ⟨.b, .g, .b⟩ (.s ⟨.a, .c, .d⟩)⟩,
  ⟨none, .ar ⟨.b, .g, .c⟩ .add .i64 (.s ⟨.b, .g, .b⟩) (.k (.v (.int .i64 1)))⟩,
  ⟨none, .mov ⟨.a, .c, .d⟩ (.s ⟨.b, .g, .c⟩)⟩]
@[reducible] def p5c46 : PC := .seq p5c44 (.reg p5r45)
@[reducible] def p5c47 : PC := .seq p5c40 p5c46
@[reducible] def p5l48 : PC := .loop 0 [⟨.b, .f, .c⟩, ⟨.b, .f, .d⟩, ⟨.b, .f, .e⟩, ⟨.b, .f, .f⟩, ⟨.b, .f, .g⟩, ⟨.b, .f, .h⟩, ⟨.b, .g, .a⟩, ⟨.b, .g, .d⟩, ⟨.b, .g, .e⟩, ⟨.b, .g, .f⟩, ⟨.b, .g, .g⟩, ⟨.b, .g, .h⟩, ⟨.b, .h, .a⟩, ⟨.b, .h, .b⟩, ⟨.a, .c, .e⟩, ⟨.b, .h, .c⟩, ⟨.b, .h, .d⟩, ⟨.b, .h, .e⟩, ⟨.b, .h, .f⟩, ⟨.b, .h, .g⟩, ⟨.b, .h, .h⟩, ⟨.c, .a, .a⟩, ⟨.c, .a, .b⟩, ⟨.c, .a, .c⟩, ⟨.c, .a, .d⟩, ⟨.c, .a, .e⟩, ⟨.c, .a, .f⟩, ⟨.c, .a, .g⟩, ⟨.c, .a, .h⟩, ⟨.c, .b, .a⟩, ⟨.c, .b, .b⟩, ⟨.c, .b, .c⟩, ⟨.c, .b, .d⟩, ⟨.c, .b, .e⟩, ⟨.c, .b, .f⟩, ⟨.c, .b, .g⟩, ⟨.c, .b, .h⟩, ⟨.c, .c, .a⟩, ⟨.c, .c, .b⟩, ⟨.c, .c, .c⟩, ⟨.c, .c, .d⟩, ⟨.c, .c, .e⟩, ⟨.c, .c, .f⟩, ⟨.c, .c, .g⟩, ⟨.c, .c, .h⟩, ⟨.c, .d, .a⟩, ⟨.c, .d, .b⟩, ⟨.c, .d, .c⟩, ⟨.c, .d, .d⟩, ⟨.c, .d, .e⟩, ⟨.c, .d, .f⟩, ⟨.c, .d, .g⟩, ⟨.c, .d, .h⟩, ⟨.c, .e, .a⟩, ⟨.a, .c, .c⟩, ⟨.b, .g, .b⟩, ⟨.b, .g, .c⟩, ⟨.a, .c, .d⟩] p5c47
@[reducible] def p5c49 : PC := .block 6 p5l48
@[reducible] def p5c50 : PC := .seq (.reg p5r37) p5c49
@[reducible] def p5r51 : List GI := [⟨none, .mov ⟨.c, .e, .b⟩ (.s ⟨.a, .c, .a⟩)⟩,
  ⟨none, .mov ⟨.c, .e, .c⟩ (.s ⟨.c, .e, .b⟩)⟩,
  ⟨some (⟨.c, .e, .c⟩, true), .mov ⟨.c, .e, .d⟩ (.s ⟨.a, .c, .c⟩)⟩,
  ⟨none, .pick ⟨.c, .e, .e⟩ (.s ⟨.c, .e, .c⟩) (.s ⟨.c, .e, .d⟩) (.k (.v (.bool false)))⟩,
  ⟨none, .mov ⟨.a, .c, .a⟩ (.s ⟨.c, .e, .e⟩)⟩]
@[reducible] def p5c52 : PC := .seq p5c50 (.reg p5r51)
@[reducible] def p5c53 : PC := .seq (.reg p5r36) p5c52
@[reducible] def p5c54 : PC := .block 5 p5c53
@[reducible] def p5r55 : List GI := [⟨none, .mov ⟨.b, .f, .a⟩ (.s ⟨.a, .c, .b⟩)⟩,
  ⟨none, .ar ⟨.b, .f, .b⟩ .add .i64 (.s ⟨.b, .f, .a⟩) (.k (.v (.int .i64 1)))⟩,
  ⟨none, .mov ⟨.a, .c, .b⟩ (.s ⟨.b, .f, .b⟩)⟩]
@[reducible] def p5c56 : PC := .seq p5c54 (.reg p5r55)
@[reducible] def p5c57 : PC := .seq p5c35 p5c56
@[reducible] def p5l58 : PC := .loop 0 [⟨.b, .e, .e⟩, ⟨.b, .e, .f⟩, ⟨.b, .e, .g⟩, ⟨.b, .e, .h⟩, ⟨.a, .c, .c⟩, ⟨.a, .c, .d⟩, ⟨.b, .f, .c⟩, ⟨.b, .f, .d⟩, ⟨.b, .f, .e⟩, ⟨.b, .f, .f⟩, ⟨.b, .f, .g⟩, ⟨.b, .f, .h⟩, ⟨.b, .g, .a⟩, ⟨.b, .g, .d⟩, ⟨.b, .g, .e⟩, ⟨.b, .g, .f⟩, ⟨.b, .g, .g⟩, ⟨.b, .g, .h⟩, ⟨.b, .h, .a⟩, ⟨.b, .h, .b⟩, ⟨.a, .c, .e⟩, ⟨.b, .h, .c⟩, ⟨.b, .h, .d⟩, ⟨.b, .h, .e⟩, ⟨.b, .h, .f⟩, ⟨.b, .h, .g⟩, ⟨.b, .h, .h⟩, ⟨.c, .a, .a⟩, ⟨.c, .a, .b⟩, ⟨.c, .a, .c⟩, ⟨.c, .a, .d⟩, ⟨.c, .a, .e⟩, ⟨.c, .a, .f⟩, ⟨.c, .a, .g⟩, ⟨.c, .a, .h⟩, ⟨.c, .b, .a⟩, ⟨.c, .b, .b⟩, ⟨.c, .b, .c⟩, ⟨.c, .b, .d⟩, ⟨.c, .b, .e⟩, ⟨.c, .b, .f⟩, ⟨.c, .b, .g⟩, ⟨.c, .b, .h⟩, ⟨.c, .c, .a⟩, ⟨.c, .c, .b⟩, ⟨.c, .c, .c⟩, ⟨.c, .c, .d⟩, ⟨.c, .c, .e⟩, ⟨.c, .c, .f⟩, ⟨.c, .c, .g⟩, ⟨.c, .c, .h⟩, ⟨.c, .d, .a⟩, ⟨.c, .d, .b⟩, ⟨.c, .d, .c⟩, ⟨.c, .d, .d⟩, ⟨.c, .d, .e⟩, ⟨.c, .d, .f⟩, ⟨.c, .d, .g⟩, ⟨.c, .d, .h⟩, ⟨.c, .e, .a⟩, ⟨.b, .g, .b⟩, ⟨.b, .g, .c⟩, ⟨.c, .e, .b⟩, ⟨.c, .e, .c⟩, ⟨.c, .e, .d⟩, ⟨.c, .e, .e⟩, ⟨.a, .c, .a⟩, ⟨.b, .f, .a⟩, ⟨.b, .f, .b⟩, ⟨.a, .c, .b⟩] p5c57
@[reducible] def p5c59 : PC := .block 4 p5l58
@[reducible] def p5c60 : PC := .seq (.reg p5r32) p5c59
@[reducible] def p5r61 : List GI := [⟨none, .mov ⟨.c, .e, .f⟩ (.s ⟨.a, .c, .a⟩)⟩]
@[reducible] def p5r62 : List GI := [⟨none, .mov ⟨.c, .e, .g⟩ (.s ⟨.a, .b, .g⟩)⟩,
  ⟨none, .mov ⟨.c, .e, .h⟩ (.s ⟨.a, .b, .f⟩)⟩,
  ⟨none, .mov ⟨.c, .f, .a⟩ (.s ⟨.a, .b, .h⟩)⟩,
  ⟨none, .ia ⟨.c, .f, .b⟩ (.s ⟨.c, .e, .h⟩) (.s ⟨.c, .f, .a⟩) 1⟩,
  ⟨none, .ld ⟨.c, .f, .c⟩ 1 false (.s ⟨.c, .f, .b⟩)⟩,
  ⟨none, .lit ⟨.c, .f, .d⟩ 1 [(.sl 0 [] .full)] 1 [(0, (.s ⟨.c, .f, .c⟩))]⟩,
  ⟨none, .app ⟨.c, .f, .e⟩ (.s ⟨.c, .e, .g⟩) (.s ⟨.c, .f, .d⟩) 1 24 0 28⟩,
  ⟨none, .mov ⟨.a, .b, .g⟩ (.s ⟨.c, .f, .e⟩)⟩]
@[reducible] def p5c63 : PC := .cond (.s ⟨.c, .e, .f⟩) (.reg p5r62) .skip
@[reducible] def p5c64 : PC := .seq (.reg p5r61) p5c63
@[reducible] def p5c65 : PC := .seq p5c60 p5c64
@[reducible] def p5c66 : PC := .seq (.reg p5r31) p5c65
@[reducible] def p5c67 : PC := .block 3 p5c66
@[reducible] def p5r68 : List GI := [⟨none, .mov ⟨.b, .e, .c⟩ (.s ⟨.a, .b, .h⟩)⟩,
  ⟨none, .ar ⟨.b, .e, .d⟩ .add .i64 (.s ⟨.b, .e, .c⟩) (.k (.v (.int .i64 1)))⟩,
  ⟨none, .mov ⟨.a, .b, .h⟩ (.s ⟨.b, .e, .d⟩)⟩]
@[reducible] def p5c69 : PC := .seq p5c67 (.reg p5r68)
@[reducible] def p5c70 : PC := .seq p5c30 p5c69
@[reducible] def p5l71 : PC := .loop 0 [⟨.b, .d, .g⟩, ⟨.b, .d, .h⟩, ⟨.b, .e, .a⟩, ⟨.b, .e, .b⟩, ⟨.a, .c, .a⟩, ⟨.a, .c, .b⟩, ⟨.b, .e, .e⟩, ⟨.b, .e, .f⟩, ⟨.b, .e, .g⟩, ⟨.b, .e, .h⟩, ⟨.a, .c, .c⟩, ⟨.a, .c, .d⟩, ⟨.b, .f, .c⟩, ⟨.b, .f, .d⟩, ⟨.b, .f, .e⟩, ⟨.b, .f, .f⟩, ⟨.b, .f, .g⟩, ⟨.b, .f, .h⟩, ⟨.b, .g, .a⟩, ⟨.b, .g, .d⟩, ⟨.b, .g, .e⟩, ⟨.b, .g, .f⟩, ⟨.b, .g, .g⟩, ⟨.b, .g, .h⟩, ⟨.b, .h, .a⟩, ⟨.b, .h, .b⟩, ⟨.a, .c, .e⟩, ⟨.b, .h, .c⟩, ⟨.b, .h, .d⟩, ⟨.b, .h, .e⟩, ⟨.b, .h, .f⟩, ⟨.b, .h, .g⟩, ⟨.b, .h, .h⟩, ⟨.c, .a, .a⟩, ⟨.c, .a, .b⟩, ⟨.c, .a, .c⟩, ⟨.c, .a, .d⟩, ⟨.c, .a, .e⟩, ⟨.c, .a, .f⟩, ⟨.c, .a, .g⟩, ⟨.c, .a, .h⟩, ⟨.c, .b, .a⟩, ⟨.c, .b, .b⟩, ⟨.c, .b, .c⟩, ⟨.c, .b, .d⟩, ⟨.c, .b, .e⟩, ⟨.c, .b, .f⟩, ⟨.c, .b, .g⟩, ⟨.c, .b, .h⟩, ⟨.c, .c, .a⟩, ⟨.c, .c, .b⟩, ⟨.c, .c, .c⟩, ⟨.c, .c, .d⟩, ⟨.c, .c, .e⟩, ⟨.c, .c, .f⟩, ⟨.c, .c, .g⟩, ⟨.c, .c, .h⟩, ⟨.c, .d, .a⟩, ⟨.c, .d, .b⟩, ⟨.c, .d, .c⟩, ⟨.c, .d, .d⟩, ⟨.c, .d, .e⟩, ⟨.c, .d, .f⟩, ⟨.c, .d, .g⟩, ⟨.c, .d, .h⟩, ⟨.c, .e, .a⟩, ⟨.b, .g, .b⟩, ⟨.b, .g, .c⟩, ⟨.c, .e, .b⟩, ⟨.c, .e, .c⟩, ⟨.c, .e, .d⟩, ⟨.c, .e, .e⟩, ⟨.b, .f, .a⟩, ⟨.b, .f, .b⟩, ⟨.c, .e, .f⟩, ⟨.c, .e, .g⟩, ⟨.c, .e, .h⟩, ⟨.c, .f, .a⟩, ⟨.c, .f, .b⟩, ⟨.c, .f, .c⟩, ⟨.c, .f, .d⟩, ⟨.c, .f, .e⟩, ⟨.a, .b, .g⟩, ⟨.b, .e, .c⟩, ⟨.b, .e, .d⟩, ⟨.a, .b, .h⟩] p5c70
@[reducible] def p5c72 : PC := .block 2 p5l71
@[reducible] def p5c73 : PC := .seq (.reg p5r27) p5c72
@[reducible] def p5r74 : List GI := [⟨none, .mov ⟨.c, .f, .f⟩ (.s ⟨.a, .b, .f⟩)⟩,
  ⟨none, .len ⟨.c, .f, .g⟩ (.s ⟨.c, .f, .f⟩)⟩,
  ⟨none, .cmp ⟨.c, .f, .h⟩ .eql (.s ⟨.c, .f, .g⟩) (.k (.v (.int .i64 300)))⟩,
  ⟨none, .mov ⟨.c, .g, .a⟩ (.s ⟨.c, .f, .h⟩)⟩,
  ⟨some (⟨.c, .g, .a⟩, false), .ld ⟨.c, .g, .b⟩ 2 true (.s ⟨.a, .b, .d⟩)⟩,
  ⟨some (⟨.c, .g, .a⟩, false), .call ⟨.c, .g, .c⟩ 26 [(.s ⟨.c, .g, .b⟩), (.k (.v (.int .i64 0)))]⟩,
  ⟨some (⟨.c, .g, .a⟩, false), .mov ⟨.c, .g, .d⟩ (.s ⟨.a, .b, .g⟩)⟩,
  ⟨some (⟨.c, .g, .a⟩, false), .call ⟨.c, .g, .e⟩ 27 [(.s ⟨.c, .g, .c⟩), (.s ⟨.c, .g, .d⟩)]⟩,
  ⟨none, .pick ⟨.c, .g, .f⟩ (.s ⟨.c, .g, .a⟩) (.k (.v (.bool true))) (.s ⟨.c, .g, .e⟩)⟩,
  ⟨none, .mov ⟨.c, .g, .g⟩ (.s ⟨.c, .g, .f⟩)⟩,
  ⟨some (⟨.c, .g, .g⟩, true), .mov ⟨.c, .g, .h⟩ (.s ⟨.a, .a, .h⟩)⟩,
  ⟨none, .pick ⟨.c, .h, .a⟩ (.s ⟨.c, .g, .g⟩) (.s ⟨.c, .g, .h⟩) (.k (.v (.bool false)))⟩,
  ⟨none, .mov ⟨.a, .a, .g⟩ (.s ⟨.c, .h, .a⟩)⟩]
@[reducible] def p5c75 : PC := .seq (.reg p5r74) .ret
@[reducible] def p5c76 : PC := .seq p5c73 p5c75
@[reducible] def p5c77 : PC := .seq (.reg p5r26) p5c76
@[reducible] def p5c78 : PC := .seq p5c25 p5c77
@[reducible] def p5c79 : PC := .seq p5c9 p5c78
@[reducible] def p5c80 : PC := .seq (.reg p5r4) p5c79
@[reducible] def p5c81 : PC := .seq (.reg p5r3) p5c80
@[reducible] def p5c82 : PC := .seq (.reg p5r2) p5c81
@[reducible] def p5c83 : PC := .seq (.reg p5r1) p5c82
@[reducible] def p5c84 : PC := .seq (.reg p5r0) p5c83
def p5 : PFun := ⟨p5c84, [(.t ⟨.a, .a, .g⟩)]⟩
@[simp] theorem p5_b : p5.body = p5c84 := rfl
@[simp] theorem p5_r : p5.res = [(.t ⟨.a, .a, .g⟩)] := rfl
theorem is5 : cFunB Try.prog 0 [] 5 = some p5 := by kernel_rfl
theorem na5 : ((Try.prog.funcs[5]?).map (·.ntmps)).any (3 ≤ ·) = true := by kernel_rfl
@[reducible] def p6r0 : List GI := [⟨none, .box ⟨.a, .a, .f⟩ (.s ⟨.a, .a, .c⟩)⟩,
  ⟨none, .mov ⟨.a, .a, .g⟩ (.k (.v (.bool false)))⟩]
@[reducible] def p6r1 : List GI := [⟨none, .call ⟨.a, .b, .h⟩ 9 []⟩,
  ⟨none, .mov ⟨.a, .a, .h⟩ (.s ⟨.a, .b, .h⟩)⟩]
@[reducible] def p6r2 : List GI := [⟨none, .iap ⟨.a, .c, .a⟩ (.s ⟨.a, .a, .f⟩) (.k (.v (.int .i64 0))) 1 2⟩,
  ⟨none, .ld ⟨.a, .c, .b⟩ 1 false (.s ⟨.a, .c, .a⟩)⟩,
  ⟨none, .cvi ⟨.a, .c, .c⟩ .i64 (.s ⟨.a, .c, .b⟩)⟩,
  ⟨none, .dv ⟨.a, .c, .d⟩ .rem .i64 (.s ⟨.a, .c, .c⟩) (.k (.v (.int .i64 9)))⟩,
  ⟨none, .ar ⟨.a, .c, .e⟩ .add .i64 (.k (.v (.int .i64 1))) (.s ⟨.a, .c, .d⟩)⟩,
  ⟨none, .mov ⟨.a, .b, .a⟩ (.s ⟨.a, .c, .e⟩)⟩]
@[reducible] def p6r3 : List GI := [⟨none, .mov ⟨.a, .c, .f⟩ (.s ⟨.a, .a, .a⟩)⟩,
  ⟨none, .mov ⟨.a, .c, .g⟩ (.s ⟨.a, .b, .a⟩)⟩,
  ⟨none, .call ⟨.a, .c, .h⟩ 10 [(.s ⟨.a, .c, .f⟩), (.s ⟨.a, .c, .g⟩)]⟩,
  ⟨none, .mov ⟨.a, .d, .a⟩ (.s ⟨.a, .a, .b⟩)⟩,
  ⟨none, .mov ⟨.a, .d, .b⟩ (.s ⟨.a, .b, .a⟩)⟩,
  ⟨none, .call ⟨.a, .d, .c⟩ 11 [(.s ⟨.a, .d, .a⟩), (.s ⟨.a, .d, .b⟩)]⟩,
  ⟨none, .new ⟨.a, .b, .c⟩ [(.v (.int .i64 0)), (.sl 0 [] .full)]⟩,
  ⟨none, .mov ⟨.a, .b, .b⟩ (.s ⟨.a, .c, .h⟩)⟩,
  ⟨none, .st (.s ⟨.a, .b, .c⟩) (.s ⟨.a, .d, .c⟩) 2⟩]
@[reducible] def p6r4 : List GI := [⟨none, .ld ⟨.a, .d, .d⟩ 2 true (.s ⟨.a, .b, .c⟩)⟩,
  ⟨none, .mov ⟨.a, .d, .e⟩ (.s ⟨.a, .b, .b⟩)⟩,
  ⟨none, .call ⟨.a, .d, .f⟩ 16 [(.s ⟨.a, .d, .d⟩), (.s ⟨.a, .d, .e⟩)]⟩,
  ⟨none, .new ⟨.a, .b, .d⟩ [(.v (.int .i64 0)), (.sl 0 [] .full)]⟩,
  ⟨none, .st (.s ⟨.a, .b, .d⟩) (.s ⟨.a, .d, .f⟩) 2⟩]
@[reducible] def p6r5 : List GI := [⟨none, .ld ⟨.a, .d, .g⟩ 2 true (.s ⟨.a, .b, .c⟩)⟩,
  ⟨none, .new ⟨.a, .b, .e⟩ [(.v (.int .i64 0)), (.sl 0 [] .full)]⟩,
  ⟨none, .st (.s ⟨.a, .b, .e⟩) (.s ⟨.a, .d, .g⟩) 2⟩]
@[reducible] def p6r6 : List GI := [⟨none, .mov ⟨.a, .b, .f⟩ (.k (.v (.int .i64 0)))⟩]
@[reducible] def p6r7 : List GI := [⟨none, .mov ⟨.a, .d, .h⟩ (.s ⟨.a, .b, .f⟩)⟩,
  ⟨none, .mov ⟨.a, .e, .a⟩ (.s ⟨.a, .b, .b⟩)⟩,
  ⟨none, .len ⟨.a, .e, .b⟩ (.s ⟨.a, .e, .a⟩)⟩,
  ⟨none, .cmp ⟨.a, .e, .c⟩ .lss (.s ⟨.a, .d, .h⟩) (.s ⟨.a, .e, .b⟩)⟩]
@[reducible] def p6c8 : PC := .cond (.s ⟨.a, .e, .c⟩) .skip (.exit 0)
@[reducible] def p6c9 : PC := .seq (.reg p6r7) p6c8
@[reducible] def p6r10 : List GI := [⟨none, .ld ⟨.a, .e, .f⟩ 2 true (.s ⟨.a, .b, .e⟩)⟩,
  ⟨none, .mov ⟨.a, .e, .g⟩ (.s ⟨.a, .b, .b⟩)⟩,
  ⟨none, .mov ⟨.a, .e, .h⟩ (.s ⟨.a, .b, .f⟩)⟩,
  ⟨none, .iap ⟨.a, .f, .a⟩ (.s ⟨.a, .a, .f⟩) (.k (.v (.int .i64 1))) 1 2⟩,
  ⟨none, .ld ⟨.a, .f, .b⟩ 1 false (.s ⟨.a, .f, .a⟩)⟩,
  ⟨none, .cvi ⟨.a, .f, .c⟩ .i64 (.s ⟨.a, .f, .b⟩)⟩,
  ⟨none, .ar ⟨.a, .f, .d⟩ .add .i64 (.s ⟨.a, .e, .h⟩) (.s ⟨.a, .f, .c⟩)⟩,
  ⟨none, .mov ⟨.a, .f, .e⟩ (.s ⟨.a, .b, .b⟩)⟩,
  ⟨none, .len ⟨.a, .f, .f⟩ (.s ⟨.a, .f, .e⟩)⟩,
  ⟨none, .dv ⟨.a, .f, .g⟩ .rem .i64 (.s ⟨.a, .f, .d⟩) (.s ⟨.a, .f, .f⟩)⟩,
  ⟨none, .ia ⟨.a, .f, .h⟩ (.s ⟨.a, .e, .g⟩) (.s ⟨.a, .f, .g⟩) 3⟩,
  ⟨none, .ld ⟨.a, .g, .a⟩ 3 true (.s ⟨.a, .f, .h⟩)⟩,
  ⟨none, .lit ⟨.a, .g, .b⟩ 3 [(.v (.int .i64 0)), (.v (.int .i64 0)), (.v (.int .i64 0))] 1 [(0, (.s ⟨.a, .g, .a⟩))]⟩,
  ⟨none, .call ⟨.a, .g, .c⟩ 16 [(.s ⟨.a, .e, .f⟩), (.s ⟨.a, .g, .b⟩)]⟩,
  ⟨none, .st (.s ⟨.a, .b, .e⟩) (.s ⟨.a, .g, .c⟩) 2⟩]
@[reducible] def p6c11 : PC := .block 1 (.reg p6r10)
@[reducible] def p6r12 : List GI := [⟨none, .mov ⟨.a, .e, .d⟩ (.s ⟨.a, .b, .f⟩)⟩,
  ⟨none, .ar ⟨.a, .e, .e⟩ .add .i64 (.s ⟨.a, .e, .d⟩) (.k (.v (.int .i64 1)))⟩,
  ⟨none, .mov ⟨.a, .b, .f⟩ (.s ⟨.a, .e, .e⟩)⟩]
@[reducible] def p6c13 : PC := .seq p6c11 (.reg p6r12)
@[reducible] def p6c14 : PC := .seq p6c9 p6c13
@[reducible] def p6l15 : PC := .loop 0 [⟨.a, .d, .h⟩, ⟨.a, .e, .a⟩, ⟨.a, .e, .b⟩, ⟨.a, .e, .c⟩, ⟨.a, .e, .f⟩, ⟨.a, .e, .g⟩, ⟨.a, .e, .h⟩, ⟨.a, .f, .a⟩, ⟨.a, .f, .b⟩, ⟨.a, .f, .c⟩, ⟨.a, .f, .d⟩, ⟨.a, .f, .e⟩, ⟨.a, .f, .f⟩, ⟨.a, .f, .g⟩, ⟨.a, .f, .h⟩, ⟨.a, .g, .a⟩, ⟨.a, .g, .b⟩, ⟨.a, .g, .c⟩, ⟨.a, .e, .d⟩, ⟨.a, .e, .e⟩, ⟨.a, .b, .f⟩] p6c14
@[reducible] def p6c16 : PC := .block 0 p6l15
@[reducible] def p6c17 : PC := .seq (.reg p6r6) p6c16
@[reducible] def p6r18 : List GI := [⟨none, .new ⟨.a, .b, .g⟩ [(.v (.int .i64 0)), (.sl 0 [] .full)]⟩,
  ⟨none, .ld ⟨.a, .g, .d⟩ 2 true (.s ⟨.a, .b, .c⟩)⟩,
  ⟨none, .mov ⟨.a, .g, .e⟩ (.s ⟨.a, .b, .b⟩)⟩,
  ⟨none, .mov ⟨.a, .g, .f⟩ (.s ⟨.a, .b, .b⟩)⟩,
  ⟨none, .len ⟨.a, .g, .g⟩ (.s ⟨.a, .g, .f⟩)⟩,
  ⟨none, .dv ⟨.a, .g, .h⟩ .quo .i64 (.s ⟨.a, .g, .g⟩) (.k (.v (.int .i64 2)))⟩,
  ⟨none, .slc ⟨.a, .h, .a⟩ (.s ⟨.a, .g, .e⟩) none (some (.s ⟨.a, .g, .h⟩)) none 3⟩,
  ⟨none, .call ⟨.a, .h, .b⟩ 16 [(.s ⟨.a, .g, .d⟩), (.s ⟨.a, .h, .a⟩)]⟩,
  ⟨none, .st (.s ⟨.a, .b, .g⟩) (.s ⟨.a, .h, .b⟩) 2⟩]
@[reducible] def p6r19 : List GI := [⟨none, .ld ⟨.a, .h, .c⟩ 2 true (.s ⟨.a, .b, .d⟩)⟩,
  ⟨none, .mov ⟨.a, .h, .d⟩ (.s ⟨.a, .b, .b⟩)⟩,
  ⟨none, .call ⟨.a, .h, .e⟩ 16 [(.s ⟨.a, .h, .c⟩), (.s ⟨.a, .h, .d⟩)]⟩,
  ⟨none, .ld ⟨.a, .h, .f⟩ 2 true (.s ⟨.a, .b, .d⟩)⟩,
  ⟨none, .call ⟨.a, .h, .g⟩ 15 [(.s ⟨.a, .h, .e⟩), (.s ⟨.a, .h, .f⟩)]⟩,
  ⟨none, .mov ⟨.a, .h, .h⟩ (.s ⟨.a, .h, .g⟩)⟩,
  ⟨some (⟨.a, .h, .h⟩, true), .ld ⟨.b, .a, .a⟩ 2 true (.s ⟨.a, .b, .e⟩)⟩,
  ⟨some (⟨.a, .h, .h⟩, true), .ld ⟨.b, .a, .b⟩ 2 true (.s ⟨.a, .b, .d⟩)⟩,
  ⟨some (⟨.a, .h, .h⟩, true), .call ⟨.b, .a, .c⟩ 15 [(.s ⟨.b, .a, .a⟩), (.s ⟨.b, .a, .b⟩)]⟩,
  ⟨none, .pick ⟨.b, .a, .d⟩ (.s ⟨.a, .h, .h⟩) (.s ⟨.b, .a, .c⟩) (.k (.v (.bool false)))⟩,
  ⟨none, .mov ⟨.b, .a, .e⟩ (.s ⟨.b, .a, .d⟩)⟩,
  ⟨some (⟨.b, .a, .e⟩, true), .fa ⟨.b, .a, .f⟩ (.s ⟨.a, .b, .d⟩) 1⟩,
  ⟨some (⟨.b, .a, .e⟩, true), .ld ⟨.b, .a, .g⟩ 1 false (.s ⟨.b, .a, .f⟩)⟩,
  ⟨some (⟨.b, .a, .e⟩, true), .len ⟨.b, .a, .h⟩ (.s ⟨.b, .a, .g⟩)⟩,
  ⟨some (⟨.b, .a, .e⟩, true), .fa ⟨.b, .b, .a⟩ (.s ⟨.a, .b, .g⟩) 1⟩,
  ⟨some (⟨.b, .a, .e⟩, true), .ld ⟨.b, .b, .b⟩ 1 false (.s ⟨.b, .b, .a⟩)⟩,
  ⟨some (⟨.b, .a, .e⟩, true), .len ⟨.b, .b, .c⟩ (.s ⟨.b, .b, .b⟩)⟩,
  ⟨some (⟨.b, .a, .e⟩, true), .cmp ⟨.b, .b, .d⟩ .leq (.s ⟨.b, .a, .h⟩) (.s ⟨.b, .b, .c⟩)⟩,
  ⟨none, .pick ⟨.b, .b, .e⟩ (.s ⟨.b, .a, .e⟩) (.s ⟨.b, .b, .d⟩) (.k (.v (.bool false)))⟩,
  ⟨none, .mov ⟨.b, .b, .f⟩ (.s ⟨.b, .b, .e⟩)⟩,
  ⟨some (⟨.b, .b, .f⟩, true), .ld ⟨.b, .b, .g⟩ 2 true (.s ⟨.a, .b, .c⟩)⟩,
  ⟨some (⟨.b, .b, .f⟩, true), .call ⟨.b, .b, .h⟩ 16 [(.s ⟨.b, .b, .g⟩), (.k (.sl 0 [] .full))]⟩,
  ⟨some (⟨.b, .b, .f⟩, true), .ld ⟨.b, .c, .a⟩ 2 true (.s ⟨.a, .b, .c⟩)⟩,
  ⟨some (⟨.b, .b, .f⟩, true), .call ⟨.b, .c, .b⟩ 15 [(.s ⟨.b, .b, .h⟩), (.s ⟨.b, .c, .a⟩)]⟩,
  ⟨none, .pick ⟨.b, .c, .c⟩ (.s ⟨.b, .b, .f⟩) (.s ⟨.b, .c, .b⟩) (.k (.v (.bool false)))⟩,
  ⟨none, .mov ⟨.b, .c, .d⟩ (.s ⟨.b, .c, .c⟩)⟩,
  ⟨some (⟨.b, .c, .d⟩, true), .mov ⟨.b, .c, .e⟩ (.s ⟨.a, .a, .h⟩)⟩,
  ⟨none, .pick ⟨.b, .c, .f⟩ (.s ⟨.b, .c, .d⟩) (.s ⟨.b, .c, .e⟩) (.k (.v (.bool false)))⟩,
  ⟨none, .mov ⟨.a, .a, .g⟩ (.s ⟨.b, .c, .f⟩)⟩]
@[reducible] def p6c20 : PC := .seq (.reg p6r19) .ret
@[reducible] def p6c21 : PC := .seq (.reg p6r18) p6c20
@[reducible] def p6c22 : PC := .seq p6c17 p6c21
@[reducible] def p6c23 : PC := .seq (.reg p6r5) p6c22
@[reducible] def p6c24 : PC := .seq (.reg p6r4) p6c23
@[reducible] def p6c25 : PC := .seq (.reg p6r3) p6c24
@[reducible] def p6c26 : PC := .seq (.reg p6r2) p6c25
@[reducible] def p6c27 : PC := .seq (.reg p6r1) p6c26
@[reducible] def p6c28 : PC := .seq (.reg p6r0) p6c27
def p6 : PFun := ⟨p6c28, [(.t ⟨.a, .a, .g⟩)]⟩
@[simp] theorem p6_b : p6.body = p6c28 := rfl
@[simp] theorem p6_r : p6.res = [(.t ⟨.a, .a, .g⟩)] := rfl
theorem is6 : cFunB Try.prog 0 [] 6 = some p6 := by kernel_rfl
theorem na6 : ((Try.prog.funcs[6]?).map (·.ntmps)).any (3 ≤ ·) = true := by kernel_rfl
@[reducible] def p7r0 : List GI := [⟨none, .box ⟨.a, .a, .d⟩ (.s ⟨.a, .a, .b⟩)⟩,
  ⟨none, .mov ⟨.a, .a, .e⟩ (.k (.v (.bool false)))⟩]
@[reducible] def p7r1 : List GI := [⟨none, .call ⟨.a, .b, .g⟩ 9 []⟩,
  ⟨none, .mov ⟨.a, .a, .f⟩ (.s ⟨.a, .b, .g⟩)⟩]
@[reducible] def p7r2 : List GI := [⟨none, .iap ⟨.a, .b, .h⟩ (.s ⟨.a, .a, .d⟩) (.k (.v (.int .i64 0))) 1 2⟩,
  ⟨none, .ld ⟨.a, .c, .a⟩ 1 false (.s ⟨.a, .b, .h⟩)⟩,
  ⟨none, .cvi ⟨.a, .c, .b⟩ .i64 (.s ⟨.a, .c, .a⟩)⟩,
  ⟨none, .dv ⟨.a, .c, .c⟩ .rem .i64 (.s ⟨.a, .c, .b⟩) (.k (.v (.int .i64 9)))⟩,
  ⟨none, .ar ⟨.a, .c, .d⟩ .add .i64 (.k (.v (.int .i64 1))) (.s ⟨.a, .c, .c⟩)⟩,
  ⟨none, .mov ⟨.a, .a, .g⟩ (.s ⟨.a, .c, .d⟩)⟩]
@[reducible] def p7r3 : List GI := [⟨none, .mov ⟨.a, .c, .e⟩ (.s ⟨.a, .a, .a⟩)⟩,
  ⟨none, .mov ⟨.a, .c, .f⟩ (.s ⟨.a, .a, .g⟩)⟩,
  ⟨none, .call ⟨.a, .c, .g⟩ 10 [(.s ⟨.a, .c, .e⟩), (.s ⟨.a, .c, .f⟩)]⟩,
  ⟨none, .mov ⟨.a, .a, .h⟩ (.s ⟨.a, .c, .g⟩)⟩]
@[reducible] def p7r4 : List GI := [⟨none, .iap ⟨.a, .c, .h⟩ (.s ⟨.a, .a, .d⟩) (.k (.v (.int .i64 1))) 1 2⟩,
  ⟨none, .ld ⟨.a, .d, .a⟩ 1 false (.s ⟨.a, .c, .h⟩)⟩,
  ⟨none, .cvi ⟨.a, .d, .b⟩ .i64 (.s ⟨.a, .d, .a⟩)⟩,
  ⟨none, .mov ⟨.a, .d, .c⟩ (.s ⟨.a, .a, .g⟩)⟩,
  ⟨none, .ar ⟨.a, .d, .d⟩ .add .i64 (.s ⟨.a, .d, .c⟩) (.k (.v (.int .i64 1)))⟩,
  ⟨none, .dv ⟨.a, .d, .e⟩ .rem .i64 (.s ⟨.a, .d, .b⟩) (.s ⟨.a, .d, .d⟩)⟩,
  ⟨none, .mov ⟨.a, .b, .a⟩ (.s ⟨.a, .d, .e⟩)⟩]
@[reducible] def p7r5 : List GI := [⟨none, .mov ⟨.a, .d, .f⟩ (.s ⟨.a, .a, .h⟩)⟩,
  ⟨none, .mov ⟨.a, .d, .g⟩ (.s ⟨.a, .b, .a⟩)⟩,
  ⟨none, .call ⟨.a, .d, .h⟩ 18 [(.s ⟨.a, .d, .f⟩), (.s ⟨.a, .d, .g⟩)]⟩,
  ⟨none, .mov ⟨.a, .b, .b⟩ (.s ⟨.a, .d, .h⟩)⟩]
@[reducible] def p7r6 : List GI := [⟨none, .mov ⟨.a, .e, .a⟩ (.s ⟨.a, .b, .b⟩)⟩,
  ⟨none, .mov ⟨.a, .e, .b⟩ (.s ⟨.a, .b, .a⟩)⟩,
  ⟨none, .call ⟨.a, .e, .c⟩ 20 [(.s ⟨.a, .e, .a⟩), (.s ⟨.a, .e, .b⟩)]⟩,
  ⟨none, .mov ⟨.a, .e, .d⟩ (.s ⟨.a, .a, .h⟩)⟩,
  ⟨none, .mov ⟨.a, .e, .e⟩ (.s ⟨.a, .b, .a⟩)⟩,
  ⟨none, .call ⟨.a, .e, .f⟩ 20 [(.s ⟨.a, .e, .d⟩), (.s ⟨.a, .e, .e⟩)]⟩,
  ⟨none, .mov ⟨.a, .b, .c⟩ (.s ⟨.a, .e, .c⟩)⟩,
  ⟨none, .mov ⟨.a, .b, .d⟩ (.s ⟨.a, .e, .f⟩)⟩]
@[reducible] def p7r7 : List GI := [⟨none, .mov ⟨.a, .e, .g⟩ (.s ⟨.a, .b, .b⟩)⟩,
  ⟨none, .mov ⟨.a, .e, .h⟩ (.s ⟨.a, .a, .g⟩)⟩,
  ⟨none, .ar ⟨.a, .f, .a⟩ .add .i64 (.s ⟨.a, .e, .h⟩) (.k (.v (.int .i64 1)))⟩,
  ⟨none, .call ⟨.a, .f, .b⟩ 23 [(.s ⟨.a, .e, .g⟩), (.s ⟨.a, .f, .a⟩)]⟩,
  ⟨none, .not ⟨.a, .f, .c⟩ (.s ⟨.a, .f, .b⟩)⟩,
  ⟨none, .mov ⟨.a, .f, .d⟩ (.s ⟨.a, .f, .c⟩)⟩,
  ⟨some (⟨.a, .f, .d⟩, false), .mov ⟨.a, .f, .e⟩ (.s ⟨.a, .b, .c⟩)⟩,
  ⟨some (⟨.a, .f, .d⟩, false), .mov ⟨.a, .f, .f⟩ (.s ⟨.a, .a, .g⟩)⟩,
  ⟨some (⟨.a, .f, .d⟩, false), .call ⟨.a, .f, .g⟩ 23 [(.s ⟨.a, .f, .e⟩), (.s ⟨.a, .f, .f⟩)]⟩,
  ⟨some (⟨.a, .f, .d⟩, false), .not ⟨.a, .f, .h⟩ (.s ⟨.a, .f, .g⟩)⟩,
  ⟨none, .pick ⟨.a, .g, .a⟩ (.s ⟨.a, .f, .d⟩) (.k (.v (.bool true))) (.s ⟨.a, .f, .h⟩)⟩,
  ⟨none, .mov ⟨.a, .g, .b⟩ (.s ⟨.a, .g, .a⟩)⟩,
  ⟨some (⟨.a, .g, .b⟩, false), .mov ⟨.a, .g, .c⟩ (.s ⟨.a, .b, .a⟩)⟩,
  ⟨some (⟨.a, .g, .b⟩, false), .mov ⟨.a, .g, .d⟩ (.s ⟨.a, .a, .g⟩)⟩,
  ⟨some (⟨.a, .g, .b⟩, false), .cmp ⟨.a, .g, .e⟩ .lss (.s ⟨.a, .g, .c⟩) (.s ⟨.a, .g, .d⟩)⟩,
  ⟨some (⟨.a, .g, .b⟩, false), .mov ⟨.a, .g, .f⟩ (.s ⟨.a, .g, .e⟩)⟩,
  ⟨some (⟨.a, .g, .f⟩, true), .mov ⟨.a, .g, .g⟩ (.s ⟨.a, .b, .d⟩)⟩,
  ⟨some (⟨.a, .g, .f⟩, true), .mov ⟨.a, .g, .h⟩ (.s ⟨.a, .a, .g⟩)⟩,
  ⟨some (⟨.a, .g, .f⟩, true), .ar ⟨.a, .h, .a⟩ .sub .i64 (.s ⟨.a, .g, .h⟩) (.k (.v (.int .i64 1)))⟩,
  ⟨some (⟨.a, .g, .f⟩, true), .call ⟨.a, .h, .b⟩ 23 [(.s ⟨.a, .g, .g⟩), (.s ⟨.a, .h, .a⟩)]⟩,
  ⟨some (⟨.a, .g, .f⟩, true), .not ⟨.a, .h, .c⟩ (.s ⟨.a, .h, .b⟩)⟩,
  ⟨some (⟨.a, .g, .b⟩, false), .pick ⟨.a, .h, .d⟩ (.s ⟨.a, .g, .f⟩) (.s ⟨.a, .h, .c⟩) (.k (.v (.bool false)))⟩,
  ⟨none, .pick ⟨.a, .h, .e⟩ (.s ⟨.a, .g, .b⟩) (.k (.v (.bool true))) (.s ⟨.a, .h, .d⟩)⟩]
@[reducible] def p7r8 : List GI := [⟨none, .mov ⟨.a, .a, .e⟩ (.k (.v (.bool false)))⟩]
@[reducible] def p7c9 : PC := .seq (.reg p7r8) .ret
@[reducible] def p7c10 : PC := .cond (.s ⟨.a, .h, .e⟩) p7c9 .skip
@[reducible] def p7c11 : PC := .seq (.reg p7r7) p7c10
@[reducible] def p7r12 : List GI := [⟨none, .lit ⟨.a, .h, .f⟩ 3 [(.v (.int .i64 0)), (.v (.int .i64 0)), (.v (.int .i64 0))] 0 []⟩,
  ⟨none, .mov ⟨.a, .b, .e⟩ (.s ⟨.a, .h, .f⟩)⟩]
@[reducible] def p7r13 : List GI := [⟨none, .mov ⟨.a, .b, .f⟩ (.k (.v (.int .i64 0)))⟩]
@[reducible] def p7r14 : List GI := [⟨none, .mov ⟨.a, .h, .g⟩ (.s ⟨.a, .b, .f⟩)⟩,
  ⟨none, .mov ⟨.a, .h, .h⟩ (.s ⟨.a, .a, .h⟩)⟩,
  ⟨none, .len ⟨.b, .a, .a⟩ (.s ⟨.a, .h, .h⟩)⟩,
  ⟨none, .cmp ⟨.b, .a, .b⟩ .lss (.s ⟨.a, .h, .g⟩) (.s ⟨.b, .a, .a⟩)⟩]
@[reducible] def p7c15 : PC := .cond (.s ⟨.b, .a, .b⟩) .skip (.exit 0)
@[reducible] def p7c16 : PC := .seq (.reg p7r14) p7c15
@[reducible] def p7r17 : List GI := [⟨none, .mov ⟨.b, .a, .e⟩ (.s ⟨.a, .a, .h⟩)⟩,
  ⟨none, .mov ⟨.b, .a, .f⟩ (.s ⟨.a, .b, .f⟩)⟩,
  ⟨none, .ia ⟨.b, .a, .g⟩ (.s ⟨.b, .a, .e⟩) (.s ⟨.b, .a, .f⟩) 3⟩,
  ⟨none, .fa ⟨.b, .a, .h⟩ (.s ⟨.b, .a, .g⟩) 0⟩,
  ⟨none, .ld ⟨.b, .b, .a⟩ 1 false (.s ⟨.b, .a, .h⟩)⟩,
  ⟨none, .mov ⟨.b, .b, .b⟩ (.s ⟨.a, .b, .a⟩)⟩,
  ⟨none, .cmp ⟨.b, .b, .c⟩ .geq (.s ⟨.b, .b, .a⟩) (.s ⟨.b, .b, .b⟩)⟩,
  ⟨none, .mov ⟨.b, .b, .d⟩ (.s ⟨.b, .b, .c⟩)⟩,
  ⟨some (⟨.b, .b, .d⟩, false), .mov ⟨.b, .b, .e⟩ (.s ⟨.a, .a, .h⟩)⟩,
  ⟨some (⟨.b, .b, .d⟩, false), .mov ⟨.b, .b, .f⟩ (.s ⟨.a, .b, .f⟩)⟩,
  ⟨some (⟨.b, .b, .d⟩, false), .ia ⟨.b, .b, .g⟩ (.s ⟨.b, .b, .e⟩) (.s ⟨.b, .b, .f⟩) 3⟩,
  ⟨some (⟨.b, .b, .d⟩, false), .fa ⟨.b, .b, .h⟩ (.s ⟨.b, .b, .g⟩) 1⟩,
  ⟨some (⟨.b, .b, .d⟩, false), .ld ⟨.b, .c, .a⟩ 1 false (.s ⟨.b, .b, .h⟩)⟩,
  ⟨some (⟨.b, .b, .d⟩, false), .mov ⟨.b, .c, .b⟩ (.s ⟨.a, .b, .a⟩)⟩,
  ⟨some (⟨.b, .b, .d⟩, false), .cmp ⟨.b, .c, .c⟩ .leq (.s ⟨.b, .c, .a⟩) (.s ⟨.b, .c, .b⟩)⟩,
  ⟨none, .pick ⟨.b, .c, .d⟩ (.s ⟨.b, .b, .d⟩) (.k (.v (.bool true))) (.s ⟨.b, .c, .c⟩)⟩]
@[reducible] def p7r18 : List GI := [⟨none, .mov ⟨.b, .c, .e⟩ (.s ⟨.a, .b, .e⟩)⟩,
  ⟨none, .mov ⟨.b, .c, .f⟩ (.s ⟨.a, .a, .h⟩)⟩,
  ⟨none, .mov ⟨.b, .c, .g⟩ (.s ⟨.a, .b, .f⟩)⟩,
  ⟨none, .ia ⟨.b, .c, .h⟩ (.s ⟨.b, .c, .f⟩) (.s ⟨.b, .c, .g⟩) 3⟩,
  ⟨none, .ld ⟨.b, .d, .a⟩ 3 true (.s ⟨.b, .c, .h⟩)⟩,
  ⟨none, .lit ⟨.b, .d, .b⟩ 3 [(.v (.int .i64 0)), (.v (.int .i64 0)), (.v (.int .i64 0))] 1 [(0, (.s ⟨.b, .d, .a⟩))]⟩,
  ⟨none, .app ⟨.b, .d, .c⟩ (.s ⟨.b, .c, .e⟩) (.s ⟨.b, .d, .b⟩) 3 24 0 33⟩,
  ⟨none, .mov ⟨.a, .b, .e⟩ (.s ⟨.b, .d, .c⟩)⟩]
@[reducible] def p7c19 : PC := .cond (.s ⟨.b, .c, .d⟩) (.reg p7r18) .skip
@[reducible] def p7c20 : PC := .seq (.reg p7r17) p7c19
@[reducible] def p7r21 : List GI := [⟨none, .mov ⟨.b, .d, .d⟩ (.s ⟨.a, .a, .h⟩)⟩,
  ⟨none, .mov ⟨.b, .d, .e⟩ (.s ⟨.a, .b, .f⟩)⟩,
  ⟨none, .ia ⟨.b, .d, .f⟩ (.s ⟨.b, .d, .d⟩) (.s ⟨.b, .d, .e⟩) 3⟩,
  ⟨none, .fa ⟨.b, .d, .g⟩ (.s ⟨.b, .d, .f⟩) 1⟩,
  ⟨none, .ld ⟨.b, .d, .h⟩ 1 false (.s ⟨.b, .d, .g⟩)⟩,
  ⟨none, .mov ⟨.b, .e, .a⟩ (.s ⟨.a, .b, .a⟩)⟩,
  ⟨none, .cmp ⟨.b, .e, .b⟩ .leq (.s ⟨.b, .d, .h⟩) (.s ⟨.b, .e, .a⟩)⟩,
  ⟨none, .mov ⟨.b, .e, .c⟩ (.s ⟨.b, .e, .b⟩)⟩,
  ⟨some (⟨.b, .e, .c⟩, true), .mov ⟨.b, .e, .d⟩ (.s ⟨.a, .b, .b⟩)⟩,
  ⟨some (⟨.b, .e, .c⟩, true), .mov ⟨.b, .e, .e⟩ (.s ⟨.a, .a, .h⟩)⟩,
  ⟨some (⟨.b, .e, .c⟩, true), .mov ⟨.b, .e, .f⟩ (.s ⟨.a, .b, .f⟩)⟩,
  ⟨some (⟨.b, .e, .c⟩, true), .ia ⟨.b, .e, .g⟩ (.s ⟨.b, .e, .e⟩) (.s ⟨.b, .e, .f⟩) 3⟩,
  ⟨some (⟨.b, .e, .c⟩, true), .ld ⟨.b, .e, .h⟩ 3 true (.s ⟨.b, .e, .g⟩)⟩,
  ⟨some (⟨.b, .e, .c⟩, true), .call ⟨.b, .f, .a⟩ 24 [(.s ⟨.b, .e, .d⟩), (.s ⟨.b, .e, .h⟩)]⟩,
  ⟨some (⟨.b, .e, .c⟩, true), .not ⟨.b, .f, .b⟩ (.s ⟨.b, .f, .a⟩)⟩,
  ⟨some (⟨.b, .e, .c⟩, true), .mov ⟨.b, .f, .c⟩ (.s ⟨.b, .f, .b⟩)⟩,
  ⟨some (⟨.b, .f, .c⟩, false), .mov ⟨.b, .f, .d⟩ (.s ⟨.a, .b, .d⟩)⟩,
  ⟨some (⟨.b, .f, .c⟩, false), .mov ⟨.b, .f, .e⟩ (.s ⟨.a, .a, .h⟩)⟩,
  ⟨some (⟨.b, .f, .c⟩, false), .mov ⟨.b, .f, .f⟩ (.s ⟨.a, .b, .f⟩)⟩,
  ⟨some (⟨.b, .f, .c⟩, false), .ia ⟨.b, .f, .g⟩ (.s ⟨.b, .f, .e⟩) (.s ⟨.b, .f, .f⟩) 3⟩,
  ⟨some (⟨.b, .f, .c⟩, false), .ld ⟨.b, .f, .h⟩ 3 true (.s ⟨.b, .f, .g⟩)⟩,
  ⟨some (⟨.b, .f, .c⟩, false), .call ⟨.b, .g, .a⟩ 24 [(.s ⟨.b, .f, .d⟩), (.s ⟨.b, .f, .h⟩)]⟩,
  ⟨some (⟨.b, .f, .c⟩, false), .not ⟨.b, .g, .b⟩ (.s ⟨.b, .g, .a⟩)⟩,
  ⟨some (⟨.b, .e, .c⟩, true), .pick ⟨.b, .g, .c⟩ (.s ⟨.b, .f, .c⟩) (.k (.v (.bool true))) (.s ⟨.b, .g, .b⟩)⟩,
  ⟨none, .pick ⟨.b, .g, .d⟩ (.s ⟨.b, .e, .c⟩) (.s ⟨.b, .g, .c⟩) (.k (.v (.bool false)))⟩]
@[reducible] def p7r22 : List GI := [⟨none, .mov ⟨.a, .a, .e⟩ (.k (.v (.bool false)))⟩]
@[reducible] def p7c23 : PC := .seq (.reg p7r22) .ret
@[reducible] def p7c24 : PC := .cond (.s ⟨.b, .g, .d⟩) p7c23 .skip
@[reducible] def p7c25 : PC := .seq (.reg p7r21) p7c24
@[reducible] def p7c26 : PC := .seq p7c20 p7c25
@[reducible] def p7c27 : PC := .block 1 p7c26
@[reducible] def p7r28 : List GI := [⟨none, .mov ⟨.b, .a, .c⟩ (.s ⟨.a, .b, .f⟩)⟩,
  ⟨none, .ar ⟨.b, .a, .d⟩ .add .i64 (.s ⟨.b, .a, .c⟩) (.k (.v (.int .i64 1)))⟩,
  ⟨none, .mov ⟨.a, .b, .f⟩ (.s ⟨.b, .a, .d⟩)⟩]
@[reducible] def p7c29 : PC := .seq p7c27 (.reg p7r28)
@[reducible] def p7c30 : PC := .seq p7c16 p7c29
@[reducible] def p7l31 : PC := .loop 0 [⟨.a, .h, .g⟩, ⟨.a, .h, .h⟩, ⟨.b, .a, .a⟩, ⟨.b, .a, .b⟩, ⟨.b, .a, .e⟩, ⟨.b, .a, .f⟩, ⟨.b, .a, .g⟩, ⟨.b, .a, .h⟩, ⟨.b, .b, .a⟩, ⟨.b, .b, .b⟩, ⟨.b, .b, .c⟩, ⟨.b, .b, .d⟩, ⟨.b, .b, .e⟩, ⟨.b, .b, .f⟩, ⟨.b, .b, .g⟩, ⟨.b, .b, .h⟩, ⟨.b, .c, .a⟩, ⟨.b, .c, .b⟩, ⟨.b, .c, .c⟩, ⟨.b, .c, .d⟩, ⟨.b, .c, .e⟩, ⟨.b, .c, .f⟩, ⟨.b, .c, .g⟩, ⟨.b, .c, .h⟩, ⟨.b, .d, .a⟩, ⟨.b, .d, .b⟩, ⟨.b, .d, .c⟩, ⟨.a, .b, .e⟩, ⟨.b, .d, .d⟩, ⟨.b, .d, .e⟩, ⟨.b, .d, .f⟩, ⟨.b, .d, .g⟩, ⟨.b, .d, .h⟩, ⟨.b, .e, .a⟩, ⟨.b, .e, .b⟩, ⟨.b, .e, .c⟩, ⟨.b, .e, .d⟩, ⟨.b, .e, .e⟩, ⟨.b, .e, .f⟩, ⟨.b, .e, .g⟩, ⟨.b, .e, .h⟩, ⟨.b, .f, .a⟩, ⟨.b, .f, .b⟩, ⟨.b, .f, .c⟩, ⟨.b, .f, .d⟩, ⟨.b, .f, .e⟩, ⟨.b, .f, .f⟩, ⟨.b, .f, .g⟩, ⟨.b, .f, .h⟩, ⟨.b, .g, .a⟩, ⟨.b, .g, .b⟩, ⟨.b, .g, .c⟩, ⟨.b, .g, .d⟩, ⟨.a, .a, .e⟩, ⟨.b, .a, .c⟩, ⟨.b, .a, .d⟩, ⟨.a, .b, .f⟩] p7c30
@[reducible] def p7c32 : PC := .block 0 p7l31
@[reducible] def p7c33 : PC := .seq (.reg p7r13) p7c32
@[reducible] def p7r34 : List GI := [⟨none, .mov ⟨.b, .g, .e⟩ (.s ⟨.a, .b, .c⟩)⟩,
  ⟨none, .mov ⟨.b, .g, .f⟩ (.s ⟨.a, .b, .e⟩)⟩,
  ⟨none, .call ⟨.b, .g, .g⟩ 14 [(.s ⟨.b, .g, .e⟩), (.s ⟨.b, .g, .f⟩)]⟩,
  ⟨none, .mov ⟨.b, .g, .h⟩ (.s ⟨.b, .g, .g⟩)⟩,
  ⟨some (⟨.b, .g, .h⟩, true), .mov ⟨.b, .h, .a⟩ (.s ⟨.a, .a, .f⟩)⟩,
  ⟨none, .pick ⟨.b, .h, .b⟩ (.s ⟨.b, .g, .h⟩) (.s ⟨.b, .h, .a⟩) (.k (.v (.bool false)))⟩,
  ⟨none, .mov ⟨.a, .a, .e⟩ (.s ⟨.b, .h, .b⟩)⟩]
@[reducible] def p7c35 : PC := .seq (.reg p7r34) .ret
@[reducible] def p7c36 : PC := .seq p7c33 p7c35
@[reducible] def p7c37 : PC := .seq (.reg p7r12) p7c36
@[reducible] def p7c38 : PC := .seq p7c11 p7c37
@[reducible] def p7c39 : PC := .seq (.reg p7r6) p7c38
@[reducible] def p7c40 : PC := .seq (.reg p7r5) p7c39
@[reducible] def p7c41 : PC := .seq (.reg p7r4) p7c40
@[reducible] def p7c42 : PC := .seq (.reg p7r3) p7c41
@[reducible] def p7c43 : PC := .seq (.reg p7r2) p7c42
@[reducible] def p7c44 : PC := .seq (.reg p7r1) p7c43
@[reducible] def p7c45 : PC := .seq (.reg p7r0) p7c44
def p7 : PFun := ⟨p7c45, [(.t ⟨.a, .a, .e⟩)]⟩
@[simp] theorem p7_b : p7.body = p7c45 := rfl
@[simp] theorem p7_r : p7.res = [(.t ⟨.a, .a, .e⟩)] := rfl
theorem is7 : cFunB Try.prog 0 [] 7 = some p7 := by kernel_rfl
theorem na7 : ((Try.prog.funcs[7]?).map (·.ntmps)).any (2 ≤ ·) = true := by kernel_rfl
end Go.Proofs.Ytdkancgcefklfaa
