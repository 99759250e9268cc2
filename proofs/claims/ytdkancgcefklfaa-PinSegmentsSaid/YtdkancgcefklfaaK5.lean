/-
  The code over plain views of functions 29:0:43.
-/
import Derived.Test.YtdkancgcefklfaaG3
namespace Go.Proofs.Ytdkancgcefklfaa
open Go.RowKit
@[reducible] def p29r0 : List GI := [⟨none, .mov ⟨.a, .a, .e⟩ (.k (.sl 0 [] .full))⟩]
@[reducible] def p29r1 : List GI := [⟨none, .mov ⟨.a, .b, .a⟩ (.s ⟨.a, .a, .a⟩)⟩,
  ⟨none, .len ⟨.a, .b, .b⟩ (.s ⟨.a, .b, .a⟩)⟩,
  ⟨none, .mks ⟨.a, .b, .c⟩ 3 24 [(.v (.int .i64 0)), (.v (.int .i64 0)), (.v (.int .i64 0))] (.s ⟨.a, .b, .b⟩) (.s ⟨.a, .b, .b⟩)⟩,
  ⟨none, .mov ⟨.a, .a, .f⟩ (.s ⟨.a, .b, .c⟩)⟩]
@[reducible] def p29r2 : List GI := [⟨none, .mov ⟨.a, .b, .d⟩ (.s ⟨.a, .a, .f⟩)⟩,
  ⟨none, .mov ⟨.a, .b, .e⟩ (.s ⟨.a, .a, .a⟩)⟩,
  ⟨none, .cpy ⟨.a, .b, .f⟩ (.s ⟨.a, .b, .d⟩) (.s ⟨.a, .b, .e⟩) 3⟩]
@[reducible] def p29r3 : List GI := [⟨none, .mov ⟨.a, .b, .g⟩ (.s ⟨.a, .a, .b⟩)⟩,
  ⟨none, .len ⟨.a, .b, .h⟩ (.s ⟨.a, .b, .g⟩)⟩,
  ⟨none, .mov ⟨.a, .c, .a⟩ (.k (.v (.int .i64 0)))⟩]
@[reducible] def p29r4 : List GI := [⟨none, .cmp ⟨.a, .c, .b⟩ .lss (.s ⟨.a, .c, .a⟩) (.s ⟨.a, .b, .h⟩)⟩]
@[reducible] def p29c5 : PC := .cond (.s ⟨.a, .c, .b⟩) .skip (.exit 0)
@[reducible] def p29r6 : List GI := [⟨none, .ia ⟨.a, .c, .c⟩ (.s ⟨.a, .b, .g⟩) (.s ⟨.a, .c, .a⟩) 1⟩,
  ⟨none, .ld ⟨.a, .c, .d⟩ 1 false (.s ⟨.a, .c, .c⟩)⟩,
  ⟨none, .mov ⟨.a, .a, .h⟩ (.s ⟨.a, .c, .d⟩)⟩]
@[reducible] def p29r7 : List GI := [⟨none, .mov ⟨.a, .c, .e⟩ (.s ⟨.a, .a, .f⟩)⟩,
  ⟨none, .mov ⟨.a, .c, .f⟩ (.s ⟨.a, .a, .h⟩)⟩,
  ⟨none, .callm ⟨.a, .c, .g⟩ 0 43 [(.s ⟨.a, .c, .e⟩), (.s ⟨.a, .c, .f⟩)]⟩,
  ⟨none, .mov ⟨.a, .a, .f⟩ (.s ⟨.a, .c, .g⟩)⟩]
@[reducible] def p29c8 : PC := .seq (.reg p29r6) (.reg p29r7)
@[reducible] def p29c9 : PC := .block 1 p29c8
@[reducible] def p29r10 : List GI := [⟨none, .ar ⟨.a, .c, .h⟩ .add .i64 (.s ⟨.a, .c, .a⟩) (.k (.v (.int .i64 1)))⟩,
  ⟨none, .mov ⟨.a, .c, .a⟩ (.s ⟨.a, .c, .h⟩)⟩]
@[reducible] def p29c11 : PC := .seq p29c9 (.reg p29r10)
@[reducible] def p29c12 : PC := .seq p29c5 p29c11
@[reducible] def p29c13 : PC := .seq (.reg p29r4) p29c12
@[reducible] def p29l14 : PC := .loop 0 [⟨.a, .c, .b⟩, ⟨.a, .c, .c⟩, ⟨.a, .c, .d⟩, ⟨.a, .a, .h⟩, ⟨.a, .c, .e⟩, ⟨.a, .c, .f⟩, ⟨.a, .c, .g⟩, ⟨.a, .a, .f⟩, ⟨.a, .c, .h⟩, ⟨.a, .c, .a⟩] p29c13
@[reducible] def p29c15 : PC := .block 0 p29l14
@[reducible] def p29c16 : PC := .seq (.reg p29r3) p29c15
@[reducible] def p29r17 : List GI := [⟨none, .mov ⟨.a, .d, .a⟩ (.s ⟨.a, .a, .f⟩)⟩,
  ⟨none, .mov ⟨.a, .a, .e⟩ (.s ⟨.a, .d, .a⟩)⟩]
@[reducible] def p29c18 : PC := .seq (.reg p29r17) .ret
@[reducible] def p29c19 : PC := .seq p29c16 p29c18
@[reducible] def p29c20 : PC := .seq (.reg p29r2) p29c19
@[reducible] def p29c21 : PC := .seq (.reg p29r1) p29c20
@[reducible] def p29c22 : PC := .seq (.reg p29r0) p29c21
def p29 : PFun := ⟨p29c22, [(.t ⟨.a, .a, .e⟩)]⟩
@[simp] theorem p29_b : p29.body = p29c22 := rfl
@[simp] theorem p29_r : p29.res = [(.t ⟨.a, .a, .e⟩)] := rfl
theorem is29 : cFunB Try.prog 0 [43] 29 = some p29 := by kernel_rfl
theorem na29 : ((Try.prog.funcs[29]?).map (·.ntmps)).any (2 ≤ ·) = true := by kernel_rfl
end Go.Proofs.Ytdkancgcefklfaa
