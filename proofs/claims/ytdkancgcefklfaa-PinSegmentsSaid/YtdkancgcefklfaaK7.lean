/-
  The code over plain views of functions 12:0:29,35.
-/
import Derived.Test.YtdkancgcefklfaaG4
import Derived.Test.YtdkancgcefklfaaINS35
namespace Go.Proofs.Ytdkancgcefklfaa
open Go.RowKit
@[reducible] def p12r0 : List GI := [⟨none, .box ⟨.a, .a, .e⟩ (.s ⟨.a, .a, .b⟩)⟩,
  ⟨none, .mov ⟨.a, .a, .g⟩ (.k (.sl 0 [] .full))⟩,
  ⟨none, .mov ⟨.a, .a, .h⟩ (.k (.v (.int .i64 0)))⟩]
@[reducible] def p12r1 : List GI := [⟨none, .mov ⟨.a, .b, .d⟩ (.s ⟨.a, .a, .a⟩)⟩,
  ⟨none, .mov ⟨.a, .b, .e⟩ (.s ⟨.a, .a, .c⟩)⟩,
  ⟨none, .call ⟨.a, .b, .f⟩ 28 [(.s ⟨.a, .b, .d⟩), (.s ⟨.a, .b, .e⟩)]⟩,
  ⟨none, .not ⟨.a, .b, .g⟩ (.s ⟨.a, .b, .f⟩)⟩,
  ⟨none, .mov ⟨.a, .b, .h⟩ (.s ⟨.a, .b, .g⟩)⟩,
  ⟨some (⟨.a, .b, .h⟩, false), .ld ⟨.a, .c, .a⟩ 3 true (.s ⟨.a, .a, .e⟩)⟩,
  ⟨some (⟨.a, .b, .h⟩, false), .lit ⟨.a, .c, .b⟩ 3 [(.v (.int .i64 0)), (.v (.int .i64 0)), (.v (.int .i64 0))] 1 [(0, (.s ⟨.a, .c, .a⟩))]⟩,
  ⟨some (⟨.a, .b, .h⟩, false), .mov ⟨.a, .c, .c⟩ (.s ⟨.a, .a, .c⟩)⟩,
  ⟨some (⟨.a, .b, .h⟩, false), .call ⟨.a, .c, .d⟩ 28 [(.s ⟨.a, .c, .b⟩), (.s ⟨.a, .c, .c⟩)]⟩,
  ⟨some (⟨.a, .b, .h⟩, false), .not ⟨.a, .c, .e⟩ (.s ⟨.a, .c, .d⟩)⟩,
  ⟨none, .pick ⟨.a, .c, .f⟩ (.s ⟨.a, .b, .h⟩) (.k (.v (.bool true))) (.s ⟨.a, .c, .e⟩)⟩]
@[reducible] def p12r2 : List GI := [⟨none, .mov ⟨.a, .a, .g⟩ (.k (.sl 0 [] .full))⟩,
  ⟨none, .mov ⟨.a, .a, .h⟩ (.k (.v (.int .i64 180)))⟩]
@[reducible] def p12c3 : PC := .seq (.reg p12r2) .ret
@[reducible] def p12c4 : PC := .cond (.s ⟨.a, .c, .f⟩) p12c3 .skip
@[reducible] def p12c5 : PC := .seq (.reg p12r1) p12c4
@[reducible] def p12r6 : List GI := [⟨none, .mov ⟨.a, .c, .g⟩ (.s ⟨.a, .a, .a⟩)⟩,
  ⟨none, .mkf ⟨.a, .c, .h⟩ 30 [(.s ⟨.a, .a, .e⟩)]⟩,
  ⟨none, .lit ⟨.a, .d, .a⟩ 1 [(.v .nilFunc)] 1 [(0, (.s ⟨.a, .c, .h⟩))]⟩,
  ⟨none, .callm ⟨.a, .d, .b⟩ 0 29 [(.s ⟨.a, .c, .g⟩), (.s ⟨.a, .d, .a⟩)]⟩,
  ⟨none, .mov ⟨.a, .b, .a⟩ (.s ⟨.a, .d, .b⟩)⟩]
@[reducible] def p12r7 : List GI := [⟨none, .mov ⟨.a, .d, .d⟩ (.s ⟨.a, .b, .a⟩)⟩,
  ⟨none, .ld ⟨.a, .d, .e⟩ 3 true (.s ⟨.a, .a, .e⟩)⟩,
  ⟨none, .call ⟨.a, .d, .f⟩ 32 [(.s ⟨.a, .d, .d⟩), (.s ⟨.a, .d, .e⟩), (.k (.fn 33 []))]⟩,
  ⟨none, .mov ⟨.a, .d, .c⟩ (.s ⟨.a, .d, .f⟩)⟩,
  ⟨none, .ext ⟨.a, .d, .g⟩ (.s ⟨.a, .d, .c⟩) 0⟩,
  ⟨none, .ext ⟨.a, .d, .h⟩ (.s ⟨.a, .d, .c⟩) 1⟩,
  ⟨none, .mov ⟨.a, .b, .b⟩ (.s ⟨.a, .d, .g⟩)⟩,
  ⟨none, .mov ⟨.a, .b, .c⟩ (.s ⟨.a, .d, .h⟩)⟩]
@[reducible] def p12r8 : List GI := [⟨none, .mov ⟨.a, .e, .a⟩ (.s ⟨.a, .b, .a⟩)⟩,
  ⟨none, .mov ⟨.a, .e, .b⟩ (.s ⟨.a, .b, .b⟩)⟩,
  ⟨none, .ld ⟨.a, .e, .c⟩ 3 true (.s ⟨.a, .a, .e⟩)⟩,
  ⟨none, .lit ⟨.a, .e, .d⟩ 3 [(.v (.int .i64 0)), (.v (.int .i64 0)), (.v (.int .i64 0))] 1 [(0, (.s ⟨.a, .e, .c⟩))]⟩,
  ⟨none, .callm ⟨.a, .e, .e⟩ 0 35 [(.s ⟨.a, .e, .a⟩), (.s ⟨.a, .e, .b⟩), (.s ⟨.a, .e, .d⟩)]⟩,
  ⟨none, .mov ⟨.a, .a, .g⟩ (.s ⟨.a, .e, .e⟩)⟩,
  ⟨none, .mov ⟨.a, .a, .h⟩ (.k (.v (.int .i64 0)))⟩]
@[reducible] def p12c9 : PC := .seq (.reg p12r8) .ret
@[reducible] def p12c10 : PC := .seq (.reg p12r7) p12c9
@[reducible] def p12c11 : PC := .seq (.reg p12r6) p12c10
@[reducible] def p12c12 : PC := .seq p12c5 p12c11
@[reducible] def p12c13 : PC := .seq (.reg p12r0) p12c12
def p12 : PFun := ⟨p12c13, [(.t ⟨.a, .a, .g⟩), (.t ⟨.a, .a, .h⟩)]⟩
@[simp] theorem p12_b : p12.body = p12c13 := rfl
@[simp] theorem p12_r : p12.res = [(.t ⟨.a, .a, .g⟩), (.t ⟨.a, .a, .h⟩)] := rfl
theorem is12 : cFunB Try.prog 0 [29,35] 12 = some p12 := by kernel_rfl
theorem na12 : ((Try.prog.funcs[12]?).map (·.ntmps)).any (3 ≤ ·) = true := by kernel_rfl
end Go.Proofs.Ytdkancgcefklfaa
