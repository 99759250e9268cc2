/-
  The code over plain views of functions 18:0:29,40, 20:0:29,40.
-/
import Derived.Test.YtdkancgcefklfaaG4
namespace Go.Proofs.Ytdkancgcefklfaa
open Go.RowKit
@[reducible] def p18r0 : List GI := [⟨none, .box ⟨.a, .a, .d⟩ (.s ⟨.a, .a, .b⟩)⟩,
  ⟨none, .mov ⟨.a, .a, .e⟩ (.k (.sl 0 [] .full))⟩]
@[reducible] def p18r1 : List GI := [⟨none, .mov ⟨.a, .a, .f⟩ (.s ⟨.a, .a, .a⟩)⟩,
  ⟨none, .mkf ⟨.a, .a, .g⟩ 41 [(.s ⟨.a, .a, .d⟩)]⟩,
  ⟨none, .lit ⟨.a, .a, .h⟩ 1 [(.v .nilFunc)] 1 [(0, (.s ⟨.a, .a, .g⟩))]⟩]
@[reducible] def p18r2 : List GI := [⟨none, .callm ⟨.a, .b, .a⟩ 0 29 [(.s ⟨.a, .a, .f⟩), (.s ⟨.a, .a, .h⟩)]⟩,
  ⟨none, .ld ⟨.a, .b, .b⟩ 1 false (.s ⟨.a, .a, .d⟩)⟩,
  ⟨none, .callm ⟨.a, .b, .c⟩ 0 40 [(.s ⟨.a, .b, .a⟩), (.s ⟨.a, .b, .b⟩), (.k (.v (.int .i64 1)))]⟩,
  ⟨none, .mov ⟨.a, .a, .e⟩ (.s ⟨.a, .b, .c⟩)⟩]
@[reducible] def p18r3 : List GI := [⟨none, .ld ⟨.a, .b, .b⟩ 1 false (.s ⟨.a, .a, .d⟩)⟩,
  ⟨none, .callm ⟨.a, .b, .a⟩ 0 29 [(.s ⟨.a, .a, .f⟩), (.s ⟨.a, .a, .h⟩)]⟩,
  ⟨none, .callm ⟨.a, .b, .c⟩ 0 40 [(.s ⟨.a, .b, .a⟩), (.s ⟨.a, .b, .b⟩), (.k (.v (.int .i64 1)))]⟩,
  ⟨none, .mov ⟨.a, .a, .e⟩ (.s ⟨.a, .b, .c⟩)⟩]
@[reducible] def p18c4 : PC := .seq (.fork p18r1 p18r2 p18r3) .ret
@[reducible] def p18c5 : PC := .seq (.reg p18r0) p18c4
def p18 : PFun := ⟨p18c5, [(.t ⟨.a, .a, .e⟩)]⟩
@[simp] theorem p18_b : p18.body = p18c5 := rfl
@[simp] theorem p18_r : p18.res = [(.t ⟨.a, .a, .e⟩)] := rfl
theorem is18 : cFunB Try.prog 0 [29,40] 18 = some p18 := by kernel_rfl
theorem na18 : ((Try.prog.funcs[18]?).map (·.ntmps)).any (2 ≤ ·) = true := by kernel_rfl
@[reducible] def p20r0 : List GI := [⟨none, .box ⟨.a, .a, .d⟩ (.s ⟨.a, .a, .b⟩)⟩,
  ⟨none, .mov ⟨.a, .a, .e⟩ (.k (.sl 0 [] .full))⟩]
@[reducible] def p20r1 : List GI := [⟨none, .mov ⟨.a, .a, .f⟩ (.s ⟨.a, .a, .a⟩)⟩,
  ⟨none, .mkf ⟨.a, .a, .g⟩ 42 [(.s ⟨.a, .a, .d⟩)]⟩,
  ⟨none, .lit ⟨.a, .a, .h⟩ 1 [(.v .nilFunc)] 1 [(0, (.s ⟨.a, .a, .g⟩))]⟩]
@[reducible] def p20r2 : List GI := [⟨none, .callm ⟨.a, .b, .a⟩ 0 29 [(.s ⟨.a, .a, .f⟩), (.s ⟨.a, .a, .h⟩)]⟩,
  ⟨none, .ld ⟨.a, .b, .b⟩ 1 false (.s ⟨.a, .a, .d⟩)⟩,
  ⟨none, .ar ⟨.a, .b, .c⟩ .add .i64 (.s ⟨.a, .b, .b⟩) (.k (.v (.int .i64 1)))⟩,
  ⟨none, .callm ⟨.a, .b, .d⟩ 0 40 [(.s ⟨.a, .b, .a⟩), (.s ⟨.a, .b, .c⟩), (.k (.v (.int .i64 (-1))))]⟩,
  ⟨none, .mov ⟨.a, .a, .e⟩ (.s ⟨.a, .b, .d⟩)⟩]
@[reducible] def p20r3 : List GI := [⟨none, .ld ⟨.a, .b, .b⟩ 1 false (.s ⟨.a, .a, .d⟩)⟩,
  ⟨none, .callm ⟨.a, .b, .a⟩ 0 29 [(.s ⟨.a, .a, .f⟩), (.s ⟨.a, .a, .h⟩)]⟩,
  ⟨none, .ar ⟨.a, .b, .c⟩ .add .i64 (.s ⟨.a, .b, .b⟩) (.k (.v (.int .i64 1)))⟩,
  ⟨none, .callm ⟨.a, .b, .d⟩ 0 40 [(.s ⟨.a, .b, .a⟩), (.s ⟨.a, .b, .c⟩), (.k (.v (.int .i64 (-1))))]⟩,
  ⟨none, .mov ⟨.a, .a, .e⟩ (.s ⟨.a, .b, .d⟩)⟩]
@[reducible] def p20c4 : PC := .seq (.fork p20r1 p20r2 p20r3) .ret
@[reducible] def p20c5 : PC := .seq (.reg p20r0) p20c4
def p20 : PFun := ⟨p20c5, [(.t ⟨.a, .a, .e⟩)]⟩
@[simp] theorem p20_b : p20.body = p20c5 := rfl
@[simp] theorem p20_r : p20.res = [(.t ⟨.a, .a, .e⟩)] := rfl
theorem is20 : cFunB Try.prog 0 [29,40] 20 = some p20 := by kernel_rfl
theorem na20 : ((Try.prog.funcs[20]?).map (·.ntmps)).any (2 ≤ ·) = true := by kernel_rfl
end Go.Proofs.Ytdkancgcefklfaa
