/-
  The code over plain views of functions 8.
-/
import Derived.Test.YtdkancgcefklfaaPL
import Derived.Test.YtdkancgcefklfaaG7
namespace Go.Proofs.Ytdkancgcefklfaa
open Go.RowKit
@[reducible] def p8r0 : List GI := [⟨none, .box ⟨.a, .a, .d⟩ (.s ⟨.a, .a, .b⟩)⟩,
  ⟨none, .mov ⟨.a, .a, .e⟩ (.k (.v (.bool false)))⟩]
@[reducible] def p8r1 : List GI := [⟨none, .call ⟨.a, .c, .e⟩ 9 []⟩,
  ⟨none, .mov ⟨.a, .a, .f⟩ (.s ⟨.a, .c, .e⟩)⟩]
@[reducible] def p8r2 : List GI := [⟨none, .iap ⟨.a, .c, .f⟩ (.s ⟨.a, .a, .d⟩) (.k (.v (.int .i64 0))) 1 2⟩,
  ⟨none, .ld ⟨.a, .c, .g⟩ 1 false (.s ⟨.a, .c, .f⟩)⟩,
  ⟨none, .cvi ⟨.a, .c, .h⟩ .i64 (.s ⟨.a, .c, .g⟩)⟩,
  ⟨none, .dv ⟨.a, .d, .a⟩ .rem .i64 (.s ⟨.a, .c, .h⟩) (.k (.v (.int .i64 5)))⟩,
  ⟨none, .ar ⟨.a, .d, .b⟩ .add .i64 (.k (.v (.int .i64 1))) (.s ⟨.a, .d, .a⟩)⟩,
  ⟨none, .mov ⟨.a, .a, .g⟩ (.s ⟨.a, .d, .b⟩)⟩]
@[reducible] def p8r3 : List GI := [⟨none, .mov ⟨.a, .d, .c⟩ (.s ⟨.a, .a, .a⟩)⟩,
  ⟨none, .mov ⟨.a, .d, .d⟩ (.s ⟨.a, .a, .g⟩)⟩,
  ⟨none, .call ⟨.a, .d, .e⟩ 11 [(.s ⟨.a, .d, .c⟩), (.s ⟨.a, .d, .d⟩)]⟩,
  ⟨none, .new ⟨.a, .a, .h⟩ [(.v (.int .i64 0)), (.sl 0 [] .full)]⟩,
  ⟨none, .st (.s ⟨.a, .a, .h⟩) (.s ⟨.a, .d, .e⟩) 2⟩]
@[reducible] def p8r4 : List GI := [⟨none, .ld ⟨.a, .d, .f⟩ 2 true (.s ⟨.a, .a, .h⟩)⟩,
  ⟨none, .call ⟨.a, .d, .g⟩ 26 [(.s ⟨.a, .d, .f⟩), (.k (.v (.int .i64 0)))]⟩,
  ⟨none, .mov ⟨.a, .b, .a⟩ (.s ⟨.a, .d, .g⟩)⟩]
@[reducible] def p8r5 : List GI := [⟨none, .mov ⟨.a, .d, .h⟩ (.s ⟨.a, .b, .a⟩)⟩,
  ⟨none, .len ⟨.a, .e, .a⟩ (.s ⟨.a, .d, .h⟩)⟩,
  ⟨none, .cmp ⟨.a, .e, .b⟩ .eql (.s ⟨.a, .e, .a⟩) (.k (.v (.int .i64 0)))⟩]
@[reducible] def p8r6 : List GI := [⟨none, .mov ⟨.a, .e, .c⟩ (.s ⟨.a, .a, .f⟩)⟩,
  ⟨none, .mov ⟨.a, .a, .e⟩ (.s ⟨.a, .e, .c⟩)⟩]
@[reducible] def p8c7 : PC := .seq (.reg p8r6) .ret
@[reducible] def p8c8 : PC := .cond (.s ⟨.a, .e, .b⟩) p8c7 .skip
@[reducible] def p8c9 : PC := .seq (.reg p8r5) p8c8
@[reducible] def p8r10 : List GI := [⟨none, .mov ⟨.a, .e, .d⟩ (.s ⟨.a, .b, .a⟩)⟩,
  ⟨none, .iap ⟨.a, .e, .e⟩ (.s ⟨.a, .a, .d⟩) (.k (.v (.int .i64 1))) 1 2⟩,
  ⟨none, .ld ⟨.a, .e, .f⟩ 1 false (.s ⟨.a, .e, .e⟩)⟩,
  ⟨none, .cvi ⟨.a, .e, .g⟩ .i64 (.s ⟨.a, .e, .f⟩)⟩,
  ⟨none, .mov ⟨.a, .e, .h⟩ (.s ⟨.a, .b, .a⟩)⟩,
  ⟨none, .len ⟨.a, .f, .a⟩ (.s ⟨.a, .e, .h⟩)⟩,
  ⟨none, .dv ⟨.a, .f, .b⟩ .rem .i64 (.s ⟨.a, .e, .g⟩) (.s ⟨.a, .f, .a⟩)⟩,
  ⟨none, .ia ⟨.a, .f, .c⟩ (.s ⟨.a, .e, .d⟩) (.s ⟨.a, .f, .b⟩) 1⟩,
  ⟨none, .ld ⟨.a, .f, .d⟩ 1 false (.s ⟨.a, .f, .c⟩)⟩,
  ⟨none, .mov ⟨.a, .b, .b⟩ (.s ⟨.a, .f, .d⟩)⟩]
@[reducible] def p8r11 : List GI := [⟨none, .lit ⟨.a, .f, .e⟩ 3 [(.v (.int .i64 0)), (.v (.int .i64 0)), (.v (.int .i64 0))] 0 []⟩,
  ⟨none, .lit ⟨.a, .f, .f⟩ 3 [(.v (.int .i64 0)), (.v (.int .i64 0)), (.v (.int .i64 0))] 0 []⟩,
  ⟨none, .mov ⟨.a, .b, .c⟩ (.s ⟨.a, .f, .e⟩)⟩,
  ⟨none, .mov ⟨.a, .b, .d⟩ (.s ⟨.a, .f, .f⟩)⟩]
@[reducible] def p8r12 : List GI := [⟨none, .mov ⟨.a, .f, .g⟩ (.s ⟨.a, .b, .b⟩)⟩,
  ⟨none, .len ⟨.a, .f, .h⟩ (.s ⟨.a, .f, .g⟩)⟩,
  ⟨none, .ar ⟨.a, .g, .a⟩ .sub .i64 (.s ⟨.a, .f, .h⟩) (.k (.v (.int .i64 1)))⟩,
  ⟨none, .mov ⟨.a, .b, .e⟩ (.s ⟨.a, .g, .a⟩)⟩]
@[reducible] def p8r13 : List GI := [⟨none, .mov ⟨.a, .g, .b⟩ (.s ⟨.a, .b, .e⟩)⟩,
  ⟨none, .cmp ⟨.a, .g, .c⟩ .geq (.s ⟨.a, .g, .b⟩) (.k (.v (.int .i64 0)))⟩]
@[reducible] def p8c14 : PC := .cond (.s ⟨.a, .g, .c⟩) .skip (.exit 0)
@[reducible] def p8c15 : PC := .seq (.reg p8r13) p8c14
@[reducible] def p8r16 : List GI := [⟨none, .mov ⟨.a, .g, .g⟩ (.s ⟨.a, .b, .c⟩)⟩,
  ⟨none, .mov ⟨.a, .g, .h⟩ (.s ⟨.a, .b, .b⟩)⟩,
  ⟨none, .mov ⟨.a, .h, .a⟩ (.s ⟨.a, .b, .e⟩)⟩,
  ⟨none, .ia ⟨.a, .h, .b⟩ (.s ⟨.a, .g, .h⟩) (.s ⟨.a, .h, .a⟩) 4⟩,
  ⟨none, .fa ⟨.a, .h, .c⟩ (.s ⟨.a, .h, .b⟩) 0⟩,
  ⟨none, .ld ⟨.a, .h, .d⟩ 1 false (.s ⟨.a, .h, .c⟩)⟩,
  ⟨none, .mov ⟨.a, .h, .e⟩ (.s ⟨.a, .b, .b⟩)⟩,
  ⟨none, .mov ⟨.a, .h, .f⟩ (.s ⟨.a, .b, .e⟩)⟩,
  ⟨none, .ia ⟨.a, .h, .g⟩ (.s ⟨.a, .h, .e⟩) (.s ⟨.a, .h, .f⟩) 4⟩,
  ⟨none, .fa ⟨.a, .h, .h⟩ (.s ⟨.a, .h, .g⟩) 1⟩,
  ⟨none, .ld ⟨.b, .a, .a⟩ 1 false (.s ⟨.a, .h, .h⟩)⟩,
  ⟨none, .mov ⟨.b, .a, .b⟩ (.s ⟨.a, .b, .b⟩)⟩,
  ⟨none, .mov ⟨.b, .a, .c⟩ (.s ⟨.a, .b, .e⟩)⟩,
  ⟨none, .ia ⟨.b, .a, .d⟩ (.s ⟨.b, .a, .b⟩) (.s ⟨.b, .a, .c⟩) 4⟩,
  ⟨none, .fa ⟨.b, .a, .e⟩ (.s ⟨.b, .a, .d⟩) 2⟩,
  ⟨none, .ld ⟨.b, .a, .f⟩ 1 false (.s ⟨.b, .a, .e⟩)⟩,
  ⟨none, .bld ⟨.b, .a, .g⟩ [(.v (.int .i64 0)), (.v (.int .i64 0)), (.v (.int .i64 0))] [(0, 1, (.s ⟨.a, .h, .d⟩)), (1, 1, (.s ⟨.b, .a, .a⟩)), (2, 1, (.s ⟨.b, .a, .f⟩))]⟩,
  ⟨none, .mov ⟨.b, .a, .h⟩ (.s ⟨.a, .a, .g⟩)⟩,
  ⟨none, .call ⟨.b, .b, .a⟩ 12 [(.s ⟨.a, .g, .g⟩), (.s ⟨.b, .a, .g⟩), (.s ⟨.b, .a, .h⟩)]⟩,
  ⟨none, .mov ⟨.a, .g, .f⟩ (.s ⟨.b, .b, .a⟩)⟩,
  ⟨none, .ext ⟨.b, .b, .b⟩ (.s ⟨.a, .g, .f⟩) 0⟩,
  ⟨none, .ext ⟨.b, .b, .c⟩ (.s ⟨.a, .g, .f⟩) 1⟩,
  ⟨none, .mov ⟨.a, .b, .f⟩ (.s ⟨.b, .b, .b⟩)⟩,
  ⟨none, .mov ⟨.a, .b, .g⟩ (.s ⟨.b, .b, .c⟩)⟩]
@[reducible] def p8r17 : List GI := [⟨none, .mov ⟨.b, .b, .e⟩ (.s ⟨.a, .b, .d⟩)⟩,
  ⟨none, .mov ⟨.b, .b, .f⟩ (.s ⟨.a, .b, .b⟩)⟩,
  ⟨none, .mov ⟨.b, .b, .g⟩ (.s ⟨.a, .b, .e⟩)⟩,
  ⟨none, .ia ⟨.b, .b, .h⟩ (.s ⟨.b, .b, .f⟩) (.s ⟨.b, .b, .g⟩) 4⟩,
  ⟨none, .fa ⟨.b, .c, .a⟩ (.s ⟨.b, .b, .h⟩) 0⟩,
  ⟨none, .ld ⟨.b, .c, .b⟩ 1 false (.s ⟨.b, .c, .a⟩)⟩,
  ⟨none, .mov ⟨.b, .c, .c⟩ (.s ⟨.a, .b, .b⟩)⟩,
  ⟨none, .mov ⟨.b, .c, .d⟩ (.s ⟨.a, .b, .e⟩)⟩,
  ⟨none, .ia ⟨.b, .c, .e⟩ (.s ⟨.b, .c, .c⟩) (.s ⟨.b, .c, .d⟩) 4⟩,
  ⟨none, .fa ⟨.b, .c, .f⟩ (.s ⟨.b, .c, .e⟩) 1⟩,
  ⟨none, .ld ⟨.b, .c, .g⟩ 1 false (.s ⟨.b, .c, .f⟩)⟩,
  ⟨none, .bld ⟨.b, .c, .h⟩ [(.v (.int .i64 0)), (.v (.int .i64 0)), (.v (.int .i64 0))] [(0, 1, (.s ⟨.b, .c, .b⟩)), (1, 1, (.s ⟨.b, .c, .g⟩)), (2, 1, (.k (.v (.int .i64 (-1)))))]⟩,
  ⟨none, .mov ⟨.b, .d, .a⟩ (.s ⟨.a, .a, .g⟩)⟩,
  ⟨none, .call ⟨.b, .d, .b⟩ 12 [(.s ⟨.b, .b, .e⟩), (.s ⟨.b, .c, .h⟩), (.s ⟨.b, .d, .a⟩)]⟩,
  ⟨none, .mov ⟨.b, .b, .d⟩ (.s ⟨.b, .d, .b⟩)⟩,
  ⟨none, .ext ⟨.b, .d, .c⟩ (.s ⟨.b, .b, .d⟩) 0⟩,
  ⟨none, .ext ⟨.b, .d, .d⟩ (.s ⟨.b, .b, .d⟩) 1⟩,
  ⟨none, .mov ⟨.a, .b, .h⟩ (.s ⟨.b, .d, .c⟩)⟩,
  ⟨none, .mov ⟨.a, .c, .a⟩ (.s ⟨.b, .d, .d⟩)⟩]
@[reducible] def p8r18 : List GI := [⟨none, .mov ⟨.b, .d, .e⟩ (.s ⟨.a, .b, .g⟩)⟩,
  ⟨none, .cmp ⟨.b, .d, .f⟩ .neq (.s ⟨.b, .d, .e⟩) (.k (.v (.int .i64 0)))⟩,
  ⟨none, .mov ⟨.b, .d, .g⟩ (.s ⟨.b, .d, .f⟩)⟩,
  ⟨some (⟨.b, .d, .g⟩, false), .mov ⟨.b, .d, .h⟩ (.s ⟨.a, .c, .a⟩)⟩,
  ⟨some (⟨.b, .d, .g⟩, false), .cmp ⟨.b, .e, .a⟩ .neq (.s ⟨.b, .d, .h⟩) (.k (.v (.int .i64 0)))⟩,
  ⟨none, .pick ⟨.b, .e, .b⟩ (.s ⟨.b, .d, .g⟩) (.k (.v (.bool true))) (.s ⟨.b, .e, .a⟩)⟩]
@[reducible] def p8r19 : List GI := [⟨none, .mov ⟨.a, .a, .e⟩ (.k (.v (.bool false)))⟩]
@[reducible] def p8c20 : PC := .seq (.reg p8r19) .ret
@[reducible] def p8c21 : PC := .cond (.s ⟨.b, .e, .b⟩) p8c20 .skip
@[reducible] def p8c22 : PC := .seq (.reg p8r18) p8c21
@[reducible] def p8r23 : List GI := [⟨none, .mov ⟨.b, .e, .c⟩ (.s ⟨.a, .b, .f⟩)⟩,
  ⟨none, .mov ⟨.b, .e, .d⟩ (.s ⟨.a, .b, .h⟩)⟩,
  ⟨none, .mov ⟨.a, .b, .c⟩ (.s ⟨.b, .e, .c⟩)⟩,
  ⟨none, .mov ⟨.a, .b, .d⟩ (.s ⟨.b, .e, .d⟩)⟩]
@[reducible] def p8c24 : PC := .seq p8c22 (.reg p8r23)
@[reducible] def p8c25 : PC := .seq (.reg p8r17) p8c24
@[reducible] def p8c26 : PC := .seq (.reg p8r16) p8c25
@[reducible] def p8c27 : PC := .block 1 p8c26
@[reducible] def p8r28 : List GI := [⟨none, .mov ⟨.a, .g, .d⟩ (.s ⟨.a, .b, .e⟩)⟩,
  ⟨none, .ar ⟨.a, .g, .e⟩ .sub .i64 (.s ⟨.a, .g, .d⟩) (.k (.v (.int .i64 1)))⟩,
  ⟨none, .mov ⟨.a, .b, .e⟩ (.s ⟨.a, .g, .e⟩)⟩]
@[reducible] def p8c29 : PC := .seq p8c27 (.reg p8r28)
@[reducible] def p8c30 : PC := .seq p8c15 p8c29
@[reducible] def p8l31 : PC := .loop 0 [⟨.a, .g, .b⟩, ⟨.a, .g, .c⟩, ⟨.a, .g, .g⟩, ⟨.a, .g, .h⟩, ⟨.a, .h, .a⟩, ⟨.a, .h, .b⟩, ⟨.a, .h, .c⟩, ⟨.a, .h, .d⟩, ⟨.a, .h, .e⟩, ⟨.a, .h, .f⟩, ⟨.a, .h, .g⟩, ⟨.a, .h, .h⟩, ⟨.b, .a, .a⟩, ⟨.b, .a, .b⟩, ⟨.b, .a, .c⟩, ⟨.b, .a, .d⟩, ⟨.b, .a, .e⟩, ⟨.b, .a, .f⟩, ⟨.b, .a, .g⟩, ⟨.b, .a, .h⟩, ⟨.b, .b, .a⟩, ⟨.a, .g, .f⟩, ⟨.b, .b, .b⟩, ⟨.b, .b, .c⟩, ⟨.a, .b, .f⟩, ⟨.a, .b, .g⟩, ⟨.b, .b, .e⟩, ⟨.b, .b, .f⟩, ⟨.b, .b, .g⟩, ⟨.b, .b, .h⟩, ⟨.b, .c, .a⟩, ⟨.b, .c, .b⟩, ⟨.b, .c, .c⟩, ⟨.b, .c, .d⟩, ⟨.b, .c, .e⟩, ⟨.b, .c, .f⟩, ⟨.b, .c, .g⟩, ⟨.b, .c, .h⟩, ⟨.b, .d, .a⟩, ⟨.b, .d, .b⟩, ⟨.b, .b, .d⟩, ⟨.b, .d, .c⟩, ⟨.b, .d, .d⟩, ⟨.a, .b, .h⟩, ⟨.a, .c, .a⟩, ⟨.b, .d, .e⟩, ⟨.b, .d, .f⟩, ⟨.b, .d, .g⟩, ⟨.b, .d, .h⟩, ⟨.b, .e, .a⟩, ⟨.b, .e, .b⟩, ⟨.a, .a, .e⟩, ⟨.b, .e, .c⟩, ⟨.b, .e, .d⟩, ⟨.a, .b, .c⟩, ⟨.a, .b, .d⟩, ⟨.a, .g, .d⟩, ⟨.a, .g, .e⟩, ⟨.a, .b, .e⟩] p8c30
@[reducible] def p8c32 : PC := .block 0 p8l31
@[reducible] def p8c33 : PC := .seq (.reg p8r12) p8c32
@[reducible] def p8r34 : List GI := [⟨none, .ld ⟨.b, .e, .e⟩ 2 true (.s ⟨.a, .a, .h⟩)⟩,
  ⟨none, .mov ⟨.b, .e, .f⟩ (.s ⟨.a, .b, .c⟩)⟩,
  ⟨none, .call ⟨.b, .e, .g⟩ 16 [(.s ⟨.b, .e, .e⟩), (.s ⟨.b, .e, .f⟩)]⟩,
  ⟨none, .ld ⟨.b, .e, .h⟩ 2 true (.s ⟨.a, .a, .h⟩)⟩,
  ⟨none, .mov ⟨.b, .f, .a⟩ (.s ⟨.a, .b, .d⟩)⟩,
  ⟨none, .call ⟨.b, .f, .b⟩ 16 [(.s ⟨.b, .e, .h⟩), (.s ⟨.b, .f, .a⟩)]⟩]
@[reducible] def p8r35 : List GI := [⟨none, .new ⟨.a, .c, .b⟩ [(.v (.int .i64 0)), (.sl 0 [] .full)]⟩,
  ⟨none, .new ⟨.a, .c, .c⟩ [(.v (.int .i64 0)), (.sl 0 [] .full)]⟩,
  ⟨none, .st (.s ⟨.a, .c, .b⟩) (.s ⟨.b, .e, .g⟩) 2⟩,
  ⟨none, .st (.s ⟨.a, .c, .c⟩) (.s ⟨.b, .f, .b⟩) 2⟩]
@[reducible] def p8r36 : List GI := [⟨none, .new ⟨.a, .c, .c⟩ [(.v (.int .i64 0)), (.sl 0 [] .full)]⟩,
  ⟨none, .new ⟨.a, .c, .b⟩ [(.v (.int .i64 0)), (.sl 0 [] .full)]⟩,
  ⟨none, .st (.s ⟨.a, .c, .b⟩) (.s ⟨.b, .e, .g⟩) 2⟩,
  ⟨none, .st (.s ⟨.a, .c, .c⟩) (.s ⟨.b, .f, .b⟩) 2⟩]
@[reducible] def p8r37 : List GI := [⟨none, .fa ⟨.b, .f, .c⟩ (.s ⟨.a, .c, .b⟩) 1⟩,
  ⟨none, .ld ⟨.b, .f, .d⟩ 1 false (.s ⟨.b, .f, .c⟩)⟩,
  ⟨none, .bld ⟨.b, .f, .e⟩ [(.v (.int .i64 0)), (.sl 0 [] .full)] [(1, 1, (.s ⟨.b, .f, .d⟩))]⟩,
  ⟨none, .mov ⟨.b, .f, .f⟩ (.s ⟨.a, .b, .b⟩)⟩,
  ⟨none, .bld ⟨.b, .f, .g⟩ [(.v (.int .i64 0)), (.sl 0 [] .full)] [(1, 1, (.s ⟨.b, .f, .f⟩))]⟩,
  ⟨none, .call ⟨.b, .f, .h⟩ 15 [(.s ⟨.b, .f, .e⟩), (.s ⟨.b, .f, .g⟩)]⟩,
  ⟨none, .not ⟨.b, .g, .a⟩ (.s ⟨.b, .f, .h⟩)⟩,
  ⟨none, .mov ⟨.b, .g, .b⟩ (.s ⟨.b, .g, .a⟩)⟩,
  ⟨some (⟨.b, .g, .b⟩, false), .fa ⟨.b, .g, .c⟩ (.s ⟨.a, .c, .c⟩) 1⟩,
  ⟨some (⟨.b, .g, .b⟩, false), .ld ⟨.b, .g, .d⟩ 1 false (.s ⟨.b, .g, .c⟩)⟩,
  ⟨some (⟨.b, .g, .b⟩, false), .len ⟨.b, .g, .e⟩ (.s ⟨.b, .g, .d⟩)⟩,
  ⟨some (⟨.b, .g, .b⟩, false), .fa ⟨.b, .g, .f⟩ (.s ⟨.a, .a, .h⟩) 1⟩,
  ⟨some (⟨.b, .g, .b⟩, false), .ld ⟨.b, .g, .g⟩ 1 false (.s ⟨.b, .g, .f⟩)⟩,
  ⟨some (⟨.b, .g, .b⟩, false), .len ⟨.b, .g, .h⟩ (.s ⟨.b, .g, .g⟩)⟩,
  ⟨some (⟨.b, .g, .b⟩, false), .cmp ⟨.b, .h, .a⟩ .gtr (.s ⟨.b, .g, .e⟩) (.s ⟨.b, .g, .h⟩)⟩,
  ⟨none, .pick ⟨.b, .h, .b⟩ (.s ⟨.b, .g, .b⟩) (.k (.v (.bool true))) (.s ⟨.b, .h, .a⟩)⟩]
@[reducible] def p8r38 : List GI := [⟨none, .mov ⟨.a, .a, .e⟩ (.k (.v (.bool false)))⟩]
@[reducible] def p8c39 : PC := .seq (.reg p8r38) .ret
@[reducible] def p8c40 : PC := .cond (.s ⟨.b, .h, .b⟩) p8c39 .skip
@[reducible] def p8c41 : PC := .seq (.reg p8r37) p8c40
@[reducible] def p8r42 : List GI := [⟨none, .mov ⟨.a, .c, .d⟩ (.k (.v (.int .i64 0)))⟩]
@[reducible] def p8r43 : List GI := [⟨none, .mov ⟨.b, .h, .c⟩ (.s ⟨.a, .c, .d⟩)⟩,
  ⟨none, .fa ⟨.b, .h, .d⟩ (.s ⟨.a, .c, .c⟩) 1⟩,
  ⟨none, .ld ⟨.b, .h, .e⟩ 1 false (.s ⟨.b, .h, .d⟩)⟩,
  ⟨none, .len ⟨.b, .h, .f⟩ (.s ⟨.b, .h, .e⟩)⟩,
  ⟨none, .cmp ⟨.b, .h, .g⟩ .lss (.s ⟨.b, .h, .c⟩) (.s ⟨.b, .h, .f⟩)⟩]
@[reducible] def p8c44 : PC := .cond (.s ⟨.b, .h, .g⟩) .skip (.exit 2)
@[reducible] def p8c45 : PC := .seq (.reg p8r43) p8c44
@[reducible] def p8r46 : List GI := [⟨none, .mov ⟨.c, .a, .b⟩ (.s ⟨.a, .b, .d⟩)⟩,
  ⟨none, .fa ⟨.c, .a, .c⟩ (.s ⟨.a, .c, .c⟩) 1⟩,
  ⟨none, .ld ⟨.c, .a, .d⟩ 1 false (.s ⟨.c, .a, .c⟩)⟩,
  ⟨none, .mov ⟨.c, .a, .e⟩ (.s ⟨.a, .c, .d⟩)⟩,
  ⟨none, .ia ⟨.c, .a, .f⟩ (.s ⟨.c, .a, .d⟩) (.s ⟨.c, .a, .e⟩) 4⟩,
  ⟨none, .fa ⟨.c, .a, .g⟩ (.s ⟨.c, .a, .f⟩) 0⟩,
  ⟨none, .ld ⟨.c, .a, .h⟩ 1 false (.s ⟨.c, .a, .g⟩)⟩,
  ⟨none, .fa ⟨.c, .b, .a⟩ (.s ⟨.a, .c, .c⟩) 1⟩,
  ⟨none, .ld ⟨.c, .b, .b⟩ 1 false (.s ⟨.c, .b, .a⟩)⟩,
  ⟨none, .mov ⟨.c, .b, .c⟩ (.s ⟨.a, .c, .d⟩)⟩,
  ⟨none, .ia ⟨.c, .b, .d⟩ (.s ⟨.c, .b, .b⟩) (.s ⟨.c, .b, .c⟩) 4⟩,
  ⟨none, .fa ⟨.c, .b, .e⟩ (.s ⟨.c, .b, .d⟩) 1⟩,
  ⟨none, .ld ⟨.c, .b, .f⟩ 1 false (.s ⟨.c, .b, .e⟩)⟩,
  ⟨none, .bld ⟨.c, .b, .g⟩ [(.v (.int .i64 0)), (.v (.int .i64 0)), (.v (.int .i64 0))] [(0, 1, (.s ⟨.c, .a, .h⟩)), (1, 1, (.s ⟨.c, .b, .f⟩)), (2, 1, (.k (.v (.int .i64 (-1)))))]⟩,
  ⟨none, .call ⟨.c, .b, .h⟩ 24 [(.s ⟨.c, .a, .b⟩), (.s ⟨.c, .b, .g⟩)]⟩,
  ⟨none, .not ⟨.c, .c, .a⟩ (.s ⟨.c, .b, .h⟩)⟩]
@[reducible] def p8r47 : List GI := [⟨none, .mov ⟨.a, .a, .e⟩ (.k (.v (.bool false)))⟩]
@[reducible] def p8c48 : PC := .seq (.reg p8r47) .ret
@[reducible] def p8c49 : PC := .cond (.s ⟨.c, .c, .a⟩) p8c48 .skip
@[reducible] def p8c50 : PC := .seq (.reg p8r46) p8c49
@[reducible] def p8c51 : PC := .block 3 p8c50
@[reducible] def p8r52 : List GI := [⟨none, .mov ⟨.b, .h, .h⟩ (.s ⟨.a, .c, .d⟩)⟩,
  ⟨none, .ar ⟨.c, .a, .a⟩ .add .i64 (.s ⟨.b, .h, .h⟩) (.k (.v (.int .i64 1)))⟩,
  ⟨none, .mov ⟨.a, .c, .d⟩ (.s ⟨.c, .a, .a⟩)⟩]
@[reducible] def p8c53 : PC := .seq p8c51 (.reg p8r52)
@[reducible] def p8c54 : PC := .seq p8c45 p8c53
@[reducible] def p8l55 : PC := .loop 0 [⟨.b, .h, .c⟩, ⟨.b, .h, .d⟩, ⟨.b, .h, .e⟩, ⟨.b, .h, .f⟩, ⟨.b, .h, .g⟩, ⟨.c, .a, .b⟩, ⟨.c, .a, .c⟩, ⟨.c, .a, .d⟩, ⟨.c, .a, .e⟩, ⟨.c, .a, .f⟩, ⟨.c, .a, .g⟩, ⟨.c, .a, .h⟩, ⟨.c, .b, .a⟩, ⟨.c, .b, .b⟩, ⟨.c, .b, .c⟩, ⟨.c, .b, .d⟩, ⟨.c, .b, .e⟩, ⟨.c, .b, .f⟩, ⟨.c, .b, .g⟩, ⟨.c, .b, .h⟩, ⟨.c, .c, .a⟩, ⟨.a, .a, .e⟩, ⟨.b, .h, .h⟩, ⟨.c, .a, .a⟩, ⟨.a, .c, .d⟩] p8c54
@[reducible] def p8c56 : PC := .block 2 p8l55
@[reducible] def p8c57 : PC := .seq (.reg p8r42) p8c56
@[reducible] def p8r58 : List GI := [⟨none, .fa ⟨.c, .c, .b⟩ (.s ⟨.a, .c, .c⟩) 1⟩,
  ⟨none, .ld ⟨.c, .c, .c⟩ 1 false (.s ⟨.c, .c, .b⟩)⟩,
  ⟨none, .len ⟨.c, .c, .d⟩ (.s ⟨.c, .c, .c⟩)⟩,
  ⟨none, .mov ⟨.c, .c, .e⟩ (.s ⟨.a, .b, .b⟩)⟩,
  ⟨none, .len ⟨.c, .c, .f⟩ (.s ⟨.c, .c, .e⟩)⟩,
  ⟨none, .cmp ⟨.c, .c, .g⟩ .geq (.s ⟨.c, .c, .d⟩) (.s ⟨.c, .c, .f⟩)⟩,
  ⟨none, .mov ⟨.c, .c, .h⟩ (.s ⟨.c, .c, .g⟩)⟩,
  ⟨some (⟨.c, .c, .h⟩, true), .mov ⟨.c, .d, .a⟩ (.s ⟨.a, .a, .f⟩)⟩,
  ⟨none, .pick ⟨.c, .d, .b⟩ (.s ⟨.c, .c, .h⟩) (.s ⟨.c, .d, .a⟩) (.k (.v (.bool false)))⟩,
  ⟨none, .mov ⟨.a, .a, .e⟩ (.s ⟨.c, .d, .b⟩)⟩]
@[reducible] def p8c59 : PC := .seq (.reg p8r58) .ret
@[reducible] def p8c60 : PC := .seq p8c57 p8c59
@[reducible] def p8c61 : PC := .seq p8c41 p8c60
@[reducible] def p8c62 : PC := .seq (.fork p8r34 p8r35 p8r36) p8c61
@[reducible] def p8c63 : PC := .seq p8c33 p8c62
@[reducible] def p8c64 : PC := .seq (.reg p8r11) p8c63
@[reducible] def p8c65 : PC := .seq (.reg p8r10) p8c64
@[reducible] def p8c66 : PC := .seq p8c9 p8c65
@[reducible] def p8c67 : PC := .seq (.reg p8r4) p8c66
@[reducible] def p8c68 : PC := .seq (.reg p8r3) p8c67
@[reducible] def p8c69 : PC := .seq (.reg p8r2) p8c68
@[reducible] def p8c70 : PC := .seq (.reg p8r1) p8c69
@[reducible] def p8c71 : PC := .seq (.reg p8r0) p8c70
def p8 : PFun := ⟨p8c71, [(.t ⟨.a, .a, .e⟩)]⟩
@[simp] theorem p8_b : p8.body = p8c71 := rfl
@[simp] theorem p8_r : p8.res = [(.t ⟨.a, .a, .e⟩)] := rfl
theorem is8 : cFunB Try.prog 0 [] 8 = some p8 := by kernel_rfl
theorem na8 : ((Try.prog.funcs[8]?).map (·.ntmps)).any (2 ≤ ·) = true := by kernel_rfl
end Go.Proofs.Ytdkancgcefklfaa
