/-
  The code over plain views of functions 9.
-/
import Derived.Test.YtdkancgcefklfaaG5
import Derived.Test.YtdkancgcefklfaaG6
namespace Go.Proofs.Ytdkancgcefklfaa
open Go.RowKit
@[reducible] def p9r0 : List GI := [⟨none, .mov ⟨.a, .a, .a⟩ (.k (.v (.bool false)))⟩]
@[reducible] def p9r1 : List GI := [⟨none, .bld ⟨.a, .b, .h⟩ [(.v (.int .i64 0)), (.v (.int .i64 0)), (.v (.int .i64 0))] [(0, 1, (.k (.v (.int .i64 0)))), (1, 1, (.k (.v (.int .i64 2)))), (2, 1, (.k (.v (.int .i64 5))))]⟩,
  ⟨none, .bld ⟨.a, .c, .a⟩ [(.v (.int .i64 0)), (.v (.int .i64 0)), (.v (.int .i64 0))] [(0, 1, (.k (.v (.int .i64 3)))), (1, 1, (.k (.v (.int .i64 6)))), (2, 1, (.k (.v (.int .i64 (-1)))))]⟩,
  ⟨none, .bld ⟨.a, .c, .b⟩ [(.v (.int .i64 0)), (.v (.int .i64 0)), (.v (.int .i64 0))] [(0, 1, (.k (.v (.int .i64 2)))), (1, 1, (.k (.v (.int .i64 4)))), (2, 1, (.k (.v (.int .i64 (-1)))))]⟩,
  ⟨none, .new ⟨.a, .a, .b⟩ [(.v (.int .i64 0)), (.v (.int .i64 0)), (.v (.int .i64 0))]⟩,
  ⟨none, .new ⟨.a, .a, .c⟩ [(.v (.int .i64 0)), (.v (.int .i64 0)), (.v (.int .i64 0))]⟩,
  ⟨none, .new ⟨.a, .a, .d⟩ [(.v (.int .i64 0)), (.v (.int .i64 0)), (.v (.int .i64 0))]⟩,
  ⟨none, .st (.s ⟨.a, .a, .b⟩) (.s ⟨.a, .b, .h⟩) 3⟩,
  ⟨none, .st (.s ⟨.a, .a, .c⟩) (.s ⟨.a, .c, .a⟩) 3⟩,
  ⟨none, .st (.s ⟨.a, .a, .d⟩) (.s ⟨.a, .c, .b⟩) 3⟩]
@[reducible] def p9r2 : List GI := [⟨none, .ld ⟨.a, .c, .d⟩ 3 true (.s ⟨.a, .a, .b⟩)⟩,
  ⟨none, .ld ⟨.a, .c, .e⟩ 3 true (.s ⟨.a, .a, .c⟩)⟩,
  ⟨none, .lit ⟨.a, .c, .f⟩ 3 [(.v (.int .i64 0)), (.v (.int .i64 0)), (.v (.int .i64 0))] 2 [(0, (.s ⟨.a, .c, .d⟩)), (1, (.s ⟨.a, .c, .e⟩))]⟩,
  ⟨none, .ld ⟨.a, .c, .g⟩ 3 true (.s ⟨.a, .a, .d⟩)⟩,
  ⟨none, .call ⟨.a, .c, .h⟩ 12 [(.s ⟨.a, .c, .f⟩), (.s ⟨.a, .c, .g⟩), (.k (.v (.int .i64 6)))]⟩,
  ⟨none, .mov ⟨.a, .c, .c⟩ (.s ⟨.a, .c, .h⟩)⟩,
  ⟨none, .ext ⟨.a, .d, .a⟩ (.s ⟨.a, .c, .c⟩) 0⟩,
  ⟨none, .ext ⟨.a, .d, .b⟩ (.s ⟨.a, .c, .c⟩) 1⟩,
  ⟨none, .mov ⟨.a, .a, .e⟩ (.s ⟨.a, .d, .a⟩)⟩,
  ⟨none, .mov ⟨.a, .a, .f⟩ (.s ⟨.a, .d, .b⟩)⟩]
@[reducible] def p9r3 : List GI := [⟨none, .bld ⟨.a, .d, .d⟩ [(.v (.int .i64 0)), (.v (.int .i64 0)), (.v (.int .i64 0))] [(0, 1, (.k (.v (.int .i64 4)))), (1, 1, (.k (.v (.int .i64 4)))), (2, 1, (.k (.v (.int .i64 (-1)))))]⟩,
  ⟨none, .call ⟨.a, .d, .e⟩ 12 [(.k (.sl 0 [] .full)), (.s ⟨.a, .d, .d⟩), (.k (.v (.int .i64 6)))]⟩,
  ⟨none, .mov ⟨.a, .d, .c⟩ (.s ⟨.a, .d, .e⟩)⟩,
  ⟨none, .ext ⟨.a, .d, .f⟩ (.s ⟨.a, .d, .c⟩) 0⟩,
  ⟨none, .ext ⟨.a, .d, .g⟩ (.s ⟨.a, .d, .c⟩) 1⟩,
  ⟨none, .mov ⟨.a, .a, .g⟩ (.s ⟨.a, .d, .f⟩)⟩,
  ⟨none, .mov ⟨.a, .a, .h⟩ (.s ⟨.a, .d, .g⟩)⟩]
@[reducible] def p9r4 : List GI := [⟨none, .ld ⟨.a, .e, .a⟩ 3 true (.s ⟨.a, .a, .c⟩)⟩,
  ⟨none, .lit ⟨.a, .e, .b⟩ 3 [(.v (.int .i64 0)), (.v (.int .i64 0)), (.v (.int .i64 0))] 1 [(0, (.s ⟨.a, .e, .a⟩))]⟩,
  ⟨none, .ld ⟨.a, .e, .c⟩ 3 true (.s ⟨.a, .a, .b⟩)⟩,
  ⟨none, .call ⟨.a, .e, .d⟩ 12 [(.s ⟨.a, .e, .b⟩), (.s ⟨.a, .e, .c⟩), (.k (.v (.int .i64 5)))]⟩,
  ⟨none, .mov ⟨.a, .d, .h⟩ (.s ⟨.a, .e, .d⟩)⟩,
  ⟨none, .ext ⟨.a, .e, .e⟩ (.s ⟨.a, .d, .h⟩) 0⟩,
  ⟨none, .ext ⟨.a, .e, .f⟩ (.s ⟨.a, .d, .h⟩) 1⟩,
  ⟨none, .mov ⟨.a, .b, .a⟩ (.s ⟨.a, .e, .e⟩)⟩,
  ⟨none, .mov ⟨.a, .b, .b⟩ (.s ⟨.a, .e, .f⟩)⟩]
@[reducible] def p9r5 : List GI := [⟨none, .bld ⟨.a, .e, .g⟩ [(.v (.int .i64 0)), (.v (.int .i64 0)), (.v (.int .i64 0)), (.v (.int .i64 0))] [(0, 1, (.k (.v (.int .i64 0)))), (1, 1, (.k (.v (.int .i64 1))))]⟩,
  ⟨none, .bld ⟨.a, .e, .h⟩ [(.v (.int .i64 0)), (.v (.int .i64 0)), (.v (.int .i64 0)), (.v (.int .i64 0))] [(0, 1, (.k (.v (.int .i64 0)))), (1, 1, (.k (.v (.int .i64 2))))]⟩,
  ⟨none, .bld ⟨.a, .f, .a⟩ [(.v (.int .i64 0)), (.v (.int .i64 0)), (.v (.int .i64 0)), (.v (.int .i64 0))] [(0, 1, (.k (.v (.int .i64 1)))), (1, 1, (.k (.v (.int .i64 2))))]⟩,
  ⟨none, .lit ⟨.a, .f, .b⟩ 4 [(.v (.int .i64 0)), (.v (.int .i64 0)), (.v (.int .i64 0)), (.v (.int .i64 0))] 3 [(0, (.s ⟨.a, .e, .g⟩)), (1, (.s ⟨.a, .e, .h⟩)), (2, (.s ⟨.a, .f, .a⟩))]⟩,
  ⟨none, .bld ⟨.a, .f, .c⟩ [(.v (.int .i64 0)), (.sl 0 [] .full)] [(0, 1, (.k (.v (.int .i64 2)))), (1, 1, (.s ⟨.a, .f, .b⟩))]⟩,
  ⟨none, .new ⟨.a, .b, .c⟩ [(.v (.int .i64 0)), (.sl 0 [] .full)]⟩,
  ⟨none, .st (.s ⟨.a, .b, .c⟩) (.s ⟨.a, .f, .c⟩) 2⟩]
@[reducible] def p9r6 : List GI := [⟨none, .ld ⟨.a, .f, .d⟩ 2 true (.s ⟨.a, .b, .c⟩)⟩,
  ⟨none, .bld ⟨.a, .f, .e⟩ [(.v (.int .i64 0)), (.v (.int .i64 0)), (.v (.int .i64 0))] [(0, 1, (.k (.v (.int .i64 0)))), (1, 1, (.k (.v (.int .i64 2)))), (2, 1, (.k (.v (.int .i64 (-1)))))]⟩,
  ⟨none, .lit ⟨.a, .f, .f⟩ 3 [(.v (.int .i64 0)), (.v (.int .i64 0)), (.v (.int .i64 0))] 1 [(0, (.s ⟨.a, .f, .e⟩))]⟩,
  ⟨none, .call ⟨.a, .f, .g⟩ 16 [(.s ⟨.a, .f, .d⟩), (.s ⟨.a, .f, .f⟩)]⟩,
  ⟨none, .new ⟨.a, .b, .d⟩ [(.v (.int .i64 0)), (.sl 0 [] .full)]⟩,
  ⟨none, .st (.s ⟨.a, .b, .d⟩) (.s ⟨.a, .f, .g⟩) 2⟩]
@[reducible] def p9r7 : List GI := [⟨none, .mov ⟨.a, .f, .h⟩ (.s ⟨.a, .a, .f⟩)⟩,
  ⟨none, .cmp ⟨.a, .g, .a⟩ .eql (.s ⟨.a, .f, .h⟩) (.k (.v (.int .i64 0)))⟩,
  ⟨none, .mov ⟨.a, .g, .b⟩ (.s ⟨.a, .g, .a⟩)⟩,
  ⟨some (⟨.a, .g, .b⟩, true), .mov ⟨.a, .g, .c⟩ (.s ⟨.a, .a, .e⟩)⟩,
  ⟨some (⟨.a, .g, .b⟩, true), .ld ⟨.a, .g, .d⟩ 3 true (.s ⟨.a, .a, .b⟩)⟩,
  ⟨some (⟨.a, .g, .b⟩, true), .ld ⟨.a, .g, .e⟩ 3 true (.s ⟨.a, .a, .d⟩)⟩,
  ⟨some (⟨.a, .g, .b⟩, true), .lit ⟨.a, .g, .f⟩ 3 [(.v (.int .i64 0)), (.v (.int .i64 0)), (.v (.int .i64 0))] 2 [(0, (.s ⟨.a, .g, .d⟩)), (1, (.s ⟨.a, .g, .e⟩))]⟩,
  ⟨some (⟨.a, .g, .b⟩, true), .call ⟨.a, .g, .g⟩ 14 [(.s ⟨.a, .g, .c⟩), (.s ⟨.a, .g, .f⟩)]⟩,
  ⟨none, .pick ⟨.a, .g, .h⟩ (.s ⟨.a, .g, .b⟩) (.s ⟨.a, .g, .g⟩) (.k (.v (.bool false)))⟩,
  ⟨none, .mov ⟨.a, .h, .a⟩ (.s ⟨.a, .g, .h⟩)⟩,
  ⟨some (⟨.a, .h, .a⟩, true), .mov ⟨.a, .h, .b⟩ (.s ⟨.a, .a, .h⟩)⟩,
  ⟨some (⟨.a, .h, .a⟩, true), .cmp ⟨.a, .h, .c⟩ .eql (.s ⟨.a, .h, .b⟩) (.k (.v (.int .i64 180)))⟩,
  ⟨none, .pick ⟨.a, .h, .d⟩ (.s ⟨.a, .h, .a⟩) (.s ⟨.a, .h, .c⟩) (.k (.v (.bool false)))⟩,
  ⟨none, .mov ⟨.a, .h, .e⟩ (.s ⟨.a, .h, .d⟩)⟩,
  ⟨some (⟨.a, .h, .e⟩, true), .mov ⟨.a, .h, .f⟩ (.s ⟨.a, .b, .b⟩)⟩,
  ⟨some (⟨.a, .h, .e⟩, true), .cmp ⟨.a, .h, .g⟩ .eql (.s ⟨.a, .h, .f⟩) (.k (.v (.int .i64 180)))⟩,
  ⟨none, .pick ⟨.a, .h, .h⟩ (.s ⟨.a, .h, .e⟩) (.s ⟨.a, .h, .g⟩) (.k (.v (.bool false)))⟩,
  ⟨none, .mov ⟨.b, .a, .a⟩ (.s ⟨.a, .h, .h⟩)⟩,
  ⟨some (⟨.b, .a, .a⟩, true), .ld ⟨.b, .a, .b⟩ 2 true (.s ⟨.a, .b, .d⟩)⟩,
  ⟨some (⟨.b, .a, .a⟩, true), .bld ⟨.b, .a, .c⟩ [(.v (.int .i64 0)), (.v (.int .i64 0)), (.v (.int .i64 0)), (.v (.int .i64 0))] [(0, 1, (.k (.v (.int .i64 0)))), (1, 1, (.k (.v (.int .i64 2))))]⟩,
  ⟨some (⟨.b, .a, .a⟩, true), .lit ⟨.b, .a, .d⟩ 4 [(.v (.int .i64 0)), (.v (.int .i64 0)), (.v (.int .i64 0)), (.v (.int .i64 0))] 1 [(0, (.s ⟨.b, .a, .c⟩))]⟩,
  ⟨some (⟨.b, .a, .a⟩, true), .bld ⟨.b, .a, .e⟩ [(.v (.int .i64 0)), (.sl 0 [] .full)] [(0, 1, (.k (.v (.int .i64 2)))), (1, 1, (.s ⟨.b, .a, .d⟩))]⟩,
  ⟨some (⟨.b, .a, .a⟩, true), .call ⟨.b, .a, .f⟩ 15 [(.s ⟨.b, .a, .b⟩), (.s ⟨.b, .a, .e⟩)]⟩,
  ⟨none, .pick ⟨.b, .a, .g⟩ (.s ⟨.b, .a, .a⟩) (.s ⟨.b, .a, .f⟩) (.k (.v (.bool false)))⟩,
  ⟨none, .mov ⟨.a, .b, .e⟩ (.s ⟨.b, .a, .g⟩)⟩]
@[reducible] def p9r8 : List GI := [⟨none, .ld ⟨.b, .a, .h⟩ 3 true (.s ⟨.a, .a, .b⟩)⟩,
  ⟨none, .ld ⟨.b, .b, .a⟩ 3 true (.s ⟨.a, .a, .d⟩)⟩,
  ⟨none, .lit ⟨.b, .b, .b⟩ 3 [(.v (.int .i64 0)), (.v (.int .i64 0)), (.v (.int .i64 0))] 2 [(0, (.s ⟨.b, .a, .h⟩)), (1, (.s ⟨.b, .b, .a⟩))]⟩,
  ⟨none, .call ⟨.b, .b, .c⟩ 18 [(.s ⟨.b, .b, .b⟩), (.k (.v (.int .i64 2)))]⟩,
  ⟨none, .ld ⟨.b, .b, .d⟩ 3 true (.s ⟨.a, .a, .b⟩)⟩,
  ⟨none, .bld ⟨.b, .b, .e⟩ [(.v (.int .i64 0)), (.v (.int .i64 0)), (.v (.int .i64 0))] [(0, 1, (.k (.v (.int .i64 3)))), (1, 1, (.k (.v (.int .i64 5)))), (2, 1, (.k (.v (.int .i64 (-1)))))]⟩,
  ⟨none, .lit ⟨.b, .b, .f⟩ 3 [(.v (.int .i64 0)), (.v (.int .i64 0)), (.v (.int .i64 0))] 2 [(0, (.s ⟨.b, .b, .d⟩)), (1, (.s ⟨.b, .b, .e⟩))]⟩,
  ⟨none, .call ⟨.b, .b, .g⟩ 14 [(.s ⟨.b, .b, .c⟩), (.s ⟨.b, .b, .f⟩)]⟩,
  ⟨none, .mov ⟨.b, .b, .h⟩ (.s ⟨.b, .b, .g⟩)⟩,
  ⟨some (⟨.b, .b, .h⟩, true), .bld ⟨.b, .c, .a⟩ [(.v (.int .i64 0)), (.v (.int .i64 0)), (.v (.int .i64 0))] [(0, 1, (.k (.v (.int .i64 1)))), (1, 1, (.k (.v (.int .i64 3)))), (2, 1, (.k (.v (.int .i64 (-1)))))]⟩,
  ⟨some (⟨.b, .b, .h⟩, true), .lit ⟨.b, .c, .b⟩ 3 [(.v (.int .i64 0)), (.v (.int .i64 0)), (.v (.int .i64 0))] 1 [(0, (.s ⟨.b, .c, .a⟩))]⟩,
  ⟨some (⟨.b, .b, .h⟩, true), .call ⟨.b, .c, .c⟩ 18 [(.s ⟨.b, .c, .b⟩), (.k (.v (.int .i64 2)))]⟩,
  ⟨some (⟨.b, .b, .h⟩, true), .len ⟨.b, .c, .d⟩ (.s ⟨.b, .c, .c⟩)⟩,
  ⟨some (⟨.b, .b, .h⟩, true), .cmp ⟨.b, .c, .e⟩ .eql (.s ⟨.b, .c, .d⟩) (.k (.v (.int .i64 0)))⟩,
  ⟨none, .pick ⟨.b, .c, .f⟩ (.s ⟨.b, .b, .h⟩) (.s ⟨.b, .c, .e⟩) (.k (.v (.bool false)))⟩,
  ⟨none, .mov ⟨.a, .b, .f⟩ (.s ⟨.b, .c, .f⟩)⟩]
@[reducible] def p9r9 : List GI := [⟨none, .ld ⟨.b, .c, .g⟩ 3 true (.s ⟨.a, .a, .b⟩)⟩,
  ⟨none, .bld ⟨.b, .c, .h⟩ [(.v (.int .i64 0)), (.v (.int .i64 0)), (.v (.int .i64 0))] [(0, 1, (.k (.v (.int .i64 3)))), (1, 1, (.k (.v (.int .i64 5)))), (2, 1, (.k (.v (.int .i64 (-1)))))]⟩,
  ⟨none, .lit ⟨.b, .d, .a⟩ 3 [(.v (.int .i64 0)), (.v (.int .i64 0)), (.v (.int .i64 0))] 2 [(0, (.s ⟨.b, .c, .g⟩)), (1, (.s ⟨.b, .c, .h⟩))]⟩,
  ⟨none, .call ⟨.b, .d, .b⟩ 20 [(.s ⟨.b, .d, .a⟩), (.k (.v (.int .i64 2)))]⟩,
  ⟨none, .ld ⟨.b, .d, .c⟩ 3 true (.s ⟨.a, .a, .b⟩)⟩,
  ⟨none, .ld ⟨.b, .d, .d⟩ 3 true (.s ⟨.a, .a, .d⟩)⟩,
  ⟨none, .lit ⟨.b, .d, .e⟩ 3 [(.v (.int .i64 0)), (.v (.int .i64 0)), (.v (.int .i64 0))] 2 [(0, (.s ⟨.b, .d, .c⟩)), (1, (.s ⟨.b, .d, .d⟩))]⟩,
  ⟨none, .call ⟨.b, .d, .f⟩ 14 [(.s ⟨.b, .d, .b⟩), (.s ⟨.b, .d, .e⟩)]⟩,
  ⟨none, .mov ⟨.b, .d, .g⟩ (.s ⟨.b, .d, .f⟩)⟩,
  ⟨some (⟨.b, .d, .g⟩, true), .ld ⟨.b, .d, .h⟩ 3 true (.s ⟨.a, .a, .d⟩)⟩,
  ⟨some (⟨.b, .d, .g⟩, true), .lit ⟨.b, .e, .a⟩ 3 [(.v (.int .i64 0)), (.v (.int .i64 0)), (.v (.int .i64 0))] 1 [(0, (.s ⟨.b, .d, .h⟩))]⟩,
  ⟨some (⟨.b, .d, .g⟩, true), .call ⟨.b, .e, .b⟩ 20 [(.s ⟨.b, .e, .a⟩), (.k (.v (.int .i64 2)))]⟩,
  ⟨some (⟨.b, .d, .g⟩, true), .len ⟨.b, .e, .c⟩ (.s ⟨.b, .e, .b⟩)⟩,
  ⟨some (⟨.b, .d, .g⟩, true), .cmp ⟨.b, .e, .d⟩ .eql (.s ⟨.b, .e, .c⟩) (.k (.v (.int .i64 0)))⟩,
  ⟨none, .pick ⟨.b, .e, .e⟩ (.s ⟨.b, .d, .g⟩) (.s ⟨.b, .e, .d⟩) (.k (.v (.bool false)))⟩,
  ⟨none, .mov ⟨.a, .b, .g⟩ (.s ⟨.b, .e, .e⟩)⟩]
@[reducible] def p9r10 : List GI := [⟨none, .mov ⟨.b, .e, .f⟩ (.s ⟨.a, .b, .e⟩)⟩,
  ⟨none, .mov ⟨.b, .e, .g⟩ (.s ⟨.b, .e, .f⟩)⟩,
  ⟨some (⟨.b, .e, .g⟩, true), .mov ⟨.b, .e, .h⟩ (.s ⟨.a, .b, .f⟩)⟩,
  ⟨none, .pick ⟨.b, .f, .a⟩ (.s ⟨.b, .e, .g⟩) (.s ⟨.b, .e, .h⟩) (.k (.v (.bool false)))⟩,
  ⟨none, .mov ⟨.b, .f, .b⟩ (.s ⟨.b, .f, .a⟩)⟩,
  ⟨some (⟨.b, .f, .b⟩, true), .mov ⟨.b, .f, .c⟩ (.s ⟨.a, .b, .g⟩)⟩,
  ⟨none, .pick ⟨.b, .f, .d⟩ (.s ⟨.b, .f, .b⟩) (.s ⟨.b, .f, .c⟩) (.k (.v (.bool false)))⟩,
  ⟨none, .mov ⟨.b, .f, .e⟩ (.s ⟨.b, .f, .d⟩)⟩,
  ⟨some (⟨.b, .f, .e⟩, true), .ld ⟨.b, .f, .f⟩ 3 true (.s ⟨.a, .a, .b⟩)⟩,
  ⟨some (⟨.b, .f, .e⟩, true), .ld ⟨.b, .f, .g⟩ 3 true (.s ⟨.a, .a, .c⟩)⟩,
  ⟨some (⟨.b, .f, .e⟩, true), .lit ⟨.b, .f, .h⟩ 3 [(.v (.int .i64 0)), (.v (.int .i64 0)), (.v (.int .i64 0))] 2 [(0, (.s ⟨.b, .f, .f⟩)), (1, (.s ⟨.b, .f, .g⟩))]⟩,
  ⟨some (⟨.b, .f, .e⟩, true), .call ⟨.b, .g, .a⟩ 28 [(.s ⟨.b, .f, .h⟩), (.k (.v (.int .i64 6)))]⟩,
  ⟨none, .pick ⟨.b, .g, .b⟩ (.s ⟨.b, .f, .e⟩) (.s ⟨.b, .g, .a⟩) (.k (.v (.bool false)))⟩,
  ⟨none, .mov ⟨.b, .g, .c⟩ (.s ⟨.b, .g, .b⟩)⟩,
  ⟨some (⟨.b, .g, .c⟩, true), .ld ⟨.b, .g, .d⟩ 3 true (.s ⟨.a, .a, .c⟩)⟩,
  ⟨some (⟨.b, .g, .c⟩, true), .ld ⟨.b, .g, .e⟩ 3 true (.s ⟨.a, .a, .b⟩)⟩,
  ⟨some (⟨.b, .g, .c⟩, true), .lit ⟨.b, .g, .f⟩ 3 [(.v (.int .i64 0)), (.v (.int .i64 0)), (.v (.int .i64 0))] 2 [(0, (.s ⟨.b, .g, .d⟩)), (1, (.s ⟨.b, .g, .e⟩))]⟩,
  ⟨some (⟨.b, .g, .c⟩, true), .call ⟨.b, .g, .g⟩ 28 [(.s ⟨.b, .g, .f⟩), (.k (.v (.int .i64 6)))]⟩,
  ⟨some (⟨.b, .g, .c⟩, true), .not ⟨.b, .g, .h⟩ (.s ⟨.b, .g, .g⟩)⟩,
  ⟨none, .pick ⟨.b, .h, .a⟩ (.s ⟨.b, .g, .c⟩) (.s ⟨.b, .g, .h⟩) (.k (.v (.bool false)))⟩,
  ⟨none, .mov ⟨.b, .h, .b⟩ (.s ⟨.b, .h, .a⟩)⟩,
  ⟨some (⟨.b, .h, .b⟩, true), .call ⟨.b, .h, .c⟩ 28 [(.k (.sl 0 [] .full)), (.k (.v (.int .i64 41)))]⟩,
  ⟨some (⟨.b, .h, .b⟩, true), .not ⟨.b, .h, .d⟩ (.s ⟨.b, .h, .c⟩)⟩,
  ⟨none, .pick ⟨.b, .h, .e⟩ (.s ⟨.b, .h, .b⟩) (.s ⟨.b, .h, .d⟩) (.k (.v (.bool false)))⟩,
  ⟨none, .mov ⟨.a, .a, .a⟩ (.s ⟨.b, .h, .e⟩)⟩]
@[reducible] def p9c11 : PC := .seq (.reg p9r10) .ret
@[reducible] def p9c12 : PC := .seq (.reg p9r9) p9c11
@[reducible] def p9c13 : PC := .seq (.reg p9r8) p9c12
@[reducible] def p9c14 : PC := .seq (.reg p9r7) p9c13
@[reducible] def p9c15 : PC := .seq (.reg p9r6) p9c14
@[reducible] def p9c16 : PC := .seq (.reg p9r5) p9c15
@[reducible] def p9c17 : PC := .seq (.reg p9r4) p9c16
@[reducible] def p9c18 : PC := .seq (.reg p9r3) p9c17
@[reducible] def p9c19 : PC := .seq (.reg p9r2) p9c18
@[reducible] def p9c20 : PC := .seq (.reg p9r1) p9c19
@[reducible] def p9c21 : PC := .seq (.reg p9r0) p9c20
def p9 : PFun := ⟨p9c21, [(.t ⟨.a, .a, .a⟩)]⟩
@[simp] theorem p9_b : p9.body = p9c21 := rfl
@[simp] theorem p9_r : p9.res = [(.t ⟨.a, .a, .a⟩)] := rfl
theorem is9 : cFunB Try.prog 0 [] 9 = some p9 := by kernel_rfl
theorem na9 : ((Try.prog.funcs[9]?).map (·.ntmps)).any (0 ≤ ·) = true := by kernel_rfl
end Go.Proofs.Ytdkancgcefklfaa
