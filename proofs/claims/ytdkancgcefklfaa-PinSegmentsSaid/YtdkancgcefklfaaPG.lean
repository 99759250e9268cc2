/-
  How code over plain views is reckoned: each operation as a rule for simp; loops, calls, equality of structs as rules to be applied.
-/
import Derived.Test.YtdkancgcefklfaaPF
namespace Go.Proofs.Ytdkancgcefklfaa
open Go.RowKit

-- [eqs]
@[simp] theorem get_mk_a {α : Type} (z : α) (a b c d e f g h : α) : Oct.get z (.mk a b c d e f g h) .a = a := rfl
@[simp] theorem get_nil_a {α : Type} (z : α) : Oct.get z .nil .a = z := rfl
@[simp] theorem put_mk_a {α : Type} (z v : α) (a b c d e f g h : α) : Oct.put z v (.mk a b c d e f g h) .a = .mk v b c d e f g h := rfl
@[simp] theorem put_nil_a {α : Type} (z v : α) : Oct.put z v .nil .a = .mk v z z z z z z z := rfl
@[simp] theorem get_mk_b {α : Type} (z : α) (a b c d e f g h : α) : Oct.get z (.mk a b c d e f g h) .b = b := rfl
@[simp] theorem get_nil_b {α : Type} (z : α) : Oct.get z .nil .b = z := rfl
@[simp] theorem put_mk_b {α : Type} (z v : α) (a b c d e f g h : α) : Oct.put z v (.mk a b c d e f g h) .b = .mk a v c d e f g h := rfl
@[simp] theorem put_nil_b {α : Type} (z v : α) : Oct.put z v .nil .b = .mk z v z z z z z z := rfl
@[simp] theorem get_mk_c {α : Type} (z : α) (a b c d e f g h : α) : Oct.get z (.mk a b c d e f g h) .c = c := rfl
@[simp] theorem get_nil_c {α : Type} (z : α) : Oct.get z .nil .c = z := rfl
@[simp] theorem put_mk_c {α : Type} (z v : α) (a b c d e f g h : α) : Oct.put z v (.mk a b c d e f g h) .c = .mk a b v d e f g h := rfl
@[simp] theorem put_nil_c {α : Type} (z v : α) : Oct.put z v .nil .c = .mk z z v z z z z z := rfl
@[simp] theorem get_mk_d {α : Type} (z : α) (a b c d e f g h : α) : Oct.get z (.mk a b c d e f g h) .d = d := rfl
@[simp] theorem get_nil_d {α : Type} (z : α) : Oct.get z .nil .d = z := rfl
@[simp] theorem put_mk_d {α : Type} (z v : α) (a b c d e f g h : α) : Oct.put z v (.mk a b c d e f g h) .d = .mk a b c v e f g h := rfl
@[simp] theorem put_nil_d {α : Type} (z v : α) : Oct.put z v .nil .d = .mk z z z v z z z z := rfl
@[simp] theorem get_mk_e {α : Type} (z : α) (a b c d e f g h : α) : Oct.get z (.mk a b c d e f g h) .e = e := rfl
@[simp] theorem get_nil_e {α : Type} (z : α) : Oct.get z .nil .e = z := rfl
@[simp] theorem put_mk_e {α : Type} (z v : α) (a b c d e f g h : α) : Oct.put z v (.mk a b c d e f g h) .e = .mk a b c d v f g h := rfl
@[simp] theorem put_nil_e {α : Type} (z v : α) : Oct.put z v .nil .e = .mk z z z z v z z z := rfl
@[simp] theorem get_mk_f {α : Type} (z : α) (a b c d e f g h : α) : Oct.get z (.mk a b c d e f g h) .f = f := rfl
@[simp] theorem get_nil_f {α : Type} (z : α) : Oct.get z .nil .f = z := rfl
@[simp] theorem put_mk_f {α : Type} (z v : α) (a b c d e f g h : α) : Oct.put z v (.mk a b c d e f g h) .f = .mk a b c d e v g h := rfl
@[simp] theorem put_nil_f {α : Type} (z v : α) : Oct.put z v .nil .f = .mk z z z z z v z z := rfl
@[simp] theorem get_mk_g {α : Type} (z : α) (a b c d e f g h : α) : Oct.get z (.mk a b c d e f g h) .g = g := rfl
@[simp] theorem get_nil_g {α : Type} (z : α) : Oct.get z .nil .g = z := rfl
@[simp] theorem put_mk_g {α : Type} (z v : α) (a b c d e f g h : α) : Oct.put z v (.mk a b c d e f g h) .g = .mk a b c d e f v h := rfl
@[simp] theorem put_nil_g {α : Type} (z v : α) : Oct.put z v .nil .g = .mk z z z z z z v z := rfl
@[simp] theorem get_mk_h {α : Type} (z : α) (a b c d e f g h : α) : Oct.get z (.mk a b c d e f g h) .h = h := rfl
@[simp] theorem get_nil_h {α : Type} (z : α) : Oct.get z .nil .h = z := rfl
@[simp] theorem put_mk_h {α : Type} (z v : α) (a b c d e f g h : α) : Oct.put z v (.mk a b c d e f g h) .h = .mk a b c d e f g v := rfl
@[simp] theorem put_nil_h {α : Type} (z v : α) : Oct.put z v .nil .h = .mk z z z z z z z v := rfl
@[simp] theorem cells_v (x : Value) : PV.cells (.v x) = [(.v x)] := rfl
@[simp] theorem cellsOk_v (x : Value) : PV.cellsOk (.v x) = x.oneCell' := rfl
@[simp] theorem cell_v (x : Value) : PV.cell (.v x) = x.oneCell' := rfl
@[simp] theorem cells_sl (s : Nat) (es : List (List PV)) (o : Own) : PV.cells (.sl s es o) = [(.sl s es o)] := rfl
@[simp] theorem cellsOk_sl (s : Nat) (es : List (List PV)) (o : Own) : PV.cellsOk (.sl s es o) = true := rfl
@[simp] theorem cell_sl (s : Nat) (es : List (List PV)) (o : Own) : PV.cell (.sl s es o) = true := rfl
@[simp] theorem cells_fn (f : FuncId) (cs : List PV) : PV.cells (.fn f cs) = [(.fn f cs)] := rfl
@[simp] theorem cellsOk_fn (f : FuncId) (cs : List PV) : PV.cellsOk (.fn f cs) = true := rfl
@[simp] theorem cell_fn (f : FuncId) (cs : List PV) : PV.cell (.fn f cs) = true := rfl
@[simp] theorem cells_pt (cs : List PV) : PV.cells (.pt cs) = [(.pt cs)] := rfl
@[simp] theorem cellsOk_pt (cs : List PV) : PV.cellsOk (.pt cs) = true := rfl
@[simp] theorem cell_pt (cs : List PV) : PV.cell (.pt cs) = true := rfl
@[simp] theorem cells_pb (b o : Nat) : PV.cells (.pb b o) = [(.pb b o)] := rfl
@[simp] theorem cellsOk_pb (b o : Nat) : PV.cellsOk (.pb b o) = true := rfl
@[simp] theorem cell_pb (b o : Nat) : PV.cell (.pb b o) = true := rfl
@[simp] theorem cells_sb (b s o n : Nat) (c : Option Nat) : PV.cells (.sb b s o n c) = [(.sb b s o n c)] := rfl
@[simp] theorem cellsOk_sb (b s o n : Nat) (c : Option Nat) : PV.cellsOk (.sb b s o n c) = true := rfl
@[simp] theorem cell_sb (b s o n : Nat) (c : Option Nat) : PV.cell (.sb b s o n c) = true := rfl
@[simp] theorem cells_agg (cs : List PV) : PV.cells (.agg cs) = cs := rfl
@[simp] theorem cellsOk_agg (cs : List PV) : PV.cellsOk (.agg cs) = true := rfl
@[simp] theorem cell_agg (cs : List PV) : PV.cell (.agg cs) = false := rfl
@[simp] theorem cells_tup (cs : List PV) : PV.cells (.tup cs) = [(.tup cs)] := rfl
@[simp] theorem cellsOk_tup (cs : List PV) : PV.cellsOk (.tup cs) = false := rfl
@[simp] theorem cell_tup (cs : List PV) : PV.cell (.tup cs) = false := rfl
@[simp] theorem cells_bad : PV.cells .bad = [.bad] := rfl
@[simp] theorem cellsOk_bad : PV.cellsOk .bad = false := rfl
@[simp] theorem cell_bad : PV.cell .bad = false := rfl
@[simp] theorem one_int (k : IntKind) (n : Int) : Value.oneCell' (.int k n) = true := rfl
@[simp] theorem one_bool (x : Bool) : Value.oneCell' (.bool x) = true := rfl
@[simp] theorem one_str (x : ByteArray) : Value.oneCell' (.string x) = true := rfl
@[simp] theorem one_agg (x : Array Value) : Value.oneCell' (.agg x) = false := rfl
@[simp] theorem one_tup (x : Array Value) : Value.oneCell' (.tuple x) = false := rfl
@[simp] theorem one_nil : Value.oneCell' .nilFunc = true := rfl
@[simp] theorem one_nili : Value.oneCell' .nilIface = true := rfl
@[simp] theorem one_map (x : Option Nat) : Value.oneCell' (.map x) = true := rfl
@[simp] theorem sh1_none (s : Nat) (es : List (List PV)) : PV.sh1 (.sl s es .none) = (.sl s es .none) := rfl
@[simp] theorem shareC_none (bx : List (List PV)) (s : Nat) (es : List (List PV)) : shareC bx (.sl s es .none) = (.sl s es .none) := rfl
@[simp] theorem share_none (bx : List (List PV)) (s : Nat) (es : List (List PV)) : share bx (.sl s es .none) = (.sl s es .none) := rfl
@[simp] theorem expoC_none (bx : List (List PV)) (s : Nat) (es : List (List PV)) : expoC bx (.sl s es .none) = (.sl s es .none) := rfl
@[simp] theorem sh1_full (s : Nat) (es : List (List PV)) : PV.sh1 (.sl s es .full) = (.sl s es .none) := rfl
@[simp] theorem shareC_full (bx : List (List PV)) (s : Nat) (es : List (List PV)) : shareC bx (.sl s es .full) = (.sl s es .full) := rfl
@[simp] theorem share_full (bx : List (List PV)) (s : Nat) (es : List (List PV)) : share bx (.sl s es .full) = (.sl s es .full) := rfl
@[simp] theorem expoC_full (bx : List (List PV)) (s : Nat) (es : List (List PV)) : expoC bx (.sl s es .full) = (.sl s es .full) := rfl
@[simp] theorem sh1_id (s : Nat) (es : List (List PV)) (k : Nat) : PV.sh1 (.sl s es (.id k)) = (.sl s es .none) := rfl
@[simp] theorem shareC_id (bx : List (List PV)) (s : Nat) (es : List (List PV)) (k : Nat) : shareC bx (.sl s es (.id k)) = (.sl s es .none) := rfl
@[simp] theorem share_id (bx : List (List PV)) (s : Nat) (es : List (List PV)) (k : Nat) : share bx (.sl s es (.id k)) = (.sl s es .none) := rfl
@[simp] theorem expoC_id (bx : List (List PV)) (s : Nat) (es : List (List PV)) (k : Nat) : expoC bx (.sl s es (.id k)) = (.sl s es .none) := rfl
@[simp] theorem sh1_lent (s : Nat) (es : List (List PV)) : PV.sh1 (.sl s es .lent) = .bad := rfl
@[simp] theorem shareC_lent (bx : List (List PV)) (s : Nat) (es : List (List PV)) : shareC bx (.sl s es .lent) = (.sl s es .lent) := rfl
@[simp] theorem share_lent (bx : List (List PV)) (s : Nat) (es : List (List PV)) : share bx (.sl s es .lent) = (.sl s es .lent) := rfl
@[simp] theorem expoC_lent (bx : List (List PV)) (s : Nat) (es : List (List PV)) : expoC bx (.sl s es .lent) = .bad := rfl
@[simp] theorem sh1_v (x : Value) : PV.sh1 (.v x) = (.v x) := rfl
@[simp] theorem sh1_bad : PV.sh1 .bad = .bad := rfl
@[simp] theorem sh1_pt (cs : List PV) : PV.sh1 (.pt cs) = .bad := rfl
@[simp] theorem sh1_pb (b o : Nat) : PV.sh1 (.pb b o) = .bad := rfl
@[simp] theorem sh1_sb (b s o n : Nat) (k : Option Nat) : PV.sh1 (.sb b s o n k) = .bad := rfl
@[simp] theorem sh1_fn0 (f : FuncId) : PV.sh1 (.fn f []) = (.fn f []) := rfl
@[simp] theorem shareC_v (bx : List (List PV)) (x : Value) : shareC bx (.v x) = (.v x) := rfl
@[simp] theorem shareC_bad (bx : List (List PV)) : shareC bx .bad = .bad := rfl
@[simp] theorem shareC_pt (bx : List (List PV)) (cs : List PV) : shareC bx (.pt cs) = (.pt cs) := rfl
@[simp] theorem shareC_pb (bx : List (List PV)) (b o : Nat) : shareC bx (.pb b o) = (.pt (((bx.getD b []).drop o).map PV.sh1)) := rfl
@[simp] theorem shareC_sb (bx : List (List PV)) (b s o n : Nat) (k : Option Nat) : shareC bx (.sb b s o n k) = sbSl bx .lent b s o n := rfl
@[simp] theorem shareC_fn0 (bx : List (List PV)) (f : FuncId) : shareC bx (.fn f []) = (.fn f []) := rfl
@[simp] theorem share_v (bx : List (List PV)) (x : Value) : share bx (.v x) = (.v x) := rfl
@[simp] theorem share_bad (bx : List (List PV)) : share bx .bad = .bad := rfl
@[simp] theorem share_pt (bx : List (List PV)) (cs : List PV) : share bx (.pt cs) = (.pt cs) := rfl
@[simp] theorem share_pb (bx : List (List PV)) (b o : Nat) : share bx (.pb b o) = (.pt (((bx.getD b []).drop o).map PV.sh1)) := rfl
@[simp] theorem share_sb (bx : List (List PV)) (b s o n : Nat) (k : Option Nat) : share bx (.sb b s o n k) = sbSl bx .lent b s o n := rfl
@[simp] theorem share_fn (bx : List (List PV)) (f : FuncId) (cs : List PV) : share bx (.fn f cs) = (.fn f (cs.map (shareC bx))) := rfl
@[simp] theorem share_fs (bx : List (List PV)) (f : FuncId) (cs : List PV) : share bx (.fs f cs) = (.fs f (cs.map (shareC bx))) := rfl
@[simp] theorem mapS_fs (g : PV → PV) (f : FuncId) (cs : List PV) : mapS g (.fs f cs) = .fs f (cs.map g) := rfl
@[simp] theorem mapS_v (f : PV → PV) (x : Value) : mapS f (.v x) = f (.v x) := rfl
@[simp] theorem mapS_sl (f : PV → PV) (s : Nat) (es : List (List PV)) (o : Own) : mapS f (.sl s es o) = f (.sl s es o) := rfl
@[simp] theorem mapS_pt (f : PV → PV) (cs : List PV) : mapS f (.pt cs) = f (.pt cs) := rfl
@[simp] theorem mapS_pb (f : PV → PV) (b o : Nat) : mapS f (.pb b o) = f (.pb b o) := rfl
@[simp] theorem mapS_sb (f : PV → PV) (b s o n : Nat) (c : Option Nat) : mapS f (.sb b s o n c) = f (.sb b s o n c) := rfl
@[simp] theorem mapS_bad (f : PV → PV) : mapS f .bad = f .bad := rfl
@[simp] theorem mapS_agg (f : PV → PV) (cs : List PV) : mapS f (.agg cs) = .agg (cs.map f) := rfl
@[simp] theorem mapS_fn (f : PV → PV) (g : FuncId) (cs : List PV) : mapS f (.fn g cs) = .fn g (cs.map f) := rfl
@[simp] theorem share_agg (bx : List (List PV)) (cs : List PV) : share bx (.agg cs) = (.agg (cs.map (shareC bx))) := rfl
@[simp] theorem expoC_v (bx : List (List PV)) (x : Value) : expoC bx (.v x) = (.v x) := rfl
@[simp] theorem expoC_bad (bx : List (List PV)) : expoC bx .bad = .bad := rfl
@[simp] theorem expoC_pt (bx : List (List PV)) (cs : List PV) : expoC bx (.pt cs) = .bad := rfl
@[simp] theorem expoC_pb (bx : List (List PV)) (b o : Nat) : expoC bx (.pb b o) = (.pt (((bx.getD b []).drop o).map PV.sh1)) := rfl
@[simp] theorem expoC_sb (bx : List (List PV)) (b s o n : Nat) (k : Option Nat) : expoC bx (.sb b s o n k) = sbSl bx .none b s o n := rfl
@[simp] theorem expoC_fn0 (bx : List (List PV)) (f : FuncId) : expoC bx (.fn f []) = (.fn f []) := rfl
@[simp] theorem mapV_v (f : PV → PV) (x : Value) : mapV f (.v x) = f (.v x) := rfl
@[simp] theorem mapV_sl (f : PV → PV) (s : Nat) (es : List (List PV)) (o : Own) : mapV f (.sl s es o) = f (.sl s es o) := rfl
@[simp] theorem mapV_pt (f : PV → PV) (cs : List PV) : mapV f (.pt cs) = f (.pt cs) := rfl
@[simp] theorem mapV_pb (f : PV → PV) (b o : Nat) : mapV f (.pb b o) = f (.pb b o) := rfl
@[simp] theorem mapV_sb (f : PV → PV) (b s o n : Nat) (c : Option Nat) : mapV f (.sb b s o n c) = f (.sb b s o n c) := rfl
@[simp] theorem mapV_bad (f : PV → PV)  : mapV f .bad = f .bad := rfl
@[simp] theorem mapV_agg (f : PV → PV) (cs : List PV) : mapV f (.agg cs) = .agg (cs.map f) := rfl
@[simp] theorem mapV_fn (f : PV → PV) (g : FuncId) (cs : List PV) : mapV f (.fn g cs) = .fn g (cs.map f) := rfl
@[simp] theorem mapC_v (bs : List Nat) (f : PV → PV) (x : Value) : mapC bs f (.v x) = f (.v x) := rfl
@[simp] theorem renC_v (f : Nat → Nat) (x : Value) : renC f (.v x) = (.v x) := rfl
@[simp] theorem forgC_v (i : List Nat) (x : Value) : forgC i (.v x) = (.v x) := rfl
@[simp] theorem expoN_v (n0 : Nat) (bx : List (List PV)) (x : Value) : expoN n0 bx (.v x) = expoC bx (.v x) := rfl
@[simp] theorem mapC_sl (bs : List Nat) (f : PV → PV) (s : Nat) (es : List (List PV)) (o : Own) : mapC bs f (.sl s es o) = f (.sl s es o) := rfl
@[simp] theorem renC_sl (f : Nat → Nat) (s : Nat) (es : List (List PV)) (o : Own) : renC f (.sl s es o) = (.sl s es o) := rfl
@[simp] theorem forgC_sl (i : List Nat) (s : Nat) (es : List (List PV)) (o : Own) : forgC i (.sl s es o) = (.sl s es o) := rfl
@[simp] theorem expoN_sl (n0 : Nat) (bx : List (List PV)) (s : Nat) (es : List (List PV)) (o : Own) : expoN n0 bx (.sl s es o) = expoC bx (.sl s es o) := rfl
@[simp] theorem mapC_pt (bs : List Nat) (f : PV → PV) (cs : List PV) : mapC bs f (.pt cs) = f (.pt cs) := rfl
@[simp] theorem renC_pt (f : Nat → Nat) (cs : List PV) : renC f (.pt cs) = (.pt cs) := rfl
@[simp] theorem forgC_pt (i : List Nat) (cs : List PV) : forgC i (.pt cs) = (.pt cs) := rfl
@[simp] theorem expoN_pt (n0 : Nat) (bx : List (List PV)) (cs : List PV) : expoN n0 bx (.pt cs) = expoC bx (.pt cs) := rfl
@[simp] theorem mapC_bad (bs : List Nat) (f : PV → PV)  : mapC bs f .bad = f .bad := rfl
@[simp] theorem renC_bad (f : Nat → Nat)  : renC f .bad = .bad := rfl
@[simp] theorem forgC_bad (i : List Nat)  : forgC i .bad = .bad := rfl
@[simp] theorem expoN_bad (n0 : Nat) (bx : List (List PV))  : expoN n0 bx .bad = expoC bx .bad := rfl
@[simp] theorem mapC_fn (bs : List Nat) (f : PV → PV) (g : FuncId) (cs : List PV) : mapC bs f (.fn g cs) = f (.fn g cs) := rfl
@[simp] theorem mapC_agg (bs : List Nat) (f : PV → PV) (cs : List PV) : mapC bs f (.agg cs) = f (.agg cs) := rfl
@[simp] theorem renC_pb (f : Nat → Nat) (b o : Nat) : renC f (.pb b o) = .pb (f b) o := rfl
@[simp] theorem renC_sb (f : Nat → Nat) (b s o n : Nat) (c : Option Nat) : renC f (.sb b s o n c) = .sb (f b) s o n c := rfl
@[simp] theorem renC_fn0 (f : Nat → Nat) (g : FuncId) : renC f (.fn g []) = .fn g [] := rfl
@[simp] theorem forgC_fn0 (i : List Nat) (g : FuncId) : forgC i (.fn g []) = .fn g [] := rfl
@[simp] theorem expoN_fn (n0 : Nat) (bx : List (List PV)) (g : FuncId) (cs : List PV) : expoN n0 bx (.fn g cs) = expoC bx (.fn g cs) := rfl
@[simp] theorem expoN_pb (n0 : Nat) (bx : List (List PV)) (b o : Nat) : expoN n0 bx (.pb b o) = if n0 ≤ b then expoC bx (.pb b o) else .bad := rfl
@[simp] theorem expoN_sb (n0 : Nat) (bx : List (List PV)) (b s o n : Nat) (c : Option Nat) : expoN n0 bx (.sb b s o n c) = if n0 ≤ b then expoC bx (.sb b s o n c) else .bad := rfl
@[simp] theorem forgS_nil (s : Slots) : forgS [] s = s := rfl
@[simp] theorem forgS_cons (i : Nat) (r : List Nat) (s : Slots) : forgS (i :: r) s = s.forg (i :: r) := rfl
@[simp] theorem forgB_nil (bx : List (List PV)) : forgB [] bx = bx := rfl
@[simp] theorem forgB_cons (i : Nat) (r : List Nat) (bx : List (List PV)) : forgB (i :: r) bx = bx.map fun cs => cs.map (forgC (i :: r)) := rfl
@[simp] theorem forgC_pb (i : List Nat) (b o : Nat) : forgC i (.pb b o) = if b ∈ i then .bad else .pb b o := rfl
@[simp] theorem forgC_sb (i : List Nat) (b s o n : Nat) (c : Option Nat) : forgC i (.sb b s o n c) = if b ∈ i then .bad else .sb b s o n c := rfl
@[simp] theorem mapC_pb (bs : List Nat) (f : PV → PV) (b o : Nat) : mapC bs f (.pb b o) = (match posOf bs b with | some j => .pb j o | none => f (.pb b o)) := rfl
@[simp] theorem mapC_sb (bs : List Nat) (f : PV → PV) (b s o n : Nat) (c : Option Nat) : mapC bs f (.sb b s o n c) = (match posOf bs b with | some j => .sb j s o n c | none => f (.sb b s o n c)) := rfl
@[simp] theorem omap_nil {α β : Type} (f : α → β) : Oct.map f .nil = .nil := rfl
@[simp] theorem omap_mk {α β : Type} (f : α → β) (a b c d e g h i : α) : Oct.map f (.mk a b c d e g h i) = .mk (f a) (f b) (f c) (f d) (f e) (f g) (f h) (f i) := rfl
@[simp] theorem forg_eq (i : List Nat) (s : Slots) : Slots.forg i s = Oct.map (Oct.map (Oct.map (mapV (forgC i)))) s := rfl
@[simp] theorem posOf_nil (b : Nat) : posOf [] b = none := rfl
@[simp] theorem posOf_cons (x : Nat) (r : List Nat) (b : Nat) : posOf (x :: r) b = if x = b then some 0 else (posOf r b).map (· + 1) := rfl
@[simp] theorem backN_eq (bs : List Nat) (n j : Nat) : back bs n j = if j < bs.length then bs.getD j 0 else n + (j - bs.length) := rfl
@[simp] theorem setBx_cons (b : Nat) (bs : List Nat) (c : List PV) (cs bx : List (List PV)) : setBx (b :: bs) (c :: cs) bx = setBx bs cs (bx.set b c) := rfl
@[simp] theorem setBx_nil (cs bx : List (List PV)) : setBx [] cs bx = bx ++ cs := by cases cs <;> rfl
@[simp] theorem exV_eq (n0 : Nat) (ks : List Nat) (bx : List (List PV)) : exV n0 ks bx = mapV (exC n0 ks bx) := rfl
@[simp] theorem exC_eq (n0 : Nat) (ks : List Nat) (bx : List (List PV)) : exC n0 ks bx = mapC ks (expoN n0 bx) := rfl
@[simp] theorem chunk_0 (sz : Nat) (cs : List PV) : chunk sz 0 cs = [] := rfl
@[simp] theorem chunk_s (sz n : Nat) (cs : List PV) : chunk sz (n + 1) cs = cs.take sz :: chunk sz n (cs.drop sz) := rfl
@[simp] theorem dst_mov (d : Slot) (x : PO) : PI.dst (.mov d x) = some d := rfl
@[simp] theorem dst_pick (d : Slot) (x y z : PO) : PI.dst (.pick d x y z) = some d := rfl
@[simp] theorem dst_bld (d : Slot) (zs : List PV) (ps : List (Nat × Nat × PO)) : PI.dst (.bld d zs ps) = some d := rfl
@[simp] theorem dst_lit (d : Slot) (sz : Nat) (zs : List PV) (n : Nat) (ps : List (Nat × PO)) : PI.dst (.lit d sz zs n ps) = some d := rfl
@[simp] theorem dst_new (d : Slot) (zs : List PV) : PI.dst (.new d zs) = some d := rfl
@[simp] theorem dst_box (d : Slot) (x : PO) : PI.dst (.box d x) = some d := rfl
@[simp] theorem dst_ld (d : Slot) (n : Nat) (ag : Bool) (p : PO) : PI.dst (.ld d n ag p) = some d := rfl
@[simp] theorem dst_ar (d : Slot) (op : BinOp) (k : IntKind) (x y : PO) : PI.dst (.ar d op k x y) = some d := rfl
@[simp] theorem dst_dv (d : Slot) (op : BinOp) (k : IntKind) (x y : PO) : PI.dst (.dv d op k x y) = some d := rfl
@[simp] theorem dst_cmp (d : Slot) (op : BinOp) (x y : PO) : PI.dst (.cmp d op x y) = some d := rfl
@[simp] theorem dst_seq (d : Slot) (n : Bool) (x y : PO) : PI.dst (.seq d n x y) = some d := rfl
@[simp] theorem dst_beq (d : Slot) (n : Bool) (x y : PO) : PI.dst (.beq d n x y) = some d := rfl
@[simp] theorem dst_aeq (d : Slot) (n : Bool) (ks : List CK) (x y : PO) : PI.dst (.aeq d n ks x y) = some d := rfl
@[simp] theorem dst_cat (d : Slot) (x y : PO) : PI.dst (.cat d x y) = some d := rfl
@[simp] theorem dst_scmp (d : Slot) (op : BinOp) (x y : PO) : PI.dst (.scmp d op x y) = some d := rfl
@[simp] theorem dst_not (d : Slot) (x : PO) : PI.dst (.not d x) = some d := rfl
@[simp] theorem dst_cvi (d : Slot) (k : IntKind) (x : PO) : PI.dst (.cvi d k x) = some d := rfl
@[simp] theorem dst_cbs (d : Slot) (x : PO) : PI.dst (.cbs d x) = some d := rfl
@[simp] theorem dst_csb (d : Slot) (x : PO) : PI.dst (.csb d x) = some d := rfl
@[simp] theorem dst_fa (d : Slot) (p : PO) (o : Nat) : PI.dst (.fa d p o) = some d := rfl
@[simp] theorem dst_fld (d : Slot) (x : PO) (o n : Nat) (ag : Bool) : PI.dst (.fld d x o n ag) = some d := rfl
@[simp] theorem dst_ia (d : Slot) (x i : PO) (s : Nat) : PI.dst (.ia d x i s) = some d := rfl
@[simp] theorem dst_iap (d : Slot) (x i : PO) (s n : Nat) : PI.dst (.iap d x i s n) = some d := rfl
@[simp] theorem dst_ixs (d : Slot) (x i : PO) : PI.dst (.ixs d x i) = some d := rfl
@[simp] theorem dst_slc (d : Slot) (x : PO) (l h m : Option PO) (s : Nat) : PI.dst (.slc d x l h m s) = some d := rfl
@[simp] theorem dst_sls (d : Slot) (x : PO) (l h : Option PO) : PI.dst (.sls d x l h) = some d := rfl
@[simp] theorem dst_ext (d : Slot) (x : PO) (i : Nat) : PI.dst (.ext d x i) = some d := rfl
@[simp] theorem dst_len (d : Slot) (x : PO) : PI.dst (.len d x) = some d := rfl
@[simp] theorem dst_lns (d : Slot) (x : PO) : PI.dst (.lns d x) = some d := rfl
@[simp] theorem dst_mm (d : Slot) (m : Bool) (x y : PO) : PI.dst (.mm d m x y) = some d := rfl
@[simp] theorem dst_app (d : Slot) (s x : PO) (z b n : Nat) (e : TypeId) : PI.dst (.app d s x z b n e) = some d := rfl
@[simp] theorem dst_cap (d : Slot) (x : PO) : PI.dst (.cap d x) = some d := rfl
@[simp] theorem dst_sh (d : Slot) (op : BinOp) (k : IntKind) (x y : PO) : PI.dst (.sh d op k x y) = some d := rfl
@[simp] theorem dst_mks (d : Slot) (s b : Nat) (zs : List PV) (n c : PO) : PI.dst (.mks d s b zs n c) = some d := rfl
@[simp] theorem dst_cpy (d : Slot) (x y : PO) (s : Nat) : PI.dst (.cpy d x y s) = some d := rfl
@[simp] theorem dst_callm (d : Slot) (n : Nat) (f : FuncId) (xs : List PO) : PI.dst (.callm d n f xs) = some d := rfl
@[simp] theorem dst_calvm (d : Slot) (x : PO) (xs : List PO) : PI.dst (.calvm d x xs) = some d := rfl
@[simp] theorem dst_call (d : Slot) (f : FuncId) (xs : List PO) : PI.dst (.call d f xs) = some d := rfl
@[simp] theorem dst_calv (d : Slot) (x : PO) (xs : List PO) : PI.dst (.calv d x xs) = some d := rfl
@[simp] theorem dst_mkf (d : Slot) (f : FuncId) (xs : List PO) : PI.dst (.mkf d f xs) = some d := rfl
@[simp] theorem dst_clr (x : PO) (s : Nat) (zs : List PV) : PI.dst (.clr x s zs) = none := rfl
@[simp] theorem dst_st (p x : PO) (n : Nat) : PI.dst (.st p x n) = none := rfl
@[simp] theorem arRes_add (a b : Int) : arRes .add a b = a + b := rfl
@[simp] theorem arRes_sub (a b : Int) : arRes .sub a b = a - b := rfl
@[simp] theorem arRes_mul (a b : Int) : arRes .mul a b = a * b := rfl
-- [/eqs]

/-! ### reading plain values -/
def isI (k : IntKind) : PV → Prop
  | .v (.int j _) => j = k
  | _ => False
def isI' : PV → Prop
  | .v (.int _ _) => True
  | _ => False
def toI : PV → Int
  | .v (.int _ n) => n
  | _ => 0
def isB : PV → Prop
  | .v (.bool _) => True
  | _ => False
def toB : PV → Bool
  | .v (.bool b) => b
  | _ => false
def isS : PV → Prop
  | .v (.string _) => True
  | _ => False
def toS : PV → List UInt8
  | .v (.string s) => s.data.toList
  | _ => []
def isL : PV → Prop
  | .sl .. => True
  | _ => False
def toL : PV → List (List PV)
  | .sl _ es _ => es
  | _ => []
def szL (sz : Nat) : PV → Prop
  | .sl s es _ => s = sz ∨ es = []
  | _ => False
def szOf : PV → Nat
  | .sl s _ _ => s
  | _ => 0
@[simp] theorem isI_int (k j : IntKind) (n : Int) : isI k (.v (.int j n)) = (j = k) := rfl
@[simp] theorem isI'_int (j : IntKind) (n : Int) : isI' (.v (.int j n)) = True := rfl
@[simp] theorem toI_int (j : IntKind) (n : Int) : toI (.v (.int j n)) = n := rfl
@[simp] theorem isB_bool (b : Bool) : isB (.v (.bool b)) = True := rfl
@[simp] theorem toB_bool (b : Bool) : toB (.v (.bool b)) = b := rfl
@[simp] theorem isS_str (s : ByteArray) : isS (.v (.string s)) = True := rfl
@[simp] theorem toS_str (l : List UInt8) : toS (.v (.string ⟨l.toArray⟩)) = l := rfl
@[simp] theorem isL_sl (s : Nat) (es : List (List PV)) (o : Own) : isL (.sl s es o) = True := rfl
@[simp] theorem toL_sl (s : Nat) (es : List (List PV)) (o : Own) : toL (.sl s es o) = es := rfl
@[simp] theorem szOf_sl (s : Nat) (es : List (List PV)) (o : Own) : szOf (.sl s es o) = s := rfl
@[simp] theorem szL_sl (sz s : Nat) (es : List (List PV)) (o : Own) : szL sz (.sl s es o) = (s = sz ∨ es = []) := rfl
theorem isI_spec {k : IntKind} {p : PV} : isI k p ↔ ∃ a, p = .v (.int k a) := by
  unfold isI; split
  · simp
  · rename_i h
    refine ⟨fun h => h.elim, ?_⟩
    rintro ⟨a, rfl⟩
    exact h _ _ rfl
theorem isI'_spec {p : PV} : isI' p ↔ ∃ k a, p = .v (.int k a) := by
  unfold isI'; split
  · simp
  · rename_i h
    refine ⟨fun h => h.elim, ?_⟩
    rintro ⟨k, a, rfl⟩
    exact h _ _ rfl
theorem isB_spec {p : PV} : isB p ↔ ∃ a, p = .v (.bool a) := by
  unfold isB; split
  · simp
  · rename_i h
    refine ⟨fun h => h.elim, ?_⟩
    rintro ⟨a, rfl⟩
    exact h _ rfl
theorem isS_spec {p : PV} : isS p ↔ ∃ l : List UInt8, p = .str l := by
  unfold isS; split
  · rename_i s
    simp only [true_iff]
    exact ⟨s.data.toList, by simp⟩
  · rename_i h
    refine ⟨fun h => h.elim, ?_⟩
    rintro ⟨a, rfl⟩
    exact h _ rfl

section
variable {P : Program} {l : List GI} {st : St} {K : St → Prop}
@[simp] theorem get_mk (s : Slots) (x y z : Ix) : s.get ⟨x, y, z⟩ = Oct.get .bad (Oct.get .nil (Oct.get .nil s x) y) z := rfl
@[simp] theorem put_mk (s : Slots) (x y z : Ix) (v : PV) : s.put ⟨x, y, z⟩ v = Oct.put .nil (Oct.put .nil (Oct.put .bad v (Oct.get .nil (Oct.get .nil s x) y) z) (Oct.get .nil s x) y) s x := rfl
@[simp] theorem stput_mk (s : Slots) (bx : List (List PV)) (rw : List Nat) (d : Slot) (v : PV) : St.put ⟨s, bx, rw⟩ d v = ⟨s.put d v, bx, rw⟩ := rfl
@[simp] theorem ev_s (s : Slots) (bx : List (List PV)) (rw : List Nat) (i : Slot) : St.ev ⟨s, bx, rw⟩ (.s i) = s.get i := rfl
@[simp] theorem ev_k (v : PV) : st.ev (.k v) = v := rfl
@[simp] theorem runR_nil : runR P [] st K = K st := rfl
theorem runR_quiet {i : PI} {d : Slot} (ha : i.acts = false) (hd : i.dst = some d) : runR P (⟨none, i⟩ :: l) st K ↔ ∃ v, i.yields P st.ev st.bx v ∧ runR P l (st.put d v) K := by
  simp only [runR, GI.step, step_quiet ha, hd]
  constructor
  · rintro ⟨st', ⟨v, d', h1, h2, rfl⟩, h3⟩
    simp at h1; subst h1
    exact ⟨v, h2, h3⟩
  · rintro ⟨v, h2, h3⟩
    exact ⟨_, ⟨v, d, rfl, h2, rfl⟩, h3⟩
/-- what keeps simp out of the two sides of a choice: the type of this last argument names them -/
structure SelW (A B : Prop) : Type where
def sel (c : Bool) (A B : Prop) (_ : SelW A B) : Prop := match c with
  | true => A
  | false => B
@[congr] theorem runR_congr {P : Program} {l : List GI} {st st' : St} {K : St → Prop} (h : Unit → st = st') : runR P l st K = runR P l st' K := by rw [h ()]
@[simp] theorem sel_true (A B : Prop) (w : SelW A B) : sel true A B w = A := rfl
@[simp] theorem sel_false (A B : Prop) (w : SelW A B) : sel false A B w = B := rfl
/-- a choice whose condition is not known yet -/
def selP (p : Prop) (A B : Prop) (_ : SelW A B) : Prop := (p → A) ∧ (¬ p → B)
@[simp low] theorem sel_selP (c : Bool) (A B : Prop) (w : SelW A B) : sel c A B w = selP (c = true) A B w := by
  unfold selP; cases c <;> simp [sel]
@[simp] theorem selP_true (A B : Prop) (w : SelW A B) : selP True A B w = A := by simp [selP]
@[simp] theorem selP_false (A B : Prop) (w : SelW A B) : selP False A B w = B := by simp [selP]
@[simp] theorem selP_not (p A B : Prop) (w : SelW A B) : selP (¬ p) A B w = selP p B A ⟨⟩ := by
  unfold selP; apply propext; constructor
  · rintro ⟨h1, h2⟩; exact ⟨fun h => h2 (fun k => k h), h1⟩
  · rintro ⟨h1, h2⟩; exact ⟨h2, fun h => h1 (Classical.not_not.1 h)⟩
theorem selP_of {p A B : Prop} {w : SelW A B} (h1 : p → A) (h2 : ¬ p → B) : selP p A B w := ⟨h1, h2⟩
theorem selP_iff {p A B : Prop} {w : SelW A B} : selP p A B w ↔ (p → A) ∧ (¬ p → B) := Iff.rfl
def selV (c : Bool) (x y : PV) : PV := match c with
  | true => x
  | false => y
@[simp] theorem selV_true (x y : PV) : selV true x y = x := rfl
@[simp] theorem selV_false (x y : PV) : selV false x y = y := rfl
def St.skip (st : St) : Option Slot → St
  | some d => st.put d skp
  | none => st
@[simp] theorem skip_some (d : Slot) : st.skip (some d) = st.put d skp := rfl
@[simp] theorem skip_none : st.skip none = st := rfl
def isG (p : PV) : Prop := ∃ t, p = gB t
def gT (b : Bool) : PV → Bool
  | .v (.bool t) => t == b
  | _ => false
@[simp] theorem isG_bool (t : Bool) : isG (.v (.bool t)) = True := by simp only [eq_iff_iff, iff_true]; exact ⟨some t, rfl⟩
@[simp] theorem isG_skp : isG (.v (.tuple #[])) = True := by simp only [eq_iff_iff, iff_true]; exact ⟨none, rfl⟩
@[simp] theorem gT_bool (b t : Bool) : gT b (.v (.bool t)) = (t == b) := rfl
@[simp] theorem gT_skp (b : Bool) (x : Array Value) : gT b (.v (.tuple x)) = false := rfl
theorem gT_gB (b : Bool) (t : Option Bool) : gT b (gB t) = (t == some b) := by
  cases t with
  | none => rfl
  | some t => simp [gB, gT]
@[simp] theorem runR_guard {s : Slot} {b : Bool} {i : PI} : runR P (⟨some (s, b), i⟩ :: l) st K ↔ isG (st.s.get s) ∧ sel (gT b (st.s.get s)) (runR P (⟨none, i⟩ :: l) st K) (runR P l (st.skip i.dst) K) ⟨⟩ := by
  constructor
  · rintro ⟨st', ⟨t, h1, h2⟩, h3⟩
    refine ⟨⟨t, h1⟩, ?_⟩
    rw [h1, gT_gB]
    by_cases h : t = some b
    · rw [if_pos h] at h2
      subst h
      rw [beq_self_eq_true]
      exact ⟨st', h2, h3⟩
    · rw [if_neg h] at h2
      rw [show (t == some b) = false by simpa using h]
      subst h2; exact h3
  · rintro ⟨⟨t, h1⟩, h2⟩
    rw [h1, gT_gB] at h2
    by_cases h : t = some b
    · subst h
      rw [beq_self_eq_true] at h2
      obtain ⟨st', h3, h4⟩ := h2
      exact ⟨st', ⟨some b, h1, by rw [if_pos rfl]; exact h3⟩, h4⟩
    · rw [show (t == some b) = false by simpa using h] at h2
      exact ⟨_, ⟨t, h1, by rw [if_neg h]; rfl⟩, h2⟩
@[simp] theorem runR_mov (d : Slot) (x : PO) : runR P (⟨none, .mov d x⟩ :: l) st K ↔ runR P l (st.put d (st.ev x)) K := by
  rw [runR_quiet rfl rfl]; simp [PI.yields]
@[simp] theorem runR_pick (d : Slot) (c x y : PO) : runR P (⟨none, .pick d c x y⟩ :: l) st K ↔ isB (st.ev c) ∧ runR P l (st.put d (selV (toB (st.ev c)) (st.ev x) (st.ev y))) K := by
  rw [runR_quiet rfl rfl, isB_spec]
  constructor
  · rintro ⟨v, ⟨t, h1, rfl⟩, h2⟩
    refine ⟨⟨t, h1⟩, ?_⟩
    rw [h1]; cases t <;> exact h2
  · rintro ⟨⟨t, h1⟩, h2⟩
    rw [h1] at h2
    exact ⟨_, ⟨t, h1, rfl⟩, by cases t <;> exact h2⟩
/-- the cells that a load finds -/
def ldC (bx : List (List PV)) (n : Nat) : PV → List PV
  | .pt ds => ds.take n
  | .pb b off => ((bx.getD b []).drop off).take n
  | _ => []
def isP : PV → Prop
  | .pt _ => True
  | .pb _ _ => True
  | _ => False
@[simp] theorem ldC_pt (bx : List (List PV)) (n : Nat) (ds : List PV) : ldC bx n (.pt ds) = ds.take n := rfl
@[simp] theorem ldC_pb (bx : List (List PV)) (n b off : Nat) : ldC bx n (.pb b off) = ((bx.getD b []).drop off).take n := rfl
@[simp] theorem isP_pt (ds : List PV) : isP (.pt ds) = True := rfl
@[simp] theorem isP_pb (b off : Nat) : isP (.pb b off) = True := rfl
theorem runR_ld' (d : Slot) (n : Nat) (ag : Bool) (p : PO) (v : PV) (h1 : isP (st.ev p)) (h2 : (ldC st.bx n (st.ev p)).length = n) (h3 : if ag then v = .agg (ldC st.bx n (st.ev p)) else ldC st.bx n (st.ev p) = [v]) : PI.yields P st.ev st.bx (.ld d n ag p) v := by
  refine .inr ⟨_, ?_, h2, h3⟩
  unfold isP at h1
  split at h1
  · rename_i ds h; exact .inl ⟨ds, h, by rw [h]; rfl⟩
  · rename_i b off h; exact .inr ⟨b, off, h, by rw [h]; rfl⟩
  · exact h1.elim
@[simp] theorem runR_ldA (d : Slot) (n : Nat) (p : PO) : runR P (⟨none, .ld d n true p⟩ :: l) st K ↔ isP (st.ev p) ∧ (ldC st.bx n (st.ev p)).length = n ∧ runR P l (st.put d (.agg (ldC st.bx n (st.ev p)))) K := by
  rw [runR_quiet rfl rfl]
  constructor
  · rintro ⟨v, ⟨f, cs, _, h, _⟩ | ⟨cs, h1, h2, h3⟩, h5⟩
    · cases h
    · simp only [if_true] at h3; subst h3
      rcases h1 with ⟨ds, h4, rfl⟩ | ⟨b, off, h4, rfl⟩ <;> rw [h4] <;> exact ⟨trivial, h2, h5⟩
  · rintro ⟨h1, h2, h3⟩
    exact ⟨_, runR_ld' d n true p _ h1 h2 rfl, h3⟩
/-- an address of one cell, or of a function's cell -/
def isP1 : PV → Prop
  | .pt _ => True
  | .pb _ _ => True
  | .fp _ _ => True
  | _ => False
def ldC1 (bx : List (List PV)) : PV → List PV
  | .fp f cs => [.fn f cs]
  | p => ldC bx 1 p
@[simp] theorem isP1_pt (ds : List PV) : isP1 (.pt ds) = True := rfl
@[simp] theorem isP1_pb (b off : Nat) : isP1 (.pb b off) = True := rfl
@[simp] theorem isP1_fp (f : FuncId) (cs : List PV) : isP1 (.fp f cs) = True := rfl
@[simp] theorem ldC1_pt (bx : List (List PV)) (ds : List PV) : ldC1 bx (.pt ds) = ds.take 1 := rfl
@[simp] theorem ldC1_pb (bx : List (List PV)) (b off : Nat) : ldC1 bx (.pb b off) = ((bx.getD b []).drop off).take 1 := rfl
@[simp] theorem ldC1_fp (bx : List (List PV)) (f : FuncId) (cs : List PV) : ldC1 bx (.fp f cs) = [.fn f cs] := rfl
@[simp] theorem runR_ld1 (d : Slot) (p : PO) : runR P (⟨none, .ld d 1 false p⟩ :: l) st K ↔ isP1 (st.ev p) ∧ (ldC1 st.bx (st.ev p)).length = 1 ∧ runR P l (st.put d ((ldC1 st.bx (st.ev p)).headD .bad)) K := by
  rw [runR_quiet rfl rfl]
  constructor
  · rintro ⟨v, ⟨f, cs, _, _, h, rfl⟩ | ⟨cs, h1, h2, h3⟩, h5⟩
    · rw [h]; exact ⟨trivial, rfl, h5⟩
    · simp only [Bool.false_eq_true, if_false] at h3
      rcases h1 with ⟨ds, h4, rfl⟩ | ⟨b, off, h4, rfl⟩
      · rw [h4, isP1_pt, ldC1_pt, h3]; exact ⟨trivial, rfl, h5⟩
      · rw [h4, isP1_pb, ldC1_pb, h3]; exact ⟨trivial, rfl, h5⟩
  · rintro ⟨h1, h2, h3⟩
    unfold isP1 at h1
    split at h1
    · rename_i ds h
      rw [h, ldC1_pt] at h2 h3
      match hh : ds.take 1, h2 with
      | [x], _ => rw [hh] at h3; exact ⟨x, .inr ⟨_, .inl ⟨ds, h, rfl⟩, by rw [hh]; rfl, by simp only [Bool.false_eq_true, if_false]; exact hh⟩, h3⟩
    · rename_i b off h
      rw [h, ldC1_pb] at h2 h3
      match hh : ((st.bx.getD b []).drop off).take 1, h2 with
      | [x], _ => rw [hh] at h3; exact ⟨x, .inr ⟨_, .inr ⟨b, off, h, rfl⟩, by rw [hh]; rfl, by simp only [Bool.false_eq_true, if_false]; exact hh⟩, h3⟩
    · rename_i f cs h
      rw [h] at h3
      exact ⟨_, .inl ⟨f, cs, rfl, rfl, h, rfl⟩, h3⟩
    · exact h1.elim
theorem int2 {p q : PV} {k : IntKind} {F : Int → Int → Prop} : (∃ a b, p = .v (.int k a) ∧ q = .v (.int k b) ∧ F a b) ↔ isI k p ∧ isI k q ∧ F (toI p) (toI q) := by
  rw [isI_spec, isI_spec]
  constructor
  · rintro ⟨a, b, rfl, rfl, h⟩; exact ⟨⟨a, rfl⟩, ⟨b, rfl⟩, h⟩
  · rintro ⟨⟨a, rfl⟩, ⟨b, rfl⟩, h⟩; exact ⟨a, b, rfl, rfl, h⟩
@[simp] theorem runR_ar (d : Slot) (op : BinOp) (k : IntKind) (x y : PO) : runR P (⟨none, .ar d op k x y⟩ :: l) st K ↔ isI k (st.ev x) ∧ isI k (st.ev y) ∧ k.wrap (arRes op (toI (st.ev x)) (toI (st.ev y))) = arRes op (toI (st.ev x)) (toI (st.ev y)) ∧ runR P l (st.put d (.v (.int k (arRes op (toI (st.ev x)) (toI (st.ev y)))))) K := by
  rw [runR_quiet rfl rfl]
  constructor
  · rintro ⟨v, ⟨a, b, h1, h2, h3, rfl⟩, h4⟩
    rw [h1, h2]; exact ⟨rfl, rfl, h3, h4⟩
  · rintro ⟨h1, h2, h3, h4⟩
    obtain ⟨a, ha⟩ := isI_spec.1 h1
    obtain ⟨b, hb⟩ := isI_spec.1 h2
    rw [ha, hb] at h3 h4
    exact ⟨_, ⟨a, b, ha, hb, h3, rfl⟩, h4⟩
/-- quotient and remainder; simp leaves them alone -/
def quo (a b : Int) : Int := a.tdiv b
def rem (a b : Int) : Int := a.tmod b
@[simp] theorem runR_rem (d : Slot) (k : IntKind) (x y : PO) : runR P (⟨none, .dv d .rem k x y⟩ :: l) st K ↔ isI k (st.ev x) ∧ isI k (st.ev y) ∧ toI (st.ev y) ≠ 0 ∧ runR P l (st.put d (.v (.int k (rem (toI (st.ev x)) (toI (st.ev y)))))) K := by
  rw [runR_quiet rfl rfl]
  constructor
  · rintro ⟨v, ⟨a, b, h1, h2, h3, rfl⟩, h4⟩
    rw [h1, h2]; exact ⟨rfl, rfl, h3, h4⟩
  · rintro ⟨h1, h2, h3, h4⟩
    obtain ⟨a, ha⟩ := isI_spec.1 h1
    obtain ⟨b, hb⟩ := isI_spec.1 h2
    rw [ha, hb] at h4
    rw [hb] at h3
    exact ⟨_, ⟨a, b, ha, hb, h3, rfl⟩, h4⟩
@[simp] theorem runR_quo (d : Slot) (k : IntKind) (x y : PO) : runR P (⟨none, .dv d .quo k x y⟩ :: l) st K ↔ isI k (st.ev x) ∧ isI k (st.ev y) ∧ toI (st.ev y) ≠ 0 ∧ k.wrap (quo (toI (st.ev x)) (toI (st.ev y))) = quo (toI (st.ev x)) (toI (st.ev y)) ∧ runR P l (st.put d (.v (.int k (quo (toI (st.ev x)) (toI (st.ev y)))))) K := by
  rw [runR_quiet rfl rfl]
  constructor
  · rintro ⟨v, ⟨a, b, h1, h2, h3, h4, rfl⟩, h5⟩
    rw [h1, h2]; exact ⟨rfl, rfl, h3, h4, h5⟩
  · rintro ⟨h1, h2, h3, h4, h5⟩
    obtain ⟨a, ha⟩ := isI_spec.1 h1
    obtain ⟨b, hb⟩ := isI_spec.1 h2
    rw [ha, hb] at h4 h5
    rw [hb] at h3
    exact ⟨_, ⟨a, b, ha, hb, h3, h4, rfl⟩, h5⟩
-- [cmp]
@[simp] theorem cmpRes_eql (a b : Int) : cmpRes .eql a b = decide (a = b) := rfl
@[simp] theorem cmpRes_neq (a b : Int) : cmpRes .neq a b = !decide (a = b) := rfl
@[simp] theorem cmpRes_lss (a b : Int) : cmpRes .lss a b = decide (a < b) := rfl
@[simp] theorem cmpRes_leq (a b : Int) : cmpRes .leq a b = decide (a ≤ b) := rfl
@[simp] theorem cmpRes_gtr (a b : Int) : cmpRes .gtr a b = decide (b < a) := rfl
@[simp] theorem cmpRes_geq (a b : Int) : cmpRes .geq a b = decide (b ≤ a) := rfl
@[simp] theorem scmpRes_lss (a b : List UInt8) : scmpRes .lss a b = Op.bytesLess a b := rfl
@[simp] theorem scmpRes_leq (a b : List UInt8) : scmpRes .leq a b = (Op.bytesLess a b || a == b) := rfl
@[simp] theorem scmpRes_gtr (a b : List UInt8) : scmpRes .gtr a b = !(Op.bytesLess a b || a == b) := rfl
@[simp] theorem scmpRes_geq (a b : List UInt8) : scmpRes .geq a b = !Op.bytesLess a b := rfl
-- [/cmp]
/-- two integers of one kind -/
def sameI : PV → PV → Prop
  | .v (.int k _), .v (.int k' _) => k = k'
  | _, _ => False
@[simp] theorem sameI_int (k k' : IntKind) (a b : Int) : sameI (.v (.int k a)) (.v (.int k' b)) = (k = k') := rfl
theorem sameI_spec {p q : PV} : sameI p q ↔ ∃ k a b, p = .v (.int k a) ∧ q = .v (.int k b) := by
  unfold sameI; split
  · rename_i k a k' b
    constructor
    · rintro rfl; exact ⟨_, _, _, rfl, rfl⟩
    · rintro ⟨k2, a2, b2, h1, h2⟩
      cases h1; cases h2; rfl
  · rename_i h
    refine ⟨fun h => h.elim, ?_⟩
    rintro ⟨k, a, b, rfl, rfl⟩
    exact h _ _ _ _ rfl rfl
@[simp] theorem runR_cmp (d : Slot) (op : BinOp) (x y : PO) : runR P (⟨none, .cmp d op x y⟩ :: l) st K ↔ sameI (st.ev x) (st.ev y) ∧ runR P l (st.put d (.v (.bool (cmpRes op (toI (st.ev x)) (toI (st.ev y)))))) K := by
  rw [runR_quiet rfl rfl, sameI_spec]
  constructor
  · rintro ⟨v, ⟨k, a, b, h1, h2, rfl⟩, h3⟩
    rw [h1, h2]
    exact ⟨⟨k, a, b, rfl, rfl⟩, h3⟩
  · rintro ⟨⟨k, a, b, h1, h2⟩, h3⟩
    rw [h1, h2] at h3
    exact ⟨_, ⟨k, a, b, h1, h2, rfl⟩, h3⟩
/-- a proposition as a Bool -/
noncomputable def dec (p : Prop) : Bool := @decide p (Classical.propDecidable p)
@[simp] theorem dec_eq (p : Prop) [h : Decidable p] : dec p = decide p := by
  unfold dec; cases h <;> simp_all
theorem dec_iff (p : Prop) : dec p = true ↔ p := by unfold dec; simp
@[simp] theorem runR_seq (d : Slot) (neg : Bool) (x y : PO) : runR P (⟨none, .seq d neg x y⟩ :: l) st K ↔ isS (st.ev x) ∧ isS (st.ev y) ∧ runR P l (st.put d (.v (.bool (neg != decide (toS (st.ev x) = toS (st.ev y)))))) K := by
  rw [runR_quiet rfl rfl]
  constructor
  · rintro ⟨v, ⟨a, b, h1, h2, rfl⟩, h3⟩
    rw [h1, h2]
    exact ⟨trivial, trivial, h3⟩
  · rintro ⟨h1, h2, h3⟩
    obtain ⟨a, ha⟩ := isS_spec.1 h1
    obtain ⟨b, hb⟩ := isS_spec.1 h2
    rw [ha, hb] at h3
    exact ⟨_, ⟨a, b, ha, hb, rfl⟩, h3⟩
@[simp] theorem runR_beq (d : Slot) (neg : Bool) (x y : PO) : runR P (⟨none, .beq d neg x y⟩ :: l) st K ↔ isB (st.ev x) ∧ isB (st.ev y) ∧ runR P l (st.put d (.v (.bool (neg != (toB (st.ev x) == toB (st.ev y)))))) K := by
  rw [runR_quiet rfl rfl]
  constructor
  · rintro ⟨v, ⟨a, b, h1, h2, rfl⟩, h3⟩
    rw [h1, h2]
    exact ⟨trivial, trivial, by simpa [Bool.beq_eq_decide_eq] using h3⟩
  · rintro ⟨h1, h2, h3⟩
    obtain ⟨a, ha⟩ := isB_spec.1 h1
    obtain ⟨b, hb⟩ := isB_spec.1 h2
    rw [ha, hb] at h3
    exact ⟨_, ⟨a, b, ha, hb, rfl⟩, by simpa [Bool.beq_eq_decide_eq] using h3⟩
@[simp] theorem runR_cat (d : Slot) (x y : PO) : runR P (⟨none, .cat d x y⟩ :: l) st K ↔ isS (st.ev x) ∧ isS (st.ev y) ∧ (toS (st.ev x)).length + (toS (st.ev y)).length ≤ 9223372036854775807 ∧ runR P l (st.put d (.v (.string ⟨(toS (st.ev x) ++ toS (st.ev y)).toArray⟩))) K := by
  rw [runR_quiet rfl rfl]
  constructor
  · rintro ⟨v, ⟨a, b, h1, h2, h3, rfl⟩, h4⟩
    rw [h1, h2]; exact ⟨trivial, trivial, h3, h4⟩
  · rintro ⟨h1, h2, h3, h4⟩
    obtain ⟨a, ha⟩ := isS_spec.1 h1
    obtain ⟨b, hb⟩ := isS_spec.1 h2
    rw [ha, hb] at h3 h4
    exact ⟨_, ⟨a, b, ha, hb, h3, rfl⟩, h4⟩
@[simp] theorem runR_scmp (d : Slot) (op : BinOp) (x y : PO) : runR P (⟨none, .scmp d op x y⟩ :: l) st K ↔ isS (st.ev x) ∧ isS (st.ev y) ∧ runR P l (st.put d (.v (.bool (scmpRes op (toS (st.ev x)) (toS (st.ev y)))))) K := by
  rw [runR_quiet rfl rfl]
  constructor
  · rintro ⟨v, ⟨a, b, h1, h2, rfl⟩, h3⟩
    rw [h1, h2]
    exact ⟨trivial, trivial, h3⟩
  · rintro ⟨h1, h2, h3⟩
    obtain ⟨a, ha⟩ := isS_spec.1 h1
    obtain ⟨b, hb⟩ := isS_spec.1 h2
    rw [ha, hb] at h3
    exact ⟨_, ⟨a, b, ha, hb, rfl⟩, h3⟩
@[simp] theorem runR_not (d : Slot) (x : PO) : runR P (⟨none, .not d x⟩ :: l) st K ↔ isB (st.ev x) ∧ runR P l (st.put d (.v (.bool (!toB (st.ev x))))) K := by
  rw [runR_quiet rfl rfl, isB_spec]
  constructor
  · rintro ⟨v, ⟨a, h1, rfl⟩, h2⟩
    rw [h1]; exact ⟨⟨a, rfl⟩, h2⟩
  · rintro ⟨⟨a, h1⟩, h2⟩
    rw [h1] at h2
    exact ⟨_, ⟨a, h1, rfl⟩, h2⟩
@[simp] theorem runR_cvi (d : Slot) (k : IntKind) (x : PO) : runR P (⟨none, .cvi d k x⟩ :: l) st K ↔ isI' (st.ev x) ∧ runR P l (st.put d (.v (.int k (k.wrap (toI (st.ev x)))))) K := by
  rw [runR_quiet rfl rfl, isI'_spec]
  constructor
  · rintro ⟨v, ⟨j, a, h1, rfl⟩, h2⟩
    rw [h1]; exact ⟨⟨j, a, rfl⟩, h2⟩
  · rintro ⟨⟨j, a, h1⟩, h2⟩
    rw [h1] at h2
    exact ⟨_, ⟨j, a, h1, rfl⟩, h2⟩
/-- the texts of bytes -/
theorem runR_cbs {d : Slot} {x : PO} {s : Nat} {es : List (List PV)} {o : Own} (t : List UInt8) (h1 : st.ev x = .sl s es o) (h2 : s = 1 ∨ es = []) (h3 : unB es = some t) (h : runR P l (st.put d (.v (.string ⟨t.toArray⟩))) K) : runR P (⟨none, .cbs d x⟩ :: l) st K := by
  rw [runR_quiet rfl rfl]
  exact ⟨_, ⟨s, es, o, t, h1, h2, h3, rfl⟩, h⟩
@[simp] theorem runR_csb (d : Slot) (x : PO) : runR P (⟨none, .csb d x⟩ :: l) st K ↔ isS (st.ev x) ∧ (toS (st.ev x)).length ≤ 4611686018427387904 ∧ runR P l (st.put d (.sl 1 ((toS (st.ev x)).map fun c => [.v (.int .u8 c.toNat)]) .none)) K := by
  rw [runR_quiet rfl rfl]
  constructor
  · rintro ⟨v, ⟨a, h1, h2, rfl⟩, h3⟩
    rw [h1]; exact ⟨trivial, h2, h3⟩
  · rintro ⟨h1, h2, h3⟩
    obtain ⟨a, ha⟩ := isS_spec.1 h1
    rw [ha] at h2 h3
    exact ⟨_, ⟨a, ha, h2, rfl⟩, h3⟩
/-- an address further on -/
def addP (k : Nat) : PV → PV
  | .pt ds => .pt (ds.drop k)
  | .pb b o => .pb b (o + k)
  | _ => .bad
@[simp] theorem addP_pt (k : Nat) (ds : List PV) : addP k (.pt ds) = .pt (ds.drop k) := rfl
@[simp] theorem addP_pb (k b o : Nat) : addP k (.pb b o) = .pb b (o + k) := rfl
@[simp] theorem runR_fa (d : Slot) (p : PO) (off : Nat) : runR P (⟨none, .fa d p off⟩ :: l) st K ↔ isP (st.ev p) ∧ runR P l (st.put d (addP off (st.ev p))) K := by
  rw [runR_quiet rfl rfl]
  constructor
  · rintro ⟨v, h, h2⟩
    rcases h with ⟨ds, h1, rfl⟩ | ⟨b, o, h1, rfl⟩ <;> rw [h1] <;> exact ⟨trivial, h2⟩
  · rintro ⟨h1, h2⟩
    unfold isP at h1
    split at h1
    · rename_i ds h; rw [h] at h2; exact ⟨_, .inl ⟨ds, h, rfl⟩, h2⟩
    · rename_i b o h; rw [h] at h2; exact ⟨_, .inr ⟨b, o, h, rfl⟩, h2⟩
    · exact h1.elim
def isA : PV → Prop
  | .agg _ => True
  | _ => False
def toA : PV → List PV
  | .agg cs => cs
  | _ => []
@[simp] theorem isA_agg (cs : List PV) : isA (.agg cs) = True := rfl
@[simp] theorem toA_agg (cs : List PV) : toA (.agg cs) = cs := rfl
theorem isA_spec {p : PV} (h : isA p) : p = .agg (toA p) := by
  unfold isA at h; split at h
  · rfl
  · exact h.elim
@[simp] theorem runR_fldA (d : Slot) (x : PO) (off n : Nat) : runR P (⟨none, .fld d x off n true⟩ :: l) st K ↔ isA (st.ev x) ∧ off + n ≤ (toA (st.ev x)).length ∧ runR P l (st.put d (.agg (((toA (st.ev x)).drop off).take n))) K := by
  rw [runR_quiet rfl rfl]
  constructor
  · rintro ⟨v, ⟨cs, h1, h2, h3⟩, h4⟩
    simp only [if_true] at h3; subst h3
    rw [h1]; exact ⟨trivial, h2, h4⟩
  · rintro ⟨h1, h2, h3⟩
    exact ⟨_, ⟨_, isA_spec h1, h2, rfl⟩, h3⟩
@[simp] theorem runR_fld1 (d : Slot) (x : PO) (off : Nat) : runR P (⟨none, .fld d x off 1 false⟩ :: l) st K ↔ isA (st.ev x) ∧ off + 1 ≤ (toA (st.ev x)).length ∧ runR P l (st.put d ((toA (st.ev x)).getD off .bad)) K := by
  rw [runR_quiet rfl rfl]
  have key : ∀ (cs : List PV), off + 1 ≤ cs.length → (cs.drop off).take 1 = [cs.getD off .bad] := fun cs h => by
    rw [List.drop_eq_getElem_cons (by omega), List.take_succ_cons, List.take_zero, List.getD_eq_getElem?_getD, List.getElem?_eq_getElem (by omega)]; rfl
  constructor
  · rintro ⟨v, ⟨cs, h1, h2, h3⟩, h4⟩
    simp only [Bool.false_eq_true, if_false] at h3
    rw [key cs h2] at h3
    simp only [List.cons.injEq, and_true] at h3
    rw [h1]
    refine ⟨trivial, h2, ?_⟩
    rw [toA_agg, h3]; exact h4
  · rintro ⟨h1, h2, h3⟩
    exact ⟨_, ⟨_, isA_spec h1, h2, by simp only [Bool.false_eq_true, if_false]; exact key _ h2⟩, h3⟩
/-- an element's place in a slice -/
def iaOk (sz : Nat) (n : Int) : PV → Prop
  | .sl s es _ => (s = sz ∨ es = []) ∧ 0 ≤ n ∧ n < es.length
  | .sb _ s _ m _ => s = sz ∧ 0 ≤ n ∧ n < m
  | .fs _ _ => sz = 1 ∧ n = 0
  | _ => False
def iaP (sz k : Nat) : PV → PV
  | .sl _ es _ => .pt (es.getD k [])
  | .sb b _ off _ _ => .pb b (off + k * sz)
  | .fs f cs => .fp f cs
  | _ => .bad
@[simp] theorem iaOk_fs (sz : Nat) (n : Int) (f : FuncId) (cs : List PV) : iaOk sz n (.fs f cs) = (sz = 1 ∧ n = 0) := rfl
@[simp] theorem iaP_fs (sz k : Nat) (f : FuncId) (cs : List PV) : iaP sz k (.fs f cs) = .fp f cs := rfl
@[simp] theorem iaOk_sl (sz s : Nat) (n : Int) (es : List (List PV)) (o : Own) : iaOk sz n (.sl s es o) = ((s = sz ∨ es = []) ∧ 0 ≤ n ∧ n < es.length) := rfl
@[simp] theorem iaOk_sb (sz b s off m : Nat) (n : Int) (c : Option Nat) : iaOk sz n (.sb b s off m c) = (s = sz ∧ 0 ≤ n ∧ n < m) := rfl
@[simp] theorem iaP_sl (sz k s : Nat) (es : List (List PV)) (o : Own) : iaP sz k (.sl s es o) = .pt (es.getD k []) := rfl
@[simp] theorem iaP_sb (sz k b s off m : Nat) (c : Option Nat) : iaP sz k (.sb b s off m c) = .pb b (off + k * sz) := rfl
/-- an index as a number; simp leaves it alone -/
def nat (i : Int) : Nat := i.toNat
@[simp] theorem runR_ia (d : Slot) (x i : PO) (sz : Nat) : runR P (⟨none, .ia d x i sz⟩ :: l) st K ↔ isI' (st.ev i) ∧ iaOk sz (toI (st.ev i)) (st.ev x) ∧ runR P l (st.put d (iaP sz (nat (toI (st.ev i))) (st.ev x))) K := by
  rw [runR_quiet rfl rfl, isI'_spec]
  constructor
  · rintro ⟨v, ⟨s, es, o, k, n, h1, h2, h3, h4, h5, rfl⟩ | ⟨b, off, m, c, k, n, h1, h2, h3, h4, rfl⟩ | ⟨f, cs, k, h1, h2, h3, rfl⟩, h6⟩
    · rw [h1, h2]; exact ⟨⟨k, n, rfl⟩, ⟨h3, h4, h5⟩, h6⟩
    · rw [h1, h2]; exact ⟨⟨k, n, rfl⟩, ⟨rfl, h3, h4⟩, h6⟩
    · rw [h1, h2]; exact ⟨⟨k, 0, rfl⟩, ⟨h3, rfl⟩, h6⟩
  · rintro ⟨⟨k, n, h1⟩, h2, h5⟩
    rw [h1] at h2 h5
    unfold iaOk at h2
    split at h2
    · rename_i s es o h
      rw [h] at h5
      exact ⟨_, .inl ⟨s, es, o, k, n, h, h1, h2.1, h2.2.1, h2.2.2, rfl⟩, h5⟩
    · rename_i b s off m c h
      rw [h] at h5
      obtain ⟨rfl, h3, h4⟩ := h2
      exact ⟨_, .inr (.inl ⟨b, off, m, c, k, n, h, h1, h3, h4, rfl⟩), h5⟩
    · rename_i f cs h
      rw [h] at h5
      obtain ⟨rfl, rfl⟩ := h2
      exact ⟨_, .inr (.inr ⟨f, cs, k, h, h1, rfl, rfl⟩), h5⟩
    · exact h2.elim
@[simp] theorem runR_iap (d : Slot) (x i : PO) (sz n : Nat) : runR P (⟨none, .iap d x i sz n⟩ :: l) st K ↔ isI' (st.ev i) ∧ isP (st.ev x) ∧ (0 ≤ toI (st.ev i) ∧ toI (st.ev i) < n) ∧ runR P l (st.put d (addP ((toI (st.ev i)).toNat * sz) (st.ev x))) K := by
  rw [runR_quiet rfl rfl, isI'_spec]
  constructor
  · rintro ⟨v, ⟨k, m, h1, h2, h3, h⟩, h6⟩
    rw [h1]
    rcases h with ⟨ds, h4, rfl⟩ | ⟨b, o, h4, rfl⟩ <;> rw [h4] <;> exact ⟨⟨k, m, rfl⟩, trivial, ⟨h2, h3⟩, h6⟩
  · rintro ⟨⟨k, m, h1⟩, h2, ⟨h3, h4⟩, h5⟩
    rw [h1] at h3 h4 h5
    unfold isP at h2
    split at h2
    · rename_i ds h; rw [h] at h5; exact ⟨_, ⟨k, m, h1, h3, h4, .inl ⟨ds, h, rfl⟩⟩, h5⟩
    · rename_i b o h; rw [h] at h5; exact ⟨_, ⟨k, m, h1, h3, h4, .inr ⟨b, o, h, rfl⟩⟩, h5⟩
    · exact h2.elim
@[simp] theorem runR_ixs (d : Slot) (x i : PO) : runR P (⟨none, .ixs d x i⟩ :: l) st K ↔ isI' (st.ev i) ∧ isS (st.ev x) ∧ (0 ≤ toI (st.ev i) ∧ toI (st.ev i) < (toS (st.ev x)).length) ∧ runR P l (st.put d (.v (.int .u8 (((toS (st.ev x)).getD (nat (toI (st.ev i))) 0).toNat)))) K := by
  rw [runR_quiet rfl rfl, isI'_spec]
  constructor
  · rintro ⟨v, ⟨t, k, n, h1, h2, h3, h4, rfl⟩, h6⟩
    rw [h1, h2]; exact ⟨⟨k, n, rfl⟩, trivial, ⟨h3, h4⟩, h6⟩
  · rintro ⟨⟨k, n, h1⟩, h2, ⟨h3, h4⟩, h5⟩
    obtain ⟨a, ha⟩ := isS_spec.1 h2
    rw [ha, h1] at h4 h5
    rw [h1] at h3
    exact ⟨_, ⟨a, k, n, ha, h1, h3, h4, rfl⟩, h5⟩
def isN : PV → Prop
  | .sl .. => True
  | .sb .. => True
  | .fs .. => True
  | _ => False
def lenP : PV → Nat
  | .sl _ es _ => es.length
  | .sb _ _ _ n _ => n
  | .fs _ _ => 1
  | _ => 0
@[simp] theorem isN_fs (f : FuncId) (cs : List PV) : isN (.fs f cs) = True := rfl
@[simp] theorem lenP_fs (f : FuncId) (cs : List PV) : lenP (.fs f cs) = 1 := rfl
@[simp] theorem isN_sl (s : Nat) (es : List (List PV)) (o : Own) : isN (.sl s es o) = True := rfl
@[simp] theorem isN_sb (b s off m : Nat) (c : Option Nat) : isN (.sb b s off m c) = True := rfl
@[simp] theorem lenP_sl (s : Nat) (es : List (List PV)) (o : Own) : lenP (.sl s es o) = es.length := rfl
@[simp] theorem lenP_sb (b s off m : Nat) (c : Option Nat) : lenP (.sb b s off m c) = m := rfl
@[simp] theorem runR_len (d : Slot) (x : PO) : runR P (⟨none, .len d x⟩ :: l) st K ↔ isN (st.ev x) ∧ runR P l (st.put d (.v (.int .i64 (lenP (st.ev x))))) K := by
  rw [runR_quiet rfl rfl]
  constructor
  · rintro ⟨v, ⟨s, es, o, h1, rfl⟩ | ⟨b, s, off, n, c, h1, rfl⟩ | ⟨f, cs, h1, rfl⟩, h3⟩ <;> rw [h1] <;> exact ⟨trivial, h3⟩
  · rintro ⟨h1, h2⟩
    unfold isN at h1
    split at h1
    · rename_i s es o h; rw [h] at h2; exact ⟨_, .inl ⟨s, es, o, h, rfl⟩, h2⟩
    · rename_i b s off n c h; rw [h] at h2; exact ⟨_, .inr (.inl ⟨b, s, off, n, c, h, rfl⟩), h2⟩
    · rename_i f cs h; rw [h] at h2; exact ⟨_, .inr (.inr ⟨f, cs, h, rfl⟩), h2⟩
    · exact h1.elim
def isCap : PV → Prop
  | .sl _ _ .full => True
  | .sb _ _ _ _ (some _) => True
  | _ => False
def capP : PV → Nat
  | .sl _ es _ => es.length
  | .sb _ _ _ _ (some c) => c
  | _ => 0
@[simp] theorem isCap_sl (s : Nat) (es : List (List PV)) : isCap (.sl s es .full) = True := rfl
@[simp] theorem isCap_sb (b s off m c : Nat) : isCap (.sb b s off m (some c)) = True := rfl
@[simp] theorem capP_sl (s : Nat) (es : List (List PV)) : capP (.sl s es .full) = es.length := rfl
@[simp] theorem capP_sb (b s off m c : Nat) : capP (.sb b s off m (some c)) = c := rfl
@[simp] theorem runR_cap (d : Slot) (x : PO) : runR P (⟨none, .cap d x⟩ :: l) st K ↔ isCap (st.ev x) ∧ runR P l (st.put d (.v (.int .i64 (capP (st.ev x))))) K := by
  rw [runR_quiet rfl rfl]
  constructor
  · rintro ⟨v, ⟨s, es, h1, rfl⟩ | ⟨b, s, off, n, c, h1, rfl⟩, h3⟩ <;> rw [h1] <;> exact ⟨trivial, h3⟩
  · rintro ⟨h1, h2⟩
    unfold isCap at h1
    split at h1
    · rename_i s es h; rw [h] at h2; exact ⟨_, .inl ⟨s, es, h, rfl⟩, h2⟩
    · rename_i b s off n c h; rw [h] at h2; exact ⟨_, .inr ⟨b, s, off, n, c, h, rfl⟩, h2⟩
    · exact h1.elim
/-- shifts -/
def shRes (op : BinOp) (k : IntKind) (a b : Int) : Int := match op with
  | .shl => k.wrap (a * 2 ^ b.toNat)
  | _ => a.fdiv (2 ^ b.toNat)
@[simp] theorem shRes_shl (k : IntKind) (a b : Int) : shRes .shl k a b = k.wrap (a * 2 ^ b.toNat) := rfl
@[simp] theorem shRes_shr (k : IntKind) (a b : Int) : shRes .shr k a b = a.fdiv (2 ^ b.toNat) := rfl
@[simp] theorem runR_sh (d : Slot) (op : BinOp) (k : IntKind) (x y : PO) : runR P (⟨none, .sh d op k x y⟩ :: l) st K ↔ isI k (st.ev x) ∧ isI' (st.ev y) ∧ 0 ≤ toI (st.ev y) ∧ (toI (st.ev y)).toNat ≤ k.bits ∧ runR P l (st.put d (.v (.int k (shRes op k (toI (st.ev x)) (toI (st.ev y)))))) K := by
  rw [runR_quiet rfl rfl, isI_spec, isI'_spec]
  constructor
  · rintro ⟨v, ⟨j, a, b, h1, h2, h3, h4, h5⟩, h6⟩
    rw [h1, h2]
    refine ⟨⟨a, rfl⟩, ⟨j, b, rfl⟩, h3, h4, ?_⟩
    have : v = .v (.int k (shRes op k a b)) := by cases op <;> exact h5
    rw [this] at h6; exact h6
  · rintro ⟨⟨a, h1⟩, ⟨j, b, h2⟩, h3, h4, h5⟩
    rw [h1, h2] at h5
    rw [h2] at h3 h4
    refine ⟨_, ⟨j, a, b, h1, h2, h3, h4, ?_⟩, h5⟩
    cases op <;> rfl
@[simp] theorem runR_lns (d : Slot) (x : PO) : runR P (⟨none, .lns d x⟩ :: l) st K ↔ isS (st.ev x) ∧ runR P l (st.put d (.v (.int .i64 (toS (st.ev x)).length))) K := by
  rw [runR_quiet rfl rfl]
  constructor
  · rintro ⟨v, ⟨a, h1, rfl⟩, h3⟩
    rw [h1]; exact ⟨trivial, h3⟩
  · rintro ⟨h1, h2⟩
    obtain ⟨a, ha⟩ := isS_spec.1 h1
    rw [ha] at h2
    exact ⟨_, ⟨a, ha, rfl⟩, h2⟩
@[simp] theorem runR_mm (d : Slot) (mx : Bool) (x y : PO) : runR P (⟨none, .mm d mx x y⟩ :: l) st K ↔ (∃ k, isI k (st.ev x) ∧ isI k (st.ev y) ∧ runR P l (st.put d (.v (.int k (if mx then max (toI (st.ev x)) (toI (st.ev y)) else min (toI (st.ev x)) (toI (st.ev y)))))) K) := by
  rw [runR_quiet rfl rfl]
  constructor
  · rintro ⟨v, ⟨k, a, b, h1, h2, rfl⟩, h3⟩
    rw [h1, h2]; exact ⟨k, rfl, rfl, h3⟩
  · rintro ⟨k, h1, h2, h3⟩
    obtain ⟨a, ha⟩ := isI_spec.1 h1
    obtain ⟨b, hb⟩ := isI_spec.1 h2
    rw [ha, hb] at h3
    exact ⟨_, ⟨k, a, b, ha, hb, rfl⟩, h3⟩
def isT : PV → Prop
  | .tup _ => True
  | _ => False
def toT : PV → List PV
  | .tup cs => cs
  | _ => []
@[simp] theorem isT_tup (cs : List PV) : isT (.tup cs) = True := rfl
@[simp] theorem toT_tup (cs : List PV) : toT (.tup cs) = cs := rfl
@[simp] theorem runR_ext (d : Slot) (x : PO) (i : Nat) : runR P (⟨none, .ext d x i⟩ :: l) st K ↔ isT (st.ev x) ∧ i < (toT (st.ev x)).length ∧ runR P l (st.put d ((toT (st.ev x)).getD i .bad)) K := by
  rw [runR_quiet rfl rfl]
  constructor
  · rintro ⟨v, ⟨cs, h1, h2⟩, h3⟩
    rw [h1]
    refine ⟨trivial, (List.getElem?_eq_some_iff.1 h2).1, ?_⟩
    rw [toT_tup, List.getD_eq_getElem?_getD, h2]; exact h3
  · rintro ⟨h1, h2, h3⟩
    unfold isT at h1
    split at h1
    · rename_i cs h
      rw [h] at h2 h3
      rw [toT_tup] at h2 h3
      rw [List.getD_eq_getElem?_getD, List.getElem?_eq_getElem h2] at h3
      exact ⟨_, ⟨cs, h, List.getElem?_eq_getElem h2⟩, h3⟩
    · exact h1.elim
@[simp] theorem runR_mkf (d : Slot) (f : FuncId) (xs : List PO) : runR P (⟨none, .mkf d f xs⟩ :: l) st K ↔ runR P l (st.put d (.fn f (xs.map st.ev))) K := by
  rw [runR_quiet rfl rfl]; simp [PI.yields]
@[simp] theorem runR_bld (d : Slot) (zs : List PV) (ps : List (Nat × Nat × PO)) : runR P (⟨none, .bld d zs ps⟩ :: l) st K ↔ (fillP st.ev ps zs).isSome ∧ runR P l (st.put d (.agg ((fillP st.ev ps zs).getD []))) K := by
  rw [runR_quiet rfl rfl]
  constructor
  · rintro ⟨v, ⟨cs, h1, rfl⟩, h2⟩
    rw [h1]; exact ⟨rfl, h2⟩
  · rintro ⟨h1, h2⟩
    obtain ⟨cs, hc⟩ := Option.isSome_iff_exists.1 h1
    rw [hc] at h2
    exact ⟨_, ⟨cs, hc, rfl⟩, h2⟩
theorem runR_lit0 (d : Slot) (sz : Nat) (zs : List PV) (n : Nat) (ps : List (Nat × PO)) (hz : zs ≠ [.v .nilFunc] ∨ n ≠ 1) : runR P (⟨none, .lit d sz zs n ps⟩ :: l) st K ↔ (fillE st.ev sz ps (List.replicate n zs)).isSome ∧ runR P l (st.put d (.sl sz ((fillE st.ev sz ps (List.replicate n zs)).getD []) .full)) K := by
  rw [runR_quiet rfl rfl]
  constructor
  · rintro ⟨v, ⟨cs, _, h1, rfl⟩ | ⟨x, f, cs, h3, _, h4, _⟩, h2⟩
    · rw [h1]; exact ⟨rfl, h2⟩
    · exact absurd h4 (hz.resolve_left (fun h => h h3))
  · rintro ⟨h1, h2⟩
    obtain ⟨cs, hc⟩ := Option.isSome_iff_exists.1 h1
    rw [hc] at h2
    exact ⟨_, .inl ⟨cs, hz, hc, rfl⟩, h2⟩
@[simp] theorem runR_lit (d : Slot) (sz : Nat) (zs : List PV) (n : Nat) (ps : List (Nat × PO)) (hz : zs ≠ [.v .nilFunc]) : runR P (⟨none, .lit d sz zs n ps⟩ :: l) st K ↔ (fillE st.ev sz ps (List.replicate n zs)).isSome ∧ runR P l (st.put d (.sl sz ((fillE st.ev sz ps (List.replicate n zs)).getD []) .full)) K := runR_lit0 d sz zs n ps (.inl hz)
/-- a slice of one function -/
theorem runR_litF {d : Slot} {x : PO} {f : FuncId} {cs : List PV} (h : st.ev x = .fn f cs) (hr : runR P l (st.put d (.fs f cs)) K) : runR P (⟨none, .lit d 1 [.v .nilFunc] 1 [(0, x)]⟩ :: l) st K := by
  rw [runR_quiet rfl rfl]
  exact ⟨_, .inr ⟨x, f, cs, rfl, rfl, rfl, rfl, h, rfl⟩, hr⟩
attribute [simp] fillP fillE setAt
@[simp] theorem runR_new (d : Slot) (zs : List PV) : runR P (⟨none, .new d zs⟩ :: l) st K ↔ runR P l ⟨st.s.put d (.pb st.bx.length 0), st.bx ++ [zs], st.rw⟩ K := by
  simp only [runR, GI.step, PI.step, exists_eq_left]
@[simp] theorem runR_box (d : Slot) (x : PO) : runR P (⟨none, .box d x⟩ :: l) st K ↔ (st.ev x).cellsOk = true ∧ runR P l ⟨st.s.put d (.pb st.bx.length 0), st.bx ++ [(st.ev x).cells], st.rw⟩ K := by
  simp only [runR, GI.step, PI.step]
  constructor
  · rintro ⟨st', ⟨h1, rfl⟩, h2⟩; exact ⟨h1, h2⟩
  · rintro ⟨h1, h2⟩; exact ⟨_, ⟨h1, rfl⟩, h2⟩
def isPb : PV → Prop
  | .pb _ _ => True
  | _ => False
def pbB : PV → Nat
  | .pb b _ => b
  | _ => 0
def pbO : PV → Nat
  | .pb _ o => o
  | _ => 0
@[simp] theorem isPb_pb (b o : Nat) : isPb (.pb b o) = True := rfl
@[simp] theorem pbB_pb (b o : Nat) : pbB (.pb b o) = b := rfl
@[simp] theorem pbO_pb (b o : Nat) : pbO (.pb b o) = o := rfl
/-- cells written where an address leads -/
def setP (old : List PV) (p : PV) (cs : List PV) : List PV := setAt old (pbO p) cs
@[simp] theorem setP_pb (old : List PV) (b off : Nat) (cs : List PV) : setP old (.pb b off) cs = setAt old off cs := rfl
@[simp] theorem runR_st (p x : PO) (n : Nat) : runR P (⟨none, .st p x n⟩ :: l) st K ↔ isPb (st.ev p) ∧ pbB (st.ev p) < st.bx.length ∧ (st.ev x).cellsOk = true ∧ (st.ev x).cells.length = n ∧ pbO (st.ev p) + n ≤ (st.bx.getD (pbB (st.ev p)) []).length ∧
    runR P l ⟨st.s, st.bx.set (pbB (st.ev p)) (setP (st.bx.getD (pbB (st.ev p)) []) (st.ev p) (st.ev x).cells), st.rw⟩ K := by
  unfold setP
  simp only [runR, GI.step, PI.step]
  constructor
  · rintro ⟨st', ⟨b, off, old, h1, h2, h3, h4, h5, rfl⟩, h6⟩
    have hb := (List.getElem?_eq_some_iff.1 h2).1
    have hd : st.bx.getD b [] = old := by rw [List.getD_eq_getElem?_getD, h2]; rfl
    rw [h1]
    simp only [pbB_pb, pbO_pb, hd]
    exact ⟨trivial, hb, h3, h4, h5, h6⟩
  · rintro ⟨h1, h2, h3, h4, h5, h6⟩
    unfold isPb at h1
    split at h1
    · rename_i b off h
      rw [h] at h2 h5 h6
      simp only [pbB_pb, pbO_pb] at h2 h5 h6
      have hd : st.bx[b]? = some (st.bx.getD b []) := by rw [List.getD_eq_getElem?_getD, List.getElem?_eq_getElem h2]; rfl
      exact ⟨_, ⟨b, off, _, h, hd, h3, h4, h5, rfl⟩, h6⟩
    · exact h1.elim
/-- the elements that append takes -/
theorem runR_apf {d : Slot} {s x : PO} {sz bytes n0 : Nat} {e : TypeId} {s1 : Nat} {es ds : List (List PV)} (h1 : st.ev s = .sl s1 es .full) (h2 : elems st.bx sz (st.ev x) = some ds) (h3 : s1 = sz ∨ es = []) (hb : (es.length + ds.length) * bytes ≤ 140737488355328) (h63 : es.length + ds.length ≤ 9223372036854775807)
    (hr : runR P l ⟨st.s.put d (.sl sz (es ++ ds) (.id st.rw.length)), st.bx, st.rw ++ [es.length + ds.length]⟩ K) : runR P (⟨none, .app d s x sz bytes n0 e⟩ :: l) st K :=
  ⟨_, ⟨ds, h2, .inl ⟨s1, es, _, h1, hb, h63, .inl ⟨rfl, h3, rfl⟩⟩⟩, hr⟩
theorem runR_api {d : Slot} {s x : PO} {sz bytes n0 k : Nat} {e : TypeId} {es ds : List (List PV)} (h1 : st.ev s = .sl sz es (.id k)) (h2 : elems st.bx sz (st.ev x) = some ds) (h3 : st.rw[k]? = some es.length) (hb : (es.length + ds.length) * bytes ≤ 140737488355328) (h63 : es.length + ds.length ≤ 9223372036854775807)
    (hr : runR P l ⟨st.s.put d (.sl sz (es ++ ds) (.id k)), st.bx, st.rw.set k (es.length + ds.length)⟩ K) : runR P (⟨none, .app d s x sz bytes n0 e⟩ :: l) st K :=
  ⟨_, ⟨ds, h2, .inl ⟨sz, es, _, h1, hb, h63, .inr (.inl ⟨k, rfl, rfl, h3, rfl⟩)⟩⟩, hr⟩
theorem runR_apn {d : Slot} {s x : PO} {sz bytes n0 : Nat} {e : TypeId} {s1 : Nat} {es ds : List (List PV)} (h1 : st.ev s = .sl s1 es .full) (h2 : elems st.bx sz (st.ev x) = some ds) (h3 : s1 = sz ∨ es = []) (h4 : ds ≠ []) (hb : (es.length + ds.length) * bytes ≤ 140737488355328) (h63 : es.length + ds.length ≤ 9223372036854775807)
    (hr : runR P l ⟨st.s.put d (.sb st.bx.length sz 0 (es.length + ds.length) none), st.bx ++ [(es ++ ds).flatten], st.rw⟩ K) : runR P (⟨none, .app d s x sz bytes n0 e⟩ :: l) st K :=
  ⟨_, ⟨ds, h2, .inl ⟨s1, es, _, h1, hb, h63, .inr (.inr ⟨rfl, h3, h4, rfl⟩)⟩⟩, hr⟩
theorem runR_apr {d : Slot} {s x : PO} {sz bytes n0 b off n k : Nat} {e : TypeId} {ds : List (List PV)} {old : List PV} (h1 : st.ev s = .sb b sz off n (some k)) (h2 : elems st.bx sz (st.ev x) = some ds) (h3 : st.bx[b]? = some old) (h4 : n + ds.length ≤ k) (h5 : off + (n + ds.length) * sz ≤ old.length) (hb : (n + ds.length) * bytes ≤ 140737488355328) (h63 : n + ds.length ≤ 9223372036854775807)
    (hr : runR P l ⟨st.s.put d (.sb b sz off (n + ds.length) (some k)), st.bx.set b (setAt old (off + n * sz) ds.flatten), st.rw⟩ K) : runR P (⟨none, .app d s x sz bytes n0 e⟩ :: l) st K :=
  ⟨_, ⟨ds, h2, .inr ⟨b, off, n, _, old, h1, h3, hb, h63, .inl ⟨k, rfl, h4, h5, rfl⟩⟩⟩, hr⟩
theorem runR_apg {d : Slot} {s x : PO} {sz bytes n0 b off n k : Nat} {e : TypeId} {ds : List (List PV)} {old : List PV} (h1 : st.ev s = .sb b sz off n (some k)) (h2 : elems st.bx sz (st.ev x) = some ds) (h3 : st.bx[b]? = some old) (h4 : k < n + ds.length) (h5 : off + n * sz ≤ old.length) (hb : (n + ds.length) * bytes ≤ 140737488355328) (h63 : n + ds.length ≤ 9223372036854775807)
    (hr : runR P l ⟨st.s.put d (.sb st.bx.length sz 0 (n + ds.length) none), st.bx ++ [(old.drop off).take (n * sz) ++ ds.flatten], st.rw⟩ K) : runR P (⟨none, .app d s x sz bytes n0 e⟩ :: l) st K :=
  ⟨_, ⟨ds, h2, .inr ⟨b, off, n, _, old, h1, h3, hb, h63, .inr (.inl ⟨k, rfl, h4, h5, rfl⟩)⟩⟩, hr⟩
theorem runR_apm {d : Slot} {s x : PO} {sz bytes n0 b n : Nat} {c : Option Nat} {e : TypeId} {ds : List (List PV)} {old : List PV} (h1 : st.ev s = .sb b sz 0 n c) (h2 : elems st.bx sz (st.ev x) = some ds) (h3 : st.bx[b]? = some old) (h4 : n0 ≤ b) (h5 : old.length = n * sz) (hb : (n + ds.length) * bytes ≤ 140737488355328) (h63 : n + ds.length ≤ 9223372036854775807)
    (hr : runR P l ⟨(st.s.forg [b]).put d (.sb b sz 0 (n + ds.length) none), (st.bx.map fun cs => cs.map (forgC [b])).set b (old.map (forgC [b]) ++ ds.flatten), st.rw⟩ K) : runR P (⟨none, .app d s x sz bytes n0 e⟩ :: l) st K :=
  ⟨_, ⟨ds, h2, .inr ⟨b, 0, n, c, old, h1, h3, hb, h63, .inr (.inr ⟨h4, rfl, h5, rfl⟩)⟩⟩, hr⟩
theorem runR_mks {d : Slot} {sz bytes : Nat} {zs : List PV} {x y : PO} {k k' : IntKind} {N C : Nat} (h1 : st.ev x = .v (.int k N)) (h2 : st.ev y = .v (.int k' C)) (h3 : N ≤ C) (h4 : C * bytes ≤ 140737488355328) (h5 : C ≤ 140737488355328)
    (hr : runR P l ⟨st.s.put d (.sb st.bx.length sz 0 N (some C)), st.bx ++ [(List.replicate C zs).flatten], st.rw⟩ K) : runR P (⟨none, .mks d sz bytes zs x y⟩ :: l) st K :=
  ⟨_, ⟨k, k', N, C, h1, h2, by omega, by omega, by simpa using h4, by omega, rfl⟩, hr⟩
theorem runR_cpy {d : Slot} {x y : PO} {sz b off n : Nat} {c : Option Nat} {ds : List (List PV)} {old : List PV} (h1 : st.ev x = .sb b sz off n c) (h2 : elems st.bx sz (st.ev y) = some ds) (h3 : st.bx[b]? = some old) (h4 : off + (min n ds.length) * sz ≤ old.length)
    (hr : runR P l ⟨st.s.put d (.v (.int .i64 (min n ds.length : Nat))), st.bx.set b (setAt old off (ds.take n).flatten), st.rw⟩ K) : runR P (⟨none, .cpy d x y sz⟩ :: l) st K :=
  ⟨_, ⟨ds, h2, .inr ⟨b, off, n, c, old, h1, h3, h4, rfl⟩⟩, hr⟩
theorem runR_cp0 {d : Slot} {x y : PO} {sz s : Nat} {o : Own} {ds : List (List PV)} (h1 : st.ev x = .sl s [] o) (h2 : elems st.bx sz (st.ev y) = some ds) (hr : runR P l (st.put d (.v (.int .i64 0))) K) : runR P (⟨none, .cpy d x y sz⟩ :: l) st K :=
  ⟨_, ⟨ds, h2, .inl ⟨s, o, h1, rfl⟩⟩, hr⟩
theorem runR_clr {x : PO} {sz b off n : Nat} {zs : List PV} {c : Option Nat} {old : List PV} (h1 : st.ev x = .sb b sz off n c) (h3 : st.bx[b]? = some old) (h4 : off + n * sz ≤ old.length) (hr : runR P l ⟨st.s, st.bx.set b (setAt old off (List.replicate n zs).flatten), st.rw⟩ K) : runR P (⟨none, .clr x sz zs⟩ :: l) st K :=
  ⟨_, .inr ⟨b, off, n, c, old, h1, h3, h4, rfl⟩, hr⟩
theorem runR_cl0 {x : PO} {sz s : Nat} {zs : List PV} {o : Own} (h1 : st.ev x = .sl s [] o) (hr : runR P l st K) : runR P (⟨none, .clr x sz zs⟩ :: l) st K :=
  ⟨_, .inl ⟨s, o, h1, rfl⟩, hr⟩
theorem runR_slb {d : Slot} {x : PO} {lo hi : Option PO} {sz b off m : Nat} {c : Option Nat} (p q : Nat) (h1 : st.ev x = .sb b sz off m c) (h2 : highB st.ev m c hi q) (h3 : lowOf st.ev q lo p) (h4 : p < m ∨ ∃ k, c = some k ∧ p < k)
    (hr : runR P l (st.put d (.sb b sz (off + p * sz) (q - p) (c.map (· - p)))) K) : runR P (⟨none, .slc d x lo hi none sz⟩ :: l) st K := by
  rw [runR_quiet rfl rfl]
  exact ⟨_, .inr ⟨b, off, m, c, p, q, h1, rfl, h2, h3, .inl ⟨h4, rfl⟩⟩, hr⟩
theorem runR_sl0 {d : Slot} {x : PO} {lo hi : Option PO} {sz b off m : Nat} {c : Option Nat} (p : Nat) (h1 : st.ev x = .sb b sz off m c) (h2 : highB st.ev m c hi p) (h3 : lowOf st.ev p lo p)
    (hr : runR P l (st.put d (.sl sz [] .none)) K) : runR P (⟨none, .slc d x lo hi none sz⟩ :: l) st K := by
  rw [runR_quiet rfl rfl]
  exact ⟨_, .inr ⟨b, off, m, c, p, p, h1, rfl, h2, h3, .inr ⟨rfl, rfl⟩⟩, hr⟩
/-- a call that lends boxes bs; those at us are used up -/
theorem runR_callm {d : Slot} {n0 : Nat} {f : FuncId} {xs : List PO} (bs us : List Nat) {r : PV} {bx0 bx1 : List (List PV)} {args : List PV} (h : PCallsB P f us bx0 args r bx1) (hn : bs.Nodup) (hb : ∀ b ∈ bs, b < st.bx.length) (hl : bs.length ≤ bx1.length) (hu : ∀ j ∈ us, ∃ b, bs[j]? = some b ∧ n0 ≤ b)
    (hx : (bs.map fun b => (st.bx.getD b []).map (mapC bs (shareC st.bx))) = bx0) (ha : (xs.map fun x => mapS (mapC bs (shareC st.bx)) (st.ev x)) = args)
    (hr : runR P l ⟨(forgS (us.map (bs.getD · 0)) st.s).put d (mapV (renC (back bs st.bx.length)) r), setBx bs (bx1.map fun cs => cs.map (renC (back bs st.bx.length))) (forgB (us.map (bs.getD · 0)) st.bx), st.rw⟩ K) : runR P (⟨none, .callm d n0 f xs⟩ :: l) st K :=
  ⟨_, ⟨bs, us, r, bx1, hn, hb, hl, hu, by rw [hx, ha]; exact h, rfl⟩, hr⟩
theorem runR_calvm {d : Slot} {x : PO} {f : FuncId} {cs : List PV} {xs : List PO} (bs : List Nat) {r : PV} {bx0 bx1 : List (List PV)} {args : List PV} (h1 : st.ev x = .fn f cs) (hok : callOk P f = true) (h : PCallsB P f [] bx0 args r bx1) (hn : bs.Nodup) (hb : ∀ b ∈ bs, b < st.bx.length) (hl : bs.length ≤ bx1.length)
    (hx : (bs.map fun b => (st.bx.getD b []).map (mapC bs (shareC st.bx))) = bx0) (ha : (xs.map fun x => mapS (mapC bs (shareC st.bx)) (st.ev x)) ++ cs.map (mapC bs (shareC st.bx)) = args)
    (hr : runR P l ⟨st.s.put d (mapV (renC (back bs st.bx.length)) r), setBx bs (bx1.map fun cs => cs.map (renC (back bs st.bx.length))) st.bx, st.rw⟩ K) : runR P (⟨none, .calvm d x xs⟩ :: l) st K :=
  ⟨_, ⟨f, cs, bs, r, bx1, h1, hok, hn, hb, hl, by rw [hx, ha]; exact h, rfl⟩, hr⟩
/-- a call: what it returns is to be named -/
def runC (P : Program) (f : FuncId) (args : List PV) (d : Slot) (l : List GI) (st : St) (K : St → Prop) : Prop := ∃ v, PCalls P f args v ∧ runR P l (st.put d v) K
theorem runC_of {f : FuncId} {args : List PV} {d : Slot} {v : PV} (h : PCalls P f args v) (hr : runR P l (st.put d v) K) : runC P f args d l st K := ⟨v, h, hr⟩
@[simp] theorem runR_call (d : Slot) (f : FuncId) (xs : List PO) : runR P (⟨none, .call d f xs⟩ :: l) st K ↔ runC P f (xs.map fun x => share st.bx (st.ev x)) d l st K := by
  rw [runR_quiet rfl rfl]; rfl
def isF (P : Program) : PV → Prop
  | .fn f _ => callOk P f = true
  | _ => False
def fnF : PV → FuncId
  | .fn f _ => f
  | _ => 0
def fnC : PV → List PV
  | .fn _ cs => cs
  | _ => []
@[simp] theorem isF_fn (f : FuncId) (cs : List PV) : isF P (.fn f cs) = (callOk P f = true) := rfl
@[simp] theorem fnF_fn (f : FuncId) (cs : List PV) : fnF (.fn f cs) = f := rfl
@[simp] theorem fnC_fn (f : FuncId) (cs : List PV) : fnC (.fn f cs) = cs := rfl
@[simp] theorem runR_calv (d : Slot) (x : PO) (xs : List PO) : runR P (⟨none, .calv d x xs⟩ :: l) st K ↔ isF P (st.ev x) ∧ runC P (fnF (st.ev x)) (xs.map (fun x => share st.bx (st.ev x)) ++ (fnC (st.ev x)).map (shareC st.bx)) d l st K := by
  rw [runR_quiet rfl rfl]
  constructor
  · rintro ⟨v, ⟨f, cs, h1, h2, h3⟩, h4⟩
    rw [h1]; exact ⟨h2, v, h3, h4⟩
  · rintro ⟨h1, v, h2, h3⟩
    unfold isF at h1
    split at h1
    · rename_i f cs h
      rw [h] at h2
      exact ⟨v, ⟨f, cs, h, h1, h2⟩, h3⟩
    · exact h1.elim
@[simp] theorem kOk_nil : kOk [] [] = True := rfl
@[simp] theorem kOk_i (k j : IntKind) (n : Int) (ks : List CK) (cs : List PV) : kOk (.i k :: ks) (.v (.int j n) :: cs) = (j = k ∧ kOk ks cs) := rfl
@[simp] theorem kOk_b (x : Bool) (ks : List CK) (cs : List PV) : kOk (.b :: ks) (.v (.bool x) :: cs) = kOk ks cs := rfl
@[simp] theorem kOk_s (x : ByteArray) (ks : List CK) (cs : List PV) : kOk (.s :: ks) (.v (.string x) :: cs) = kOk ks cs := rfl
/-- equality of flat structs -/
@[simp] theorem runR_aeq (d : Slot) (neg : Bool) (ks : List CK) (x y : PO) : runR P (⟨none, .aeq d neg ks x y⟩ :: l) st K ↔ isA (st.ev x) ∧ isA (st.ev y) ∧ kOk ks (toA (st.ev x)) ∧ kOk ks (toA (st.ev y)) ∧ runR P l (st.put d (.v (.bool (neg != dec (toA (st.ev x) = toA (st.ev y)))))) K := by
  rw [runR_quiet rfl rfl]
  constructor
  · rintro ⟨v, ⟨a, b, c, h1, h2, h3, h4, h5, rfl⟩, h6⟩
    rw [h1, h2]
    refine ⟨trivial, trivial, h3, h4, ?_⟩
    have : dec (a = b) = c := by
      rw [Bool.eq_iff_iff, dec_iff]; exact h5.symm
    rw [toA_agg, toA_agg, this]; exact h6
  · rintro ⟨h1, h2, h3, h4, h5⟩
    exact ⟨_, ⟨_, _, dec (toA (st.ev x) = toA (st.ev y)), isA_spec h1, isA_spec h2, h3, h4, dec_iff _, rfl⟩, h5⟩
/-- cuts -/
theorem runR_slc {d : Slot} {x : PO} {lo hi mx : Option PO} {sz s : Nat} {es : List (List PV)} {o : Own} (a b : Nat) (o' : Own) (h1 : st.ev x = .sl s es o) (h2 : s = sz ∨ es = []) (h3 : highOf st.ev es.length hi b) (h4 : lowOf st.ev b lo a) (h5 : maxOf st.ev es b o o' mx)
    (hr : runR P l (st.put d (.sl s ((es.take b).drop a) o')) K) : runR P (⟨none, .slc d x lo hi mx sz⟩ :: l) st K := by
  rw [runR_quiet rfl rfl]
  exact ⟨_, .inl ⟨s, es, o, a, b, o', h1, h3, h4, rfl, h2, h5⟩, hr⟩
theorem runR_sls {d : Slot} {x : PO} {lo hi : Option PO} {s : List UInt8} (a b : Nat) (h1 : st.ev x = .str s) (h3 : highOf st.ev s.length hi b) (h4 : lowOf st.ev b lo a)
    (hr : runR P l (st.put d (.v (.string ⟨((s.take b).drop a).toArray⟩))) K) : runR P (⟨none, .sls d x lo hi⟩ :: l) st K := by
  rw [runR_quiet rfl rfl]
  exact ⟨_, ⟨s, a, b, h1, h3, h4, rfl⟩, hr⟩
end
end Go.Proofs.Ytdkancgcefklfaa
