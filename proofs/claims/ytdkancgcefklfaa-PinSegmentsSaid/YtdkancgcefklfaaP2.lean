/-
  The operations over plain views, what each does, the code made of them, and how a program's code becomes such code.
-/
import Derived.Test.YtdkancgcefklfaaP1
namespace Go.Proofs.Ytdkancgcefklfaa
open Go.RowKit

/-- what a cell of a flat struct is -/
inductive CK where
  | i (k : IntKind)
  | b
  | s
def kOk : List CK → List PV → Prop
  | [], [] => True
  | .i k :: ks, .v (.int j _) :: cs => j = k ∧ kOk ks cs
  | .b :: ks, .v (.bool _) :: cs => kOk ks cs
  | .s :: ks, .v (.string _) :: cs => kOk ks cs
  | _, _ => False
inductive PI where
  | mov (d : Slot) (x : PO)
  | pick (d : Slot) (c a b : PO)
  | bld (d : Slot) (zs : List PV) (ps : List (Nat × Nat × PO))
  | lit (d : Slot) (sz : Nat) (zs : List PV) (n : Nat) (ps : List (Nat × PO))
  | new (d : Slot) (zs : List PV)
  | box (d : Slot) (x : PO)
  | ld (d : Slot) (n : Nat) (ag : Bool) (p : PO)
  | st (p x : PO) (n : Nat)
  | ar (d : Slot) (op : BinOp) (k : IntKind) (x y : PO)
  | dv (d : Slot) (op : BinOp) (k : IntKind) (x y : PO)
  | cmp (d : Slot) (op : BinOp) (x y : PO)
  | seq (d : Slot) (neg : Bool) (x y : PO)
  | beq (d : Slot) (neg : Bool) (x y : PO)
  | aeq (d : Slot) (neg : Bool) (ks : List CK) (x y : PO)
  | cat (d : Slot) (x y : PO)
  | scmp (d : Slot) (op : BinOp) (x y : PO)
  | not (d : Slot) (x : PO)
  | cvi (d : Slot) (k : IntKind) (x : PO)
  | cbs (d : Slot) (x : PO)
  | csb (d : Slot) (x : PO)
  | fa (d : Slot) (p : PO) (off : Nat)
  | fld (d : Slot) (x : PO) (off n : Nat) (ag : Bool)
  | ia (d : Slot) (x i : PO) (sz : Nat)
  | iap (d : Slot) (x i : PO) (sz n : Nat)
  | ixs (d : Slot) (x i : PO)
  | slc (d : Slot) (x : PO) (lo hi mx : Option PO) (sz : Nat)
  | sls (d : Slot) (x : PO) (lo hi : Option PO)
  | ext (d : Slot) (x : PO) (i : Nat)
  | len (d : Slot) (x : PO)
  | lns (d : Slot) (x : PO)
  | mm (d : Slot) (mx : Bool) (x y : PO)
  | cap (d : Slot) (x : PO)
  | sh (d : Slot) (op : BinOp) (k : IntKind) (x y : PO)
  | app (d : Slot) (s x : PO) (sz bytes n0 : Nat) (e : TypeId)
  | mks (d : Slot) (sz bytes : Nat) (zs : List PV) (n c : PO)
  | cpy (d : Slot) (x y : PO) (sz : Nat)
  | clr (x : PO) (sz : Nat) (zs : List PV)
  | call (d : Slot) (f : FuncId) (xs : List PO)
  | calv (d : Slot) (f : PO) (xs : List PO)
  | mkf (d : Slot) (f : FuncId) (xs : List PO)
  | callm (d : Slot) (n0 : Nat) (f : FuncId) (xs : List PO)
  | calvm (d : Slot) (f : PO) (xs : List PO)
structure GI where
  g : Option (Slot × Bool)
  i : PI
def PI.dst : PI → Option Slot
  | .mov d _ | .pick d .. | .bld d .. | .lit d .. | .new d .. | .box d .. | .ld d .. | .ar d .. | .dv d .. | .cmp d .. | .seq d .. | .beq d .. | .aeq d .. | .cat d .. | .scmp d .. | .not d .. | .cvi d .. | .cbs d .. | .csb d ..
  | .fa d .. | .fld d .. | .ia d .. | .iap d .. | .ixs d .. | .slc d .. | .sls d .. | .ext d .. | .len d .. | .lns d .. | .mm d .. | .app d .. | .call d .. | .calv d .. | .mkf d .. | .cap d .. | .sh d .. | .mks d .. | .cpy d .. | .callm d .. | .calvm d .. => some d
  | .st .. | .clr .. => none

/-- what a cell is for a place that lasts: no row's name, no box -/
def PV.sh1 : PV → PV
  | .sl sz es (.id _) => .sl sz es .none
  | .sl sz es .full => .sl sz es .none
  | .pb _ _ => .bad
  | .pt _ => .bad
  | .sb .. => .bad
  | .sl _ _ .lent => .bad
  | .fn f [] => .fn f []
  | .fn _ _ => .bad
  | .fs _ _ => .bad
  | .fp _ _ => .bad
  | .agg _ => .bad
  | .tup _ => .bad
  | p => p
/-- a cell that may lie in memory -/
def PV.cell : PV → Bool
  | .v x => x.oneCell'
  | .sl .. | .fn .. | .pt .. | .pb .. | .sb .. => true
  | _ => false
/-- a value's cells -/
def PV.cells : PV → List PV
  | .agg cs => cs
  | p => [p]
def PV.cellsOk : PV → Bool
  | .agg _ => true
  | p => p.cell
/-- cells, as n elements -/
def chunk (sz : Nat) : Nat → List PV → List (List PV)
  | 0, _ => []
  | n + 1, cs => cs.take sz :: chunk sz n (cs.drop sz)
/-- a slice over a box, told as a list -/
def sbSl (bx : List (List PV)) (o : Own) (b sz off n : Nat) : PV :=
  if off + n * sz ≤ (bx.getD b []).length then .sl sz (chunk sz n (((bx.getD b []).drop off).map PV.sh1)) o else .bad
/-- told to another frame -/
def shareC (bx : List (List PV)) : PV → PV
  | .pb b off => .pt (((bx.getD b []).drop off).map PV.sh1)
  | .sb b sz off n _ => sbSl bx .lent b sz off n
  | .sl sz es (.id _) => .sl sz es .none
  | .sl sz es o => .sl sz es o
  | .v x => .v x
  | .pt cs => .pt cs
  | .fn f [] => .fn f []
  | _ => .bad
def share (bx : List (List PV)) : PV → PV
  | .agg cs => .agg (cs.map (shareC bx))
  | .fn f cs => .fn f (cs.map (shareC bx))
  | .fs f cs => .fs f (cs.map (shareC bx))
  | .tup cs => .tup (cs.map fun p => match p with
    | .agg ds => .agg (ds.map (shareC bx))
    | p => shareC bx p)
  | p => shareC bx p

def callOk (P : Program) (f : FuncId) : Bool := match P.funcs[f]? with
  | some fn => fn.body.isSome && fn.name != "runtime.NumGoroutine"
  | none => false
/-- what is handed back -/
def expoC (bx : List (List PV)) : PV → PV
  | .pb b off => .pt (((bx.getD b []).drop off).map PV.sh1)
  | .sb b sz off n _ => sbSl bx .none b sz off n
  | .sl sz es (.id _) => .sl sz es .none
  | .sl _ _ .lent => .bad
  | .sl sz es o => .sl sz es o
  | .v x => .v x
  | .fn f [] => .fn f []
  | _ => .bad
def expo (bx : List (List PV)) : PV → PV
  | .agg cs => .agg (cs.map (expoC bx))
  | .fn f cs => .fn f (cs.map (expoC bx))
  | p => expoC bx p
/-- the place of a box among those that are passed on -/
def posOf : List Nat → Nat → Option Nat
  | [], _ => none
  | x :: r, b => if x = b then some 0 else (posOf r b).map (· + 1)
/-- told to another frame, some boxes lent to it -/
def mapC (bs : List Nat) (f : PV → PV) : PV → PV
  | .pb b off => match posOf bs b with
    | some j => .pb j off
    | none => f (.pb b off)
  | .sb b sz off n c => match posOf bs b with
    | some j => .sb j sz off n c
    | none => f (.sb b sz off n c)
  | p => f p
def mapV (g : PV → PV) : PV → PV
  | .agg cs => .agg (cs.map g)
  | .fn f cs => .fn f (cs.map g)
  | .tup cs => .tup (cs.map fun p => match p with
    | .agg ds => .agg (ds.map g)
    | p => g p)
  | p => g p
/-- the same, for what is told to a callee: a slice of one function may be told -/
def mapS (g : PV → PV) : PV → PV
  | .fs f cs => .fs f (cs.map g)
  | p => mapV g p
/-- boxes under other numbers -/
def renC (ρ : Nat → Nat) : PV → PV
  | .pb b off => .pb (ρ b) off
  | .sb b sz off n c => .sb (ρ b) sz off n c
  | .fn f [] => .fn f []
  | .fn _ _ => .bad
  | .fs _ _ => .bad
  | .fp _ _ => .bad
  | .agg _ => .bad
  | .tup _ => .bad
  | p => p
def back (bs : List Nat) (n j : Nat) : Nat := if j < bs.length then bs.getD j 0 else n + (j - bs.length)
def setBx {α : Type} : List Nat → List α → List α → List α
  | b :: bs, c :: cs, bx => setBx bs cs (bx.set b c)
  | _, cs, bx => bx ++ cs
/-- nothing more is known of what leads into the boxes i -/
def forgC (i : List Nat) : PV → PV
  | .pb b off => if b ∈ i then .bad else .pb b off
  | .sb b sz off n c => if b ∈ i then .bad else .sb b sz off n c
  | .fn f [] => .fn f []
  | .fn _ _ => .bad
  | .fs _ _ => .bad
  | .fp _ _ => .bad
  | .agg _ => .bad
  | .tup _ => .bad
  | p => p
def Oct.map {α β : Type} (f : α → β) : Oct α → Oct β
  | .nil => .nil
  | .mk a b c d e g h i => .mk (f a) (f b) (f c) (f d) (f e) (f g) (f h) (f i)
def Slots.forg (i : List Nat) (s : Slots) : Slots := Oct.map (Oct.map (Oct.map (mapV (forgC i)))) s
/-- the same, but for nothing to be forgotten -/
def forgS : List Nat → Slots → Slots
  | [], s => s
  | i :: r, s => s.forg (i :: r)
def forgB : List Nat → List (List PV) → List (List PV)
  | [], bx => bx
  | i :: r, bx => bx.map fun cs => cs.map (forgC (i :: r))
/-- a slice's or a text's elements -/
def elems (bx : List (List PV)) (sz : Nat) : PV → Option (List (List PV))
  | .sl s es _ => if s = sz ∨ es = [] then some es else none
  | .sb b s off n _ => if s = sz ∧ off + n * sz ≤ (bx.getD b []).length then some (chunk sz n (((bx.getD b []).drop off).map PV.sh1)) else none
  | .v (.string t) => if sz = 1 then some (t.data.toList.map fun c => [.v (.int .u8 c.toNat)]) else none
  | _ => none
def setAt (cs : List PV) (off : Nat) (new : List PV) : List PV := cs.take off ++ new ++ cs.drop (off + new.length)
def fillP (ρ : PO → PV) : List (Nat × Nat × PO) → List PV → Option (List PV)
  | [], cs => some cs
  | (off, n, x) :: r, cs => if (ρ x).cellsOk && (ρ x).cells.length == n && decide (off + n ≤ cs.length) then fillP ρ r (setAt cs off (ρ x).cells) else none
def fillE (ρ : PO → PV) (sz : Nat) : List (Nat × PO) → List (List PV) → Option (List (List PV))
  | [], es => some es
  | (i, x) :: r, es => if (ρ x).cellsOk && (ρ x).cells.length == sz && decide (i < es.length) then fillE ρ sz r (es.set i ((ρ x).cells.map PV.sh1)) else none
def unB : List (List PV) → Option (List UInt8)
  | [] => some []
  | [.v (.int .u8 n)] :: r => if 0 ≤ n ∧ n < 256 then (unB r).map (UInt8.ofNat n.toNat :: ·) else none
  | _ :: _ => none
def arRes : BinOp → Int → Int → Int
  | .add, a, b => a + b
  | .sub, a, b => a - b
  | _, a, b => a * b
def cmpRes : BinOp → Int → Int → Bool
  | .eql, a, b => decide (a = b)
  | .neq, a, b => !decide (a = b)
  | .lss, a, b => decide (a < b)
  | .leq, a, b => decide (a ≤ b)
  | .gtr, a, b => decide (b < a)
  | _, a, b => decide (b ≤ a)
def scmpRes : BinOp → List UInt8 → List UInt8 → Bool
  | .lss, a, b => Op.bytesLess a b
  | .leq, a, b => Op.bytesLess a b || a == b
  | .gtr, a, b => !(Op.bytesLess a b || a == b)
  | _, a, b => !Op.bytesLess a b
/-- bounds of a cut: lo, hi -/
def lowOf (ρ : PO → PV) (n : Nat) (lo : Option PO) (l : Nat) : Prop :=
  match lo with
  | none => l = 0
  | some x => ∃ k, ρ x = .v (.int k l) ∧ l ≤ n
def highOf (ρ : PO → PV) (n : Nat) (hi : Option PO) (h : Nat) : Prop :=
  match hi with
  | none => h = n
  | some x => ∃ k, ρ x = .v (.int k h) ∧ h ≤ n
def highB (ρ : PO → PV) (n : Nat) (c : Option Nat) (hi : Option PO) (h : Nat) : Prop :=
  match hi with
  | none => h = n
  | some x => ∃ k, ρ x = .v (.int k h) ∧ (h ≤ n ∨ ∃ m, c = some m ∧ h ≤ m)
def isFull (es : List (List PV)) (h : Nat) : Own → Own → Prop
  | .full, o' => (h = es.length ∧ o' = .full) ∨ o' = .none
  | .lent, o' => o' = .lent
  | _, o' => o' = .none
def maxOf (ρ : PO → PV) (es : List (List PV)) (h : Nat) (o o' : Own) : Option PO → Prop
  | none => isFull es h o o'
  | some m => (∃ k, ρ m = .v (.int k h)) ∧ o' = .full ∧ (match o with | .lent => False | _ => True)
section
variable (P : Program)
/-- what an operation that only makes a value leaves in its slot -/
def PI.yields (ρ : PO → PV) (bx : List (List PV)) : PI → PV → Prop
  | .mov _ x, v => v = ρ x
  | .pick _ c a b, v => ∃ t, ρ c = .v (.bool t) ∧ v = if t then ρ a else ρ b
  | .bld _ zs ps, v => ∃ cs, fillP ρ ps zs = some cs ∧ v = .agg cs
  | .lit _ sz zs n ps, v => (∃ es, (zs ≠ [.v .nilFunc] ∨ n ≠ 1) ∧ fillE ρ sz ps (List.replicate n zs) = some es ∧ v = .sl sz es .full) ∨ (∃ x f cs, zs = [.v .nilFunc] ∧ ps = [(0, x)] ∧ n = 1 ∧ sz = 1 ∧ ρ x = .fn f cs ∧ v = .fs f cs)
  | .ld _ n ag p, v => (∃ f cs, n = 1 ∧ ag = false ∧ ρ p = .fp f cs ∧ v = .fn f cs) ∨ ∃ cs, ((∃ ds, ρ p = .pt ds ∧ cs = ds.take n) ∨ (∃ b off, ρ p = .pb b off ∧ cs = ((bx.getD b []).drop off).take n)) ∧ cs.length = n ∧
      (if ag then v = .agg cs else cs = [v])
  | .ar _ op k x y, v => ∃ a b, ρ x = .v (.int k a) ∧ ρ y = .v (.int k b) ∧ k.wrap (arRes op a b) = arRes op a b ∧ v = .v (.int k (arRes op a b))
  | .dv _ op k x y, v => ∃ a b, ρ x = .v (.int k a) ∧ ρ y = .v (.int k b) ∧ b ≠ 0 ∧
      (match op with | .quo => k.wrap (a.tdiv b) = a.tdiv b ∧ v = .v (.int k (a.tdiv b)) | _ => v = .v (.int k (a.tmod b)))
  | .cmp _ op x y, v => ∃ k a b, ρ x = .v (.int k a) ∧ ρ y = .v (.int k b) ∧ v = .v (.bool (cmpRes op a b))
  | .seq _ neg x y, v => ∃ a b : List UInt8, ρ x = .str a ∧ ρ y = .str b ∧ v = .v (.bool (neg != decide (a = b)))
  | .beq _ neg x y, v => ∃ a b, ρ x = .v (.bool a) ∧ ρ y = .v (.bool b) ∧ v = .v (.bool (neg != decide (a = b)))
  | .aeq _ neg ks x y, v => ∃ (a b : List PV) (c : Bool), ρ x = .agg a ∧ ρ y = .agg b ∧ kOk ks a ∧ kOk ks b ∧ (c = true ↔ a = b) ∧ v = .v (.bool (neg != c))
  | .cat _ x y, v => ∃ a b : List UInt8, ρ x = .str a ∧ ρ y = .str b ∧ a.length + b.length ≤ 9223372036854775807 ∧ v = .str (a ++ b)
  | .scmp _ op x y, v => ∃ a b : List UInt8, ρ x = .str a ∧ ρ y = .str b ∧ v = .v (.bool (scmpRes op a b))
  | .not _ x, v => ∃ a, ρ x = .v (.bool a) ∧ v = .v (.bool (!a))
  | .cvi _ k x, v => ∃ j a, ρ x = .v (.int j a) ∧ v = .v (.int k (k.wrap a))
  | .cbs _ x, v => ∃ sz es o l, ρ x = .sl sz es o ∧ (sz = 1 ∨ es = []) ∧ unB es = some l ∧ v = .str l
  | .csb _ x, v => ∃ l : List UInt8, ρ x = .str l ∧ l.length ≤ 4611686018427387904 ∧ v = .sl 1 (l.map fun c => [.v (.int .u8 c.toNat)]) .none
  | .fa _ p off, v => (∃ ds, ρ p = .pt ds ∧ v = .pt (ds.drop off)) ∨ (∃ b o, ρ p = .pb b o ∧ v = .pb b (o + off))
  | .fld _ x off n ag, v => ∃ cs, ρ x = .agg cs ∧ off + n ≤ cs.length ∧ (if ag then v = .agg ((cs.drop off).take n) else (cs.drop off).take n = [v])
  | .ia _ x i sz, v => (∃ s es o k n, ρ x = .sl s es o ∧ ρ i = .v (.int k n) ∧ (s = sz ∨ es = []) ∧ 0 ≤ n ∧ n < es.length ∧ v = .pt (es.getD n.toNat [])) ∨
      (∃ b off m c k n, ρ x = .sb b sz off m c ∧ ρ i = .v (.int k n) ∧ 0 ≤ n ∧ n < m ∧ v = .pb b (off + n.toNat * sz)) ∨ (∃ f cs k, ρ x = .fs f cs ∧ ρ i = .v (.int k 0) ∧ sz = 1 ∧ v = .fp f cs)
  | .iap _ x i sz m, v => ∃ k n, ρ i = .v (.int k n) ∧ 0 ≤ n ∧ n < m ∧ ((∃ ds, ρ x = .pt ds ∧ v = .pt (ds.drop (n.toNat * sz))) ∨ (∃ b o, ρ x = .pb b o ∧ v = .pb b (o + n.toNat * sz)))
  | .ixs _ x i, v => ∃ (l : List UInt8) (k : IntKind) (n : Int), ρ x = .str l ∧ ρ i = .v (.int k n) ∧ 0 ≤ n ∧ n < l.length ∧ v = .v (.int .u8 ((l.getD n.toNat 0).toNat))
  | .slc _ x lo hi mx sz, v => (∃ s es o l h o', ρ x = .sl s es o ∧ highOf ρ es.length hi h ∧ lowOf ρ h lo l ∧ v = .sl s ((es.take h).drop l) o' ∧ (s = sz ∨ es = []) ∧
      maxOf ρ es h o o' mx) ∨
      (∃ b off m c l h, ρ x = .sb b sz off m c ∧ mx = none ∧ highB ρ m c hi h ∧ lowOf ρ h lo l ∧ (((l < m ∨ ∃ k, c = some k ∧ l < k) ∧ v = .sb b sz (off + l * sz) (h - l) (c.map (· - l))) ∨ (h = l ∧ v = .sl sz [] .none)))
  | .sls _ x lo hi, v => ∃ (s : List UInt8) (l h : Nat), ρ x = .str s ∧ highOf ρ s.length hi h ∧ lowOf ρ h lo l ∧ v = .str ((s.take h).drop l)
  | .ext _ x i, v => ∃ cs, ρ x = .tup cs ∧ cs[i]? = some v
  | .len _ x, v => (∃ s es o, ρ x = .sl s es o ∧ v = .v (.int .i64 es.length)) ∨ (∃ b s off n c, ρ x = .sb b s off n c ∧ v = .v (.int .i64 n)) ∨ (∃ f cs, ρ x = .fs f cs ∧ v = .v (.int .i64 1))
  | .cap _ x, v => (∃ s es, ρ x = .sl s es .full ∧ v = .v (.int .i64 es.length)) ∨ (∃ b s off n c, ρ x = .sb b s off n (some c) ∧ v = .v (.int .i64 c))
  | .sh _ op k x y, v => ∃ j a b, ρ x = .v (.int k a) ∧ ρ y = .v (.int j b) ∧ 0 ≤ b ∧ b.toNat ≤ k.bits ∧ (match op with | .shl => v = .v (.int k (k.wrap (a * 2 ^ b.toNat))) | _ => v = .v (.int k (a.fdiv (2 ^ b.toNat))))
  | .lns _ x, v => ∃ l : List UInt8, ρ x = .str l ∧ v = .v (.int .i64 l.length)
  | .mm _ mx x y, v => ∃ k a b, ρ x = .v (.int k a) ∧ ρ y = .v (.int k b) ∧ v = .v (.int k (if mx then max a b else min a b))
  | .call _ f xs, v => PCalls P f (xs.map fun x => share bx (ρ x)) v
  | .calv _ x xs, v => ∃ f cs, ρ x = .fn f cs ∧ callOk P f = true ∧ PCalls P f (xs.map (fun x => share bx (ρ x)) ++ cs.map (shareC bx)) v
  | .mkf _ f xs, v => v = .fn f (xs.map ρ)
  | _, _ => False
/-- what an operation does -/
def PI.step (st : St) : PI → St → Prop
  | .new d zs, st' => st' = ⟨st.s.put d (.pb st.bx.length 0), st.bx ++ [zs], st.rw⟩
  | .box d x, st' => (st.ev x).cellsOk = true ∧ st' = ⟨st.s.put d (.pb st.bx.length 0), st.bx ++ [(st.ev x).cells], st.rw⟩
  | .st p x n, st' => ∃ b off old, st.ev p = .pb b off ∧ st.bx[b]? = some old ∧ (st.ev x).cellsOk = true ∧ (st.ev x).cells.length = n ∧ off + n ≤ old.length ∧ st' = ⟨st.s, st.bx.set b (setAt old off (st.ev x).cells), st.rw⟩
  | .app d s x sz bytes n0 _, st' => ∃ ds, elems st.bx sz (st.ev x) = some ds ∧
      ((∃ s1 es o, st.ev s = .sl s1 es o ∧ (es.length + ds.length) * bytes ≤ 140737488355328 ∧ es.length + ds.length ≤ 9223372036854775807 ∧
        ((o = .full ∧ (s1 = sz ∨ es = []) ∧ st' = ⟨st.s.put d (.sl sz (es ++ ds) (.id st.rw.length)), st.bx, st.rw ++ [es.length + ds.length]⟩) ∨
         (∃ k, o = .id k ∧ s1 = sz ∧ st.rw[k]? = some es.length ∧ st' = ⟨st.s.put d (.sl sz (es ++ ds) (.id k)), st.bx, st.rw.set k (es.length + ds.length)⟩) ∨
         (o = .full ∧ (s1 = sz ∨ es = []) ∧ ds ≠ [] ∧ st' = ⟨st.s.put d (.sb st.bx.length sz 0 (es.length + ds.length) none), st.bx ++ [(es ++ ds).flatten], st.rw⟩))) ∨
       (∃ b off n c old, st.ev s = .sb b sz off n c ∧ st.bx[b]? = some old ∧ (n + ds.length) * bytes ≤ 140737488355328 ∧ n + ds.length ≤ 9223372036854775807 ∧
        ((∃ k, c = some k ∧ n + ds.length ≤ k ∧ off + (n + ds.length) * sz ≤ old.length ∧ st' = ⟨st.s.put d (.sb b sz off (n + ds.length) c), st.bx.set b (setAt old (off + n * sz) ds.flatten), st.rw⟩) ∨
         (∃ k, c = some k ∧ k < n + ds.length ∧ off + n * sz ≤ old.length ∧ st' = ⟨st.s.put d (.sb st.bx.length sz 0 (n + ds.length) none), st.bx ++ [(old.drop off).take (n * sz) ++ ds.flatten], st.rw⟩) ∨
         (n0 ≤ b ∧ off = 0 ∧ old.length = n * sz ∧ st' = ⟨(st.s.forg [b]).put d (.sb b sz 0 (n + ds.length) none), (st.bx.map fun cs => cs.map (forgC [b])).set b (old.map (forgC [b]) ++ ds.flatten), st.rw⟩))))
  | .mks d sz bytes zs n c, st' => ∃ k k' N C, st.ev n = .v (.int k N) ∧ st.ev c = .v (.int k' C) ∧ 0 ≤ N ∧ N ≤ C ∧ C.toNat * bytes ≤ 140737488355328 ∧ C ≤ 140737488355328 ∧
      st' = ⟨st.s.put d (.sb st.bx.length sz 0 N.toNat (some C.toNat)), st.bx ++ [(List.replicate C.toNat zs).flatten], st.rw⟩
  | .cpy d x y sz, st' => ∃ ds, elems st.bx sz (st.ev y) = some ds ∧
      ((∃ s o, st.ev x = .sl s [] o ∧ st' = st.put d (.v (.int .i64 0))) ∨
       (∃ b off n c old, st.ev x = .sb b sz off n c ∧ st.bx[b]? = some old ∧ off + (min n ds.length) * sz ≤ old.length ∧
         st' = ⟨st.s.put d (.v (.int .i64 (min n ds.length : Nat))), st.bx.set b (setAt old off (ds.take n).flatten), st.rw⟩))
  | .clr x sz zs, st' => (∃ s o, st.ev x = .sl s [] o ∧ st' = st) ∨
      (∃ b off n c old, st.ev x = .sb b sz off n c ∧ st.bx[b]? = some old ∧ off + n * sz ≤ old.length ∧ st' = ⟨st.s, st.bx.set b (setAt old off (List.replicate n zs).flatten), st.rw⟩)
  | .callm d n0 f xs, st' => ∃ bs cs r bx1, bs.Nodup ∧ (∀ b ∈ bs, b < st.bx.length) ∧ bs.length ≤ bx1.length ∧ (∀ j ∈ cs, ∃ b, bs[j]? = some b ∧ n0 ≤ b) ∧
      PCallsB P f cs (bs.map fun b => (st.bx.getD b []).map (mapC bs (shareC st.bx))) (xs.map fun x => mapS (mapC bs (shareC st.bx)) (st.ev x)) r bx1 ∧
      st' = ⟨(forgS (cs.map (bs.getD · 0)) st.s).put d (mapV (renC (back bs st.bx.length)) r), setBx bs (bx1.map fun cs => cs.map (renC (back bs st.bx.length))) (forgB (cs.map (bs.getD · 0)) st.bx), st.rw⟩
  | .calvm d x xs, st' => ∃ f cs bs r bx1, st.ev x = .fn f cs ∧ callOk P f = true ∧ bs.Nodup ∧ (∀ b ∈ bs, b < st.bx.length) ∧ bs.length ≤ bx1.length ∧
      PCallsB P f [] (bs.map fun b => (st.bx.getD b []).map (mapC bs (shareC st.bx))) (xs.map (fun x => mapS (mapC bs (shareC st.bx)) (st.ev x)) ++ cs.map (mapC bs (shareC st.bx))) r bx1 ∧
      st' = ⟨st.s.put d (mapV (renC (back bs st.bx.length)) r), setBx bs (bx1.map fun cs => cs.map (renC (back bs st.bx.length))) st.bx, st.rw⟩
  | i, st' => ∃ v d, i.dst = some d ∧ i.yields P st.ev st.bx v ∧ st' = st.put d v
/-- what a slot holds whose operation was left out -/
abbrev skp : PV := .v (.tuple #[])
/-- what a condition's slot holds: a truth value, or nothing, if its own operation was left out -/
def gB : Option Bool → PV
  | some t => .v (.bool t)
  | none => skp
def GI.step (st : St) (gi : GI) (st' : St) : Prop :=
  match gi.g with
  | none => gi.i.step P st st'
  | some (s, b) => ∃ t, st.s.get s = gB t ∧ if t = some b then gi.i.step P st st' else st' = (match gi.i.dst with | some d => st.put d skp | none => st)
def runR : List GI → St → (St → Prop) → Prop
  | [], st, K => K st
  | i :: l, st, K => ∃ st', i.step P st st' ∧ runR l st' K
end

inductive PC where
  | skip
  | reg (l : List GI)
  /-- some operations, then others in either of two orders -/
  | fork (l b c : List GI)
  | seq (a b : PC)
  | cond (c : PO) (a b : PC)
  | block (id : Nat) (b : PC)
  | loop (n0 : Nat) (ds : List Slot) (b : PC)
  | exit (id : Nat)
  | ret
inductive PE where
  | norm
  | exit (id : Nat)
  | ret
def putAll : List (Slot × PV) → Slots → Slots
  | [], s => s
  | (d, v) :: r, s => putAll r (s.put d v)
def kill : List Slot → Slots → Slots
  | [], s => s
  | d :: r, s => kill r (s.put d .bad)
/-- the one telling may stand for the other -/
def Wk (st st' : St) : Prop := ∀ nt w0 G0 D Dp a w, G0.length ≤ st'.bx.length → FInv nt w0 G0 D Dp st a w → FInv nt w0 G0 D Dp st' a w
/-- the same, where at most n0 boxes came in -/
def WkN (n0 : Nat) (st st' : St) : Prop := ∀ nt w0 G0 D Dp a w, G0.length ≤ n0 → FInv nt w0 G0 D Dp st a w → FInv nt w0 G0 D Dp st' a w
theorem WkN.refl (n0 : Nat) (st : St) : WkN n0 st st := fun _ _ _ _ _ _ _ _ h => h
theorem WkN.trans {n0 : Nat} {st st1 st2 : St} (h : WkN n0 st st1) (k : WkN n0 st1 st2) : WkN n0 st st2 := fun _ _ _ _ _ _ _ hg h0 => k _ _ _ _ _ _ _ hg (h _ _ _ _ _ _ _ hg h0)
theorem Wk.toN {n0 : Nat} {st st' : St} (h : Wk st st') (hn : n0 ≤ st'.bx.length) : WkN n0 st st' := fun _ _ _ _ _ _ _ hg h0 => h _ _ _ _ _ _ _ (Nat.le_trans hg hn) h0
def PE.then (A K : PE → St → Prop) : PE → St → Prop
  | .norm, st => A .norm st
  | e, st => K e st
def PE.inB (id : Nat) (K : PE → St → Prop) : PE → St → Prop
  | .exit i, st => if i = id then K .norm st else K (.exit i) st
  | e, st => K e st
def pwp (P : Program) (n0 : Nat) : PC → (PE → St → Prop) → St → Prop
  | .skip, K, st => K .norm st
  | .reg l, K, st => runR P l st (K .norm)
  | .fork l b c, K, st => runR P l st fun st => runR P b st (fun s => ∃ s2, WkN n0 s s2 ∧ K .norm s2) ∧ runR P c st (fun s => ∃ s2, WkN n0 s s2 ∧ K .norm s2)
  | .seq a b, K, st => pwp P n0 a (PE.then (fun _ st1 => ∃ st2, WkN n0 st1 st2 ∧ pwp P n0 b K st2) K) st
  | .cond c a b, K, st => ∃ t, st.ev c = .v (.bool t) ∧ (t = true → ∃ st2, WkN n0 st st2 ∧ pwp P n0 a K st2) ∧ (t = false → ∃ st2, WkN n0 st st2 ∧ pwp P n0 b K st2)
  | .block id b, K, st => pwp P n0 b (PE.inB id K) st
  | .loop _ _ b, K, st => ∃ (I : Nat → St → Prop) (n : Nat) (st1 : St), I n st1 ∧ WkN n0 st st1 ∧
      ∀ n st, I n st → ∃ st2, WkN n0 st st2 ∧ pwp P n0 b (PE.then (fun _ st' => ∃ m st2, m < n ∧ I m st2 ∧ WkN n0 st' st2) (fun e st' => ∃ st2, WkN n0 st' st2 ∧ K e st2)) st2
  | .exit id, K, st => K (.exit id) st
  | .ret, K, st => K .ret st
end Go.Proofs.Ytdkancgcefklfaa
