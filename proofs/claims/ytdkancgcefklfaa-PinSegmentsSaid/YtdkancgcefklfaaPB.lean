/-
  The code over plain views that an operation becomes.
-/
import Derived.Test.YtdkancgcefklfaaPA
namespace Go.Proofs.Ytdkancgcefklfaa
open Go.RowKit

def cZero (P : Program) (t : TypeId) : Option (List PV) :=
  (P.info? t).bind fun i => i.zero.bind fun z => if z.cells.toList.all (·.oneCell') ∧ z.cells.size = i.size then some (z.cells.toList.map cvc) else none
theorem cZero_spec {P : Program} {t : TypeId} {zs : List PV} (h : cZero P t = some zs) : ∃ i z, P.info? t = some i ∧ i.zero = some z ∧ z.cells.toList.all (·.oneCell') = true ∧ z.cells.size = i.size ∧ zs = z.cells.toList.map cvc := by
  simp only [cZero, Option.bind_eq_some_iff] at h
  obtain ⟨i, h1, z, h2, h3⟩ := h
  split at h3
  · rename_i h4; simp at h3; exact ⟨i, z, h1, h2, h4.1, h4.2, h3.symm⟩
  · cases h3
def cPlaces (P : Program) (t : TypeId) : Option (List (Nat × Nat)) :=
  match P.underlying t with
  | some (.array n e) => (P.info? e).map fun ie => (List.range n).map fun i => (i * ie.size, ie.size)
  | some (.struct fields) => fields.toList.mapM (fun f => (P.info? f.type).map fun i => (f.offset, i.size))
  | _ => none
def isU8 (P : Program) (t : TypeId) : Bool := match P.underlying t with
  | some (.int .u8) => true
  | _ => false
theorem isU8_spec {P : Program} {t : TypeId} (h : isU8 P t = true) : P.underlying t = some (.int .u8) := by
  unfold isU8 at h; split at h <;> simp_all
def isStr (P : Program) (t : TypeId) : Bool := match P.underlying t with
  | some .string => true
  | _ => false
theorem isStr_spec {P : Program} {t : TypeId} (h : isStr P t = true) : P.underlying t = some .string := by
  unfold isStr at h; split at h <;> simp_all
def isSl (P : Program) (t : TypeId) : Bool := match P.underlying t with
  | some (.slice _) => true
  | some .string => true
  | _ => false
theorem isSl_spec {P : Program} {t : TypeId} (h : isSl P t = true) : (∃ e', P.underlying t = some (.slice e')) ∨ P.underlying t = some .string := by
  unfold isSl at h; split at h <;> simp_all
def cBin (P : Program) (d : Slot) (op : BinOp) (t : TypeId) (x y : PO) : Option PI :=
  match P.underlying t, op with
  | some (.int k), .add | some (.int k), .sub | some (.int k), .mul => some (.ar d op k x y)
  | some (.int k), .quo | some (.int k), .rem => some (.dv d op k x y)
  | some (.int k), .shl | some (.int k), .shr => some (.sh d op k x y)
  | some (.int _), .eql | some (.int _), .neq | some (.int _), .lss | some (.int _), .leq | some (.int _), .gtr | some (.int _), .geq => some (.cmp d op x y)
  | some .string, .eql => some (.seq d false x y)
  | some .string, .neq => some (.seq d true x y)
  | some .string, .add => some (.cat d x y)
  | some .string, .lss | some .string, .leq | some .string, .gtr | some .string, .geq => some (.scmp d op x y)
  | some .bool, .eql => some (.beq d false x y)
  | some .bool, .neq => some (.beq d true x y)
  | some (.struct _), .eql => if P.eqGuardType P.depth t = false then (flatK P t).map fun ks => .aeq d false ks x y else none
  | some (.struct _), .neq => if P.eqGuardType P.depth t = false then (flatK P t).map fun ks => .aeq d true ks x y else none
  | _, _ => none
def cConv (P : Program) (d : Slot) (s t : TypeId) (x : PO) : Option PI :=
  match P.underlying s, P.underlying t with
  | some (.int _), some (.int k) => some (.cvi d k x)
  | some (.slice e), some .string => if isU8 P e then some (.cbs d x) else none
  | some .string, some (.slice e) => if isU8 P e then some (.csb d x) else none
  | _, _ => none
def cCall (P : Program) (nt n0 : Nat) (ms : List FuncId) (dst : Option Tmp) (c : Call) : Option PI :=
  (cDst nt dst).bind fun d =>
  match c.callee, c.args.toList with
  | .builtin .len, [x] => match c.argTypes.toList with
    | [t] => match P.underlying t with
      | some (.slice _) => (cPO x).map (.len d)
      | some .string => (cPO x).map (.lns d)
      | _ => none
    | _ => none
  | .builtin .cap, [x] => match c.argTypes.toList with
    | [t] => match P.underlying t with
      | some (.slice _) => (cPO x).map (.cap d)
      | _ => none
    | _ => none
  | .builtin .copy, [x, y] => match c.argTypes.toList with
    | [t, _] => match P.underlying t with
      | some (.slice e) => (P.info? e).bind fun i => (cPO x).bind fun p => (cPO y).map fun q => .cpy d p q i.size
      | _ => none
    | _ => none
  | .builtin .min, [x, y] => (cPO x).bind fun p => (cPO y).map fun q => .mm d false p q
  | .builtin .max, [x, y] => (cPO x).bind fun p => (cPO y).map fun q => .mm d true p q
  | .builtin .append, [x, y] => match c.argTypes.toList with
    | [t, tx] => match P.underlying t with
      | some (.slice e) => (P.info? e).bind fun i => (cZero P e).bind fun _ => (cPO x).bind fun p => (cPO y).bind fun q =>
        if 0 < i.size ∧ isSl P tx = true then some (.app d p q i.size i.bytes n0 e) else none
      | _ => none
    | _ => none
  | .value (.func f), xs => if callOk P f then (cPOs xs).map (fun ps => if ms.contains f then .callm d n0 f ps else .call d f ps) else none
  | _, _ => none
/-- the name that stands for calls of functions held in variables -/
def anyF : FuncId := 1000000
def cClr (P : Program) (dst : Option Tmp) (c : Call) : Option PI :=
  match c.args.toList, c.argTypes.toList with
  | [x], [t] => match P.underlying t with
    | some (.slice e) => if dst = none then (P.info? e).bind fun i => (cZero P e).bind fun zs => (cPO x).map fun p => .clr p i.size zs else none
    | _ => none
  | _, _ => none
def cI (P : Program) (nt n0 : Nat) (ms : List FuncId) (o : Oper) : Option PI :=
  match o.op with
  | .move x => (cDst nt o.dst).bind fun d => (cPO x).map (.mov d)
  | .assign x => (cDst nt o.dst).bind fun d => (cPO x).map (.mov d)
  | .pick c x y => (cDst nt o.dst).bind fun d => (cPO c).bind fun p => (cPO x).bind fun q => (cPO y).map fun r => .pick d p q r
  | .alloc t => (cDst nt o.dst).bind fun d => (cZero P t).map (.new d)
  | .box _ x => (cDst nt o.dst).bind fun d => (cPO x).map (.box d)
  | .build t ps => (cDst nt o.dst).bind fun d => (cZero P t).bind fun zs => (cPlaces P t).bind fun pl => (cParts (pl.toArray[·]?) ps.toList).map (.bld d zs)
  | .buildSlice t n ps => (cDst nt o.dst).bind fun d => match P.underlying t with
    | some (.slice e) => (P.info? e).bind fun i => (cZero P e).bind fun zs => if n * i.size ≤ 16777216 ∧ 0 < i.size then (cElems ps.toList).map (.lit d i.size zs n) else none
    | _ => none
  | .load t x => (cDst nt o.dst).bind fun d => (P.info? t).bind fun i => (isAgB P t).bind fun ag => (cPO x).map (.ld d i.size ag)
  | .store t x y => if o.dst = none then (P.info? t).bind fun i => (cPO x).bind fun p => (cPO y).map fun q => .st p q i.size else none
  | .binOp op t x y _ => (cDst nt o.dst).bind fun d => (cPO x).bind fun p => (cPO y).bind fun q => cBin P d op t p q
  | .unOp .not _ x => (cDst nt o.dst).bind fun d => (cPO x).map (.not d)
  | .convert s t x => (cDst nt o.dst).bind fun d => (cPO x).bind fun p => cConv P d s t p
  | .slice t x lo hi mx => (cDst nt o.dst).bind fun d => (cPO x).bind fun p => (cPOo lo).bind fun l => (cPOo hi).bind fun h => (cPOo mx).bind fun m => match P.underlying t with
    | some (.slice e) => (P.info? e).bind fun i => if 0 < i.size ∧ (mx.isSome → hi.isSome) then some (.slc d p l h m i.size) else none
    | some .string => if mx.isNone then some (.sls d p l h) else none
    | _ => none
  | .fieldAddr s x f => (cDst nt o.dst).bind fun d => (cPO x).bind fun p => match P.underlying s with
    | some (.struct fs) => (fs[f]?).bind fun fd => (P.info? fd.type).bind fun i => if i.size ≠ 0 then some (.fa d p fd.offset) else none
    | _ => none
  | .field s x f => (cDst nt o.dst).bind fun d => (cPO x).bind fun p => match P.underlying s with
    | some (.struct fs) => (fs[f]?).bind fun fd => (P.info? fd.type).bind fun i => (isAgB P fd.type).map fun ag => .fld d p fd.offset i.size ag
    | _ => none
  | .indexAddr t x y => (cDst nt o.dst).bind fun d => (cPO x).bind fun p => (cPO y).bind fun q => match P.underlying t with
    | some (.slice e) => (P.info? e).map fun i => .ia d p q i.size
    | some (.array m e) => (P.info? e).map fun i => .iap d p q i.size m
    | _ => none
  | .index t x y => (cDst nt o.dst).bind fun d => (cPO x).bind fun p => (cPO y).bind fun q => if isStr P t then some (.ixs d p q) else none
  | .makeSlice t x y => (cDst nt o.dst).bind fun d => (cPO x).bind fun p => (cPO y).bind fun q => match P.underlying t with
    | some (.slice e) => (P.info? e).bind fun i => (cZero P e).map fun zs => .mks d i.size i.bytes zs p q
    | _ => none
  | .extract x k => (cDst nt o.dst).bind fun d => (cPO x).map fun p => .ext d p k
  | .makeFunc (.func f) ⟨[]⟩ cs => (cDst nt o.dst).bind fun d => (cPOs cs.toList).map (.mkf d f)
  | .call c => match c.callee with
    | .value (.tmp t) => (cDst nt o.dst).bind fun d => (cPO (.tmp t)).bind fun p => (cPOs c.args.toList).map fun ps => if ms.contains anyF then .calvm d p ps else .calv d p ps
    | .builtin .clear => cClr P o.dst c
    | _ => cCall P nt n0 ms o.dst c
  | _ => none
end Go.Proofs.Ytdkancgcefklfaa
