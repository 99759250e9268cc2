/-
  Lists that lie in boxes: slices that are written element by element.
-/
import Derived.Test.YtdkancgcefklfaaPI
namespace Go.Proofs.Ytdkancgcefklfaa
open Go.RowKit

/-- a cell that means the same everywhere -/
def plain : PV → Bool
  | .v _ => true
  | .sl _ _ .none => true
  | _ => false
/-- how many cells an element has; that its cells are fit to be told of elsewhere -/
class CSz {α : Type} (c : α → List PV) (sz : outParam Nat) : Prop where
  len : ∀ x, (c x).length = sz
class CSh {α : Type} (c : α → List PV) : Prop where
  sh : ∀ x, (c x).map PV.sh1 = c x
  ok : ∀ m b ad x, wkL m b ad (c x) (c x)
  pl : ∀ x, ∀ p ∈ c x, plain p = true
/-- a list's cells in a row -/
def fl {α : Type} (c : α → List PV) (l : List α) : List PV := (mp c l).flatten
/-- a slice over a box that holds a list -/
def sbv (b sz : Nat) (o n : Int) (c : Option Int) : PV := .sb b sz (o.toNat * sz) n.toNat (c.map Int.toNat)
/-- the address of a cell of element i -/
def pev (b sz : Nat) (i : Int) (fo : Nat) : PV := .pb b (i.toNat * sz + fo)
/-- an element replaced; elements from o on replaced -/
def put' {α : Type} (l : List α) (i : Int) (x : α) : List α := l.set i.toNat x
def over {α : Type} (l : List α) (o : Int) (ys : List α) : List α := l.take o.toNat ++ ys ++ l.drop (o.toNat + ys.length)

@[simp] theorem put'_length {α : Type} (l : List α) (i : Int) (x : α) : (put' l i x).length = l.length := by simp [put']
section
variable {α : Type} {c : α → List PV} {sz : Nat} [hc : CSz c sz]
theorem fl_cons (x : α) (l : List α) : fl c (x :: l) = c x ++ fl c l := by simp [fl]
theorem fl_append (l m : List α) : fl c (l ++ m) = fl c l ++ fl c m := by simp [fl, mp]
theorem fl_length (l : List α) : (fl c l).length = l.length * sz := by
  induction l with
  | nil => simp [fl]
  | cons x l ih => rw [fl_cons, List.length_append, hc.len, ih, List.length_cons, Nat.add_mul]; omega
theorem fl_drop (l : List α) (k : Nat) : (fl c l).drop (k * sz) = fl c (l.drop k) := by
  induction l generalizing k with
  | nil => simp [fl]
  | cons x l ih =>
    cases k with
    | zero => simp
    | succ k =>
      rw [fl_cons, List.drop_succ_cons, ← ih k, List.drop_append, hc.len, List.drop_of_length_le (by rw [hc.len, Nat.add_mul]; omega)]
      simp only [List.nil_append]
      congr 1
      rw [Nat.add_mul]; omega
theorem fl_take (l : List α) (k : Nat) : (fl c l).take (k * sz) = fl c (l.take k) := by
  have h := List.take_append_drop k l
  by_cases hk : k ≤ l.length
  · have h2 : fl c l = fl c (l.take k) ++ fl c (l.drop k) := by rw [← fl_append, h]
    rw [h2, List.take_left']
    rw [fl_length, List.length_take, Nat.min_eq_left hk]
  · rw [List.take_of_length_le (by rw [fl_length]; exact Nat.mul_le_mul_right _ (by omega)), List.take_of_length_le (by omega)]
theorem setAt_fl (l ys : List α) (k : Nat) : setAt (fl c l) (k * sz) (fl c ys) = fl c (l.take k ++ ys ++ l.drop (k + ys.length)) := by
  unfold setAt
  rw [fl_take, fl_length, ← Nat.add_mul, fl_drop, fl_append, fl_append]
theorem fl_split (l : List α) (k : Nat) (h : k < l.length) : fl c l = fl c (l.take k) ++ (c l[k] ++ fl c (l.drop (k + 1))) := by
  rw [← fl_cons, ← fl_append]
  congr 1
  rw [List.getElem_cons_drop, List.take_append_drop]
theorem ld_fl (l : List α) (k fo m : Nat) (h : k < l.length) (hm : fo + m ≤ sz) : ((fl c l).drop (k * sz + fo)).take m = ((c l[k]).drop fo).take m := by
  have h1 : (fl c (l.take k)).length = k * sz := by rw [fl_length, List.length_take, Nat.min_eq_left (by omega)]
  have h2 : (c l[k]).length = sz := hc.len _
  rw [fl_split l k h, List.drop_append, h1, List.drop_of_length_le (by omega), List.nil_append, Nat.add_sub_cancel_left, List.drop_append, List.take_append, List.length_drop, h2]
  rw [show m - (sz - fo) = 0 by omega]
  simp
theorem setAt_fld (l : List α) (k fo : Nat) (cs : List PV) (x : α) (h : k < l.length) (hf : fo + cs.length ≤ sz) (hx : setAt (c l[k]) fo cs = c x) : setAt (fl c l) (k * sz + fo) cs = fl c (l.set k x) := by
  have h1 : (fl c (l.take k)).length = k * sz := by rw [fl_length, List.length_take, Nat.min_eq_left (by omega)]
  have h2 : (c l[k]).length = sz := hc.len _
  rw [List.set_eq_take_append_cons_drop, if_pos h, fl_append, fl_cons, ← hx]
  unfold setAt
  rw [fl_split l k h, List.take_append, h1, List.take_of_length_le (l := fl c (l.take k)) (by omega), Nat.add_sub_cancel_left, List.take_append, h2, show fo - sz = 0 by omega]
  rw [List.drop_append, h1, List.drop_of_length_le (l := fl c (l.take k)) (by omega), List.drop_append, h2]
  rw [show k * sz + fo + cs.length - k * sz - sz = 0 by omega, show k * sz + fo + cs.length - k * sz = fo + cs.length by omega]
  simp
theorem chunk_fl (l : List α) : ∀ n : Nat, n ≤ l.length → chunk sz n (fl c l) = mp c (l.take n) := by
  induction l with
  | nil => intro n h; simp at h; subst h; rfl
  | cons x l ih =>
    intro n h
    cases n with
    | zero => rfl
    | succ n =>
      rw [fl_cons, chunk_s, List.take_left' (hc.len x), List.drop_left' (hc.len x), ih n (by simpa using h)]
      rfl
theorem fl_sh [hs : CSh c] (l : List α) : (fl c l).map PV.sh1 = fl c l := by
  induction l with
  | nil => rfl
  | cons x l ih => rw [fl_cons, List.map_append, hs.sh, ih]
theorem wkL_append {m b : Nat} {ad : List Nat} : ∀ {l l' k k' : List PV}, wkL m b ad l l' → wkL m b ad k k' → wkL m b ad (l ++ k) (l' ++ k')
  | [], [], _, _, _, h => h
  | _p :: _l, _p' :: _l', _, _, h1, h2 => ⟨h1.1, wkL_append h1.2 h2⟩
  | [], _ :: _, _, _, h, _ => h.elim
  | _ :: _, [], _, _, h, _ => h.elim
@[simp] theorem wkL_fl [hs : CSh c] (m b : Nat) (ad : List Nat) (l : List α) : wkL m b ad (fl c l) (fl c l) = True := by
  simp only [eq_iff_iff, iff_true]
  induction l with
  | nil => exact True.intro
  | cons x l ih => rw [fl_cons]; exact wkL_append (hs.ok _ _ _ _) ih
@[simp] theorem wkL_fl2 [hs : CSh c] (m b : Nat) (ad : List Nat) (l l' : List α) (h : l = l') : wkL m b ad (fl c l) (fl c l') = True := by subst h; simp
end

instance : CSz cInt 1 := ⟨fun _ => rfl⟩
instance : CSz cU8 1 := ⟨fun _ => rfl⟩
instance : CSz cBool 1 := ⟨fun _ => rfl⟩
instance : CSz cStr 1 := ⟨fun _ => rfl⟩
instance : CSh cInt := ⟨fun _ => rfl, fun _ _ _ _ => ⟨rfl, trivial⟩, fun _ _ h => by simp at h; subst h; rfl⟩
instance : CSh cU8 := ⟨fun _ => rfl, fun _ _ _ _ => ⟨rfl, trivial⟩, fun _ _ h => by simp at h; subst h; rfl⟩
instance : CSh cBool := ⟨fun _ => rfl, fun _ _ _ _ => ⟨rfl, trivial⟩, fun _ _ h => by simp at h; subst h; rfl⟩
instance : CSh cStr := ⟨fun _ => rfl, fun _ _ _ _ => ⟨rfl, trivial⟩, fun _ _ h => by simp at h; subst h; rfl⟩

/-! ### how simp reckons with them -/
theorem fl_map {α : Type} {c : α → List PV} [hs : CSh c] {f : PV → PV} (hf : ∀ p, plain p = true → f p = p) (l : List α) : (fl c l).map f = fl c l := by
  have : ∀ p ∈ fl c l, f p = p := fun p hp => by
    simp only [fl, mp, List.mem_flatten, List.mem_map] at hp
    obtain ⟨cs, ⟨x, _, rfl⟩, h⟩ := hp
    exact hf p (hs.pl x p h)
  rw [List.map_congr_left this, List.map_id']
theorem plain_iff {p : PV} (h : plain p = true) : (∃ x, p = .v x) ∨ ∃ s es, p = .sl s es .none := by
  unfold plain at h; split at h
  · exact .inl ⟨_, rfl⟩
  · exact .inr ⟨_, _, rfl⟩
  · cases h
section
variable {α : Type} {c : α → List PV} [CSh c]
@[simp] theorem fl_shareC (bx : List (List PV)) (l : List α) : (fl c l).map (shareC bx) = fl c l := fl_map (fun p h => by rcases plain_iff h with ⟨x, rfl⟩ | ⟨s, es, rfl⟩ <;> rfl) l
@[simp] theorem fl_mapC (bs : List Nat) (bx : List (List PV)) (l : List α) : (fl c l).map (mapC bs (shareC bx)) = fl c l := fl_map (fun p h => by rcases plain_iff h with ⟨x, rfl⟩ | ⟨s, es, rfl⟩ <;> rfl) l
@[simp] theorem fl_mapE (bs : List Nat) (n0 : Nat) (bx : List (List PV)) (l : List α) : (fl c l).map (mapC bs (expoN n0 bx)) = fl c l := fl_map (fun p h => by rcases plain_iff h with ⟨x, rfl⟩ | ⟨s, es, rfl⟩ <;> rfl) l
@[simp] theorem fl_renC (f : Nat → Nat) (l : List α) : (fl c l).map (renC f) = fl c l := fl_map (fun p h => by rcases plain_iff h with ⟨x, rfl⟩ | ⟨s, es, rfl⟩ <;> rfl) l
@[simp] theorem fl_forgC (i : List Nat) (l : List α) : (fl c l).map (forgC i) = fl c l := fl_map (fun p h => by rcases plain_iff h with ⟨x, rfl⟩ | ⟨s, es, rfl⟩ <;> rfl) l
end

@[simp] theorem isN_sbv (b sz : Nat) (o n : Int) (c : Option Int) : isN (sbv b sz o n c) = True := rfl
@[simp] theorem lenP_sbv (b sz : Nat) (o n : Int) (c : Option Int) : lenP (sbv b sz o n c) = n.toNat := rfl
@[simp] theorem max_zero {n : Int} (h : 0 ≤ n) : max n 0 = n := by omega
@[simp] theorem isCap_sbv (b sz : Nat) (o n c : Int) : isCap (sbv b sz o n (some c)) = True := rfl
@[simp] theorem capP_sbv (b sz : Nat) (o n c : Int) : capP (sbv b sz o n (some c)) = c.toNat := rfl
@[simp] theorem cellsOk_sbv (b sz : Nat) (o n : Int) (c : Option Int) : PV.cellsOk (sbv b sz o n c) = true := rfl
@[simp] theorem cells_sbv (b sz : Nat) (o n : Int) (c : Option Int) : PV.cells (sbv b sz o n c) = [sbv b sz o n c] := rfl
@[simp] theorem isP_pev (b sz : Nat) (i : Int) (fo : Nat) : isP (pev b sz i fo) = True := rfl
@[simp] theorem isPb_pev (b sz : Nat) (i : Int) (fo : Nat) : isPb (pev b sz i fo) = True := rfl
@[simp] theorem pbB_pev (b sz : Nat) (i : Int) (fo : Nat) : pbB (pev b sz i fo) = b := rfl
@[simp] theorem addP_pev (k b sz : Nat) (i : Int) (fo : Nat) : addP k (pev b sz i fo) = pev b sz i (fo + k) := by
  simp [addP, pev, Nat.add_assoc]
@[simp] theorem wkP_sbv (m b : Nat) (ad : List Nat) (i s i' s' : Nat) (o n o' n' : Int) (c c' : Option Int) : wkP m b ad (sbv i s o n c) (sbv i' s' o' n' c') = (i = i' ∧ s = s' ∧ o.toNat * s = o'.toNat * s' ∧ n.toNat = n'.toNat ∧ (c.map Int.toNat = c'.map Int.toNat ∨ c'.map Int.toNat = none) ∧ i < b) := rfl
@[simp] theorem wkP_pev (m b : Nat) (ad : List Nat) (i s i' s' : Nat) (k k' : Int) (fo fo' : Nat) : wkP m b ad (pev i s k fo) (pev i' s' k' fo') = (i = i' ∧ k.toNat * s + fo = k'.toNat * s' + fo' ∧ i < b) := rfl
/-- the cells that a load through such an address finds -/
def ldF (cs : List PV) (m sz : Nat) (i : Int) (fo : Nat) : List PV := (cs.drop (i.toNat * sz + fo)).take m
@[simp] theorem isP1_pev (b sz : Nat) (i : Int) (fo : Nat) : isP1 (pev b sz i fo) = True := rfl
@[simp] theorem ldC1_pev (bx : List (List PV)) (b sz : Nat) (i : Int) (fo : Nat) : ldC1 bx (pev b sz i fo) = ldF (bx.getD b []) 1 sz i fo := rfl
@[simp] theorem ldC_pev (bx : List (List PV)) (m b sz : Nat) (i : Int) (fo : Nat) : ldC bx m (pev b sz i fo) = ldF (bx.getD b []) m sz i fo := rfl
section
variable {α : Type} {c : α → List PV} {sz : Nat}
@[simp] theorem ldF_fl [Inhabited α] [CSz c sz] (l : List α) (m : Nat) (i : Int) (fo : Nat) (h : nat i < l.length) (hm : fo + m ≤ sz) : ldF (fl c l) m sz i fo = ((c (at' l i)).drop fo).take m := by
  have h2 : i.toNat < l.length := by simpa [nat] using h
  unfold ldF
  rw [ld_fl l i.toNat fo m h2 hm]
  simp [at', h2]
@[simp] theorem iaOk_sbv (sz b sz' : Nat) (i o n : Int) (c : Option Int) (hn : 0 ≤ n) : iaOk sz i (sbv b sz' o n c) = (sz' = sz ∧ 0 ≤ i ∧ i < n) := by
  have h : ((n.toNat : Nat) : Int) = n := by omega
  simp only [sbv, iaOk, h]
@[simp] theorem iaP_sbv (sz b : Nat) (i o n : Int) (c : Option Int) (h0 : 0 ≤ o) (hi : 0 ≤ i) : iaP sz (nat i) (sbv b sz o n c) = pev b sz (o + i) 0 := by
  have : (o + i).toNat = o.toNat + i.toNat := by omega
  simp only [sbv, iaP, pev, nat, this, Nat.add_mul, Nat.add_zero]
/-- a slice over a box, as it is told elsewhere -/
def slF (o : Own) (cs : List PV) (sz : Nat) (p n : Int) : PV := if p.toNat * sz + n.toNat * sz ≤ cs.length then .sl sz (chunk sz n.toNat ((cs.drop (p.toNat * sz)).map PV.sh1)) o else .bad
@[simp] theorem shareC_sbv (bx : List (List PV)) (b sz : Nat) (p n : Int) (k : Option Int) : shareC bx (sbv b sz p n k) = slF .lent (bx.getD b []) sz p n := rfl
@[simp] theorem share_sbv (bx : List (List PV)) (b sz : Nat) (p n : Int) (k : Option Int) : share bx (sbv b sz p n k) = slF .lent (bx.getD b []) sz p n := rfl
@[simp] theorem expoC_sbv (bx : List (List PV)) (b sz : Nat) (p n : Int) (k : Option Int) : expoC bx (sbv b sz p n k) = slF .none (bx.getD b []) sz p n := rfl
@[simp] theorem expoN_sbv (n0 : Nat) (bx : List (List PV)) (b sz : Nat) (p n : Int) (k : Option Int) : expoN n0 bx (sbv b sz p n k) = if n0 ≤ b then expoC bx (sbv b sz p n k) else .bad := rfl
@[simp] theorem mapV_sbv (f : PV → PV) (b sz : Nat) (p n : Int) (k : Option Int) : mapV f (sbv b sz p n k) = f (sbv b sz p n k) := rfl
@[simp] theorem mapS_sbv (f : PV → PV) (b sz : Nat) (p n : Int) (k : Option Int) : mapS f (sbv b sz p n k) = f (sbv b sz p n k) := rfl
@[simp] theorem mapC_sbv (bs : List Nat) (f : PV → PV) (b sz : Nat) (p n : Int) (k : Option Int) : mapC bs f (sbv b sz p n k) = (match posOf bs b with | some j => sbv j sz p n k | none => f (sbv b sz p n k)) := rfl
@[simp] theorem renC_sbv (f : Nat → Nat) (b sz : Nat) (p n : Int) (k : Option Int) : renC f (sbv b sz p n k) = sbv (f b) sz p n k := rfl
@[simp] theorem forgC_sbv (i : List Nat) (b sz : Nat) (p n : Int) (k : Option Int) : forgC i (sbv b sz p n k) = if b ∈ i then .bad else sbv b sz p n k := rfl
@[simp] theorem okC_sbv (m b i s : Nat) (o n : Int) (c : Option Int) : okC m b (sbv i s o n c) = decide (i < b) := rfl
theorem elems_fl [CSz c sz] [CSh c] (l : List α) (p n : Int) (h0 : 0 ≤ p) (h1 : 0 ≤ n) (h2 : p + n ≤ l.length) : chunk sz n.toNat (((fl c l).drop (p.toNat * sz)).map PV.sh1) = mp c (sub l p (p + n)) := by
  rw [fl_drop, fl_sh, chunk_fl _ _ (by rw [List.length_drop]; omega)]
  unfold sub
  rw [List.drop_take]
  congr 2
  omega
@[simp] theorem slF_fl [CSz c sz] [CSh c] (o : Own) (l : List α) (p n : Int) (h0 : 0 ≤ p) (h1 : 0 ≤ n) (h2 : p + n ≤ l.length) : slF o (fl c l) sz p n = .sl sz (mp c (sub l p (p + n))) o := by
  unfold slF
  rw [elems_fl l p n h0 h1 h2, if_pos]
  rw [fl_length, ← Nat.add_mul]
  exact Nat.mul_le_mul_right _ (by omega)
end
section
variable {P : Program} {l : List GI} {st : St} {K : St → Prop} {α : Type} {c : α → List PV} {sz : Nat}
/-- make -/
theorem runR_mksT (z : α) {k k' : IntKind} {d : Slot} {bytes : Nat} {zs : List PV} {x y : PO} (N C : Int) (h1 : st.ev x = .v (.int k N)) (h2 : st.ev y = .v (.int k' C)) (hz : zs = c z) (h3 : 0 ≤ N) (h4 : N ≤ C) (h5 : C * bytes ≤ 140737488355328) (h6 : C ≤ 140737488355328)
    (hr : runR P l ⟨st.s.put d (sbv st.bx.length sz 0 N (some C)), st.bx ++ [fl c (List.replicate C.toNat z)], st.rw⟩ K) : runR P (⟨none, .mks d sz bytes zs x y⟩ :: l) st K := by
  have e1 : N = (N.toNat : Int) := by omega
  have e2 : C = (C.toNat : Int) := by omega
  rw [e1] at h1
  rw [e2] at h2
  refine runR_mks h1 h2 (by omega) (by have : ((C.toNat * bytes : Nat) : Int) ≤ 140737488355328 := by rw [Int.natCast_mul, ← e2]; exact h5
                                       generalize C.toNat * bytes = q at this ⊢; omega) (by omega) ?_
  have e3 : (List.replicate C.toNat zs).flatten = fl c (List.replicate C.toNat z) := by rw [hz]; simp [fl, mp]
  rw [e3]
  simpa [sbv] using hr
end
section
variable {P : Program} {l : List GI} {st : St} {K : St → Prop} {α : Type} {c : α → List PV} {sz : Nat} [CSz c sz]
theorem elems_sbv [CSh c] {bx : List (List PV)} {b : Nat} {p n : Int} {k : Option Int} (xs : List α) (hb : bx.getD b [] = fl c xs) (h0 : 0 ≤ p) (h1 : 0 ≤ n) (h2 : p + n ≤ xs.length) : elems bx sz (sbv b sz p n k) = some (mp c (sub xs p (p + n))) := by
  unfold elems sbv
  simp only
  rw [hb, elems_fl xs p n h0 h1 h2, if_pos]
  refine ⟨by trivial, ?_⟩
  rw [fl_length, ← Nat.add_mul]
  exact Nat.mul_le_mul_right _ (by omega)
/-- copy -/
theorem runR_cpyT {d : Slot} {x y : PO} {b : Nat} {p n : Int} {k : Option Int} (xs ys : List α) (h1 : st.ev x = sbv b sz p n k) (h2 : elems st.bx sz (st.ev y) = some (mp c ys)) (h3 : st.bx[b]? = some (fl c xs)) (h4 : 0 ≤ p) (h5 : 0 ≤ n) (h6 : p + n ≤ xs.length)
    (hr : runR P l ⟨st.s.put d (.v (.int .i64 (min n ys.length))), st.bx.set b (fl c (over xs p (ys.take n.toNat))), st.rw⟩ K) : runR P (⟨none, .cpy d x y sz⟩ :: l) st K := by
  refine runR_cpy h1 h2 h3 ?_ ?_
  · rw [fl_length, ← Nat.add_mul, mp_length]
    exact Nat.mul_le_mul_right _ (by omega)
  · have e1 : ((mp c ys).take n.toNat).flatten = fl c (ys.take n.toNat) := by simp [fl, mp]
    have e2 : ((min n.toNat (mp c ys).length : Nat) : Int) = min n ys.length := by rw [mp_length]; omega
    rw [e1, e2, setAt_fl]
    exact hr
/-- a cell of an element is written -/
theorem setAt_pev [Inhabited α] (xs : List α) (b : Nat) (i : Int) (fo : Nat) (cs : List PV) (x : α) (h : nat i < xs.length) (hf : fo + cs.length ≤ sz) (hx : setAt (c (at' xs i)) fo cs = c x) : setP (fl c xs) (pev b sz i fo) cs = fl c (put' xs i x) := by
  unfold setP
  have h2 : i.toNat < xs.length := by simpa [nat] using h
  have : at' xs i = xs[i.toNat] := by simp [at', h2]
  rw [this] at hx
  exact setAt_fld xs i.toNat fo cs x h2 hf hx
/-- clear -/
theorem runR_clrT (z : α) {x : PO} {zs : List PV} {b : Nat} {p n : Int} {k : Option Int} (xs : List α) (h1 : st.ev x = sbv b sz p n k) (hz : zs = c z) (h3 : st.bx[b]? = some (fl c xs)) (h4 : 0 ≤ p) (h5 : 0 ≤ n) (h6 : p + n ≤ xs.length)
    (hr : runR P l ⟨st.s, st.bx.set b (fl c (over xs p (List.replicate n.toNat z))), st.rw⟩ K) : runR P (⟨none, .clr x sz zs⟩ :: l) st K := by
  refine runR_clr h1 h3 ?_ ?_
  · rw [fl_length, ← Nat.add_mul]
    exact Nat.mul_le_mul_right _ (by omega)
  · have e1 : (List.replicate n.toNat zs).flatten = fl c (List.replicate n.toNat z) := by rw [hz]; simp [fl, mp]
    rw [e1, setAt_fl]
    exact hr
@[simp] theorem pbO_le (xs : List α) (b : Nat) (i : Int) (fo m : Nat) (h : nat i < xs.length) (hf : fo + m ≤ sz) : (pbO (pev b sz i fo) + m ≤ (fl c xs).length) = True := by
  have h2 : i.toNat < xs.length := by simpa [nat] using h
  simp only [eq_iff_iff, iff_true]
  show i.toNat * sz + fo + m ≤ _
  rw [fl_length]
  have : (i.toNat + 1) * sz ≤ xs.length * sz := Nat.mul_le_mul_right _ h2
  rw [Nat.add_mul] at this
  omega
@[simp] theorem pbO_lt (xs : List α) (b : Nat) (i : Int) (fo : Nat) (h : nat i < xs.length) (hf : fo + 1 ≤ sz) : (pbO (pev b sz i fo) < (fl c xs).length) = True := by
  have := pbO_le (c := c) xs b i fo 1 h hf
  simp only [eq_iff_iff, iff_true] at *
  omega
theorem lessBx_refl1 (cs : List PV) : lessBx [cs] [cs] := ⟨List.prefix_refl _, trivial⟩
theorem ksOk_one {n : Nat} (h : 0 < n) : ksOk 1 [] [0] n := by
  refine ⟨by simp, fun j hj => .inl ?_, by simp, by simpa using h, fun j hj k hk => ?_⟩
  · have : j = 0 := by omega
    subst this; rfl
  · match j, hj with
    | j + 1, _ => simp at hk
@[simp] theorem lessCap_sbv (b s b' s' : Nat) (o n o' n' : Int) (k k' : Option Int) : lessCap (sbv b s o n k) (sbv b' s' o' n' k') = (b = b' ∧ s = s' ∧ o.toNat * s = o'.toNat * s' ∧ n.toNat = n'.toNat ∧ (k.map Int.toNat = k'.map Int.toNat ∨ k'.map Int.toNat = none)) := rfl
@[simp] theorem wkC_sbv (b s b' s' : Nat) (o n o' n' : Int) (k k' : Option Int) : wkC (sbv b s o n k) (sbv b' s' o' n' k') = (b = b' ∧ s = s' ∧ o.toNat * s = o'.toNat * s' ∧ n.toNat = n'.toNat ∧ (k.map Int.toNat = k'.map Int.toNat ∨ k'.map Int.toNat = none)) := rfl
theorem PCallsB.w {f : FuncId} {us : List Nat} {bx bx' : List (List PV)} {args args' : List PV} {r : PV} (h : PCallsB P f us bx args' r bx') (ha : lessL args args') : PCallsB P f us bx args r bx' :=
  fun w D Dp G vs hD hDp hG hbx hR => h w D Dp G vs hD hDp hG hbx (lessL_rel (fun _ _ h => Or.inl h) hR ha)
/-- a call that lends one box, which holds a list -/
theorem runR_callm1 {β : Type} {c' : β → List PV} [CSh c'] [CSh c] {d : Slot} {n0 f b : Nat} {xs : List PO} {args' : List PV} {r : PV} (L : List α) (L' : List β) (h : PCallsB P f [] [fl c L] args' r [fl c' L']) (hb : st.bx[b]? = some (fl c L))
    (ha : lessL (xs.map fun x => mapS (mapC [b] (shareC st.bx)) (st.ev x)) args') (hr : runR P l ⟨st.s.put d (mapV (renC (back [b] st.bx.length)) r), st.bx.set b (fl c' L'), st.rw⟩ K) : runR P (⟨none, .callm d n0 f xs⟩ :: l) st K := by
  have hlt := (List.getElem?_eq_some_iff.1 hb).1
  have hg : st.bx.getD b [] = fl c L := by rw [List.getD_eq_getElem?_getD, hb]; rfl
  refine runR_callm [b] [] (h.w ha) (by simp) (by simpa using hlt) (by simp) (by simp) ?_ rfl ?_
  · simp only [List.map_cons, List.map_nil, hg, fl_mapC]
  · have e : (fl c' L').map (renC (back [b] st.bx.length)) = fl c' L' := fl_renC _ _
    simp only [List.map_nil, List.map_cons, forgS_nil, forgB_nil, setBx_cons, setBx_nil, e, List.append_nil]
    exact hr
/-- a call that hands back a new box, which holds a list -/
theorem runR_callm0 {β : Type} {c' : β → List PV} [CSh c'] {d : Slot} {n0 f : Nat} {xs : List PO} {args' : List PV} {r : PV} (L' : List β) (h : PCallsB P f [] [] args' r [fl c' L'])
    (ha : lessL (xs.map fun x => mapS (mapC [] (shareC st.bx)) (st.ev x)) args') (hr : runR P l ⟨st.s.put d (mapV (renC (back [] st.bx.length)) r), st.bx ++ [fl c' L'], st.rw⟩ K) : runR P (⟨none, .callm d n0 f xs⟩ :: l) st K := by
  refine runR_callm [] [] (h.w ha) (by simp) (by simp) (by simp) (by simp) rfl rfl ?_
  have e : (fl c' L').map (renC (back [] st.bx.length)) = fl c' L' := fl_renC _ _
  simp only [List.map_nil, List.map_cons, forgS_nil, forgB_nil, setBx_nil, e]
  exact hr
theorem ksOk_new {b n : Nat} (h : b < n) : ksOk 0 [] [b] n := ⟨by simp, fun j hj => by omega, by simp, by simpa using h, fun j hj k hk => by omega⟩
/-- the end of a function that hands back a new box -/
def finN (rs : List RV) (vs' : List PV) (bx' : List (List PV)) (st : St) : Prop := ∃ b, finB 0 [] [b] rs vs' bx' st
theorem pcallsN {ms : List Nat} (vs' : List PV) {f : FuncId} {pf : PFun} (hf : cFunB P 0 ms f = some pf) {args : List PV} {r : PV} {bx' : List (List PV)} (hr : retP vs' = r) (hn : (P.funcs[f]?.map (·.ntmps)).any (args.length ≤ ·) = true)
    (h : go P 0 (finN pf.res vs' bx') [.c pf.body] ⟨initS 0 args .nil, [], []⟩) : PCallsB P f [] [] args r bx' :=
  pcalls_gen hf rfl (fun _st ⟨b, h⟩ => ⟨[b], _, _, h.1, resIs_of h.2.1, h.2.2.1, hr.symm, h.2.2.2⟩) hn h
theorem nat_lt {i : Int} {n : Nat} (h0 : 0 ≤ i) (h : i < n) : nat i < n := by unfold nat; omega
/-- a part of such a slice -/
theorem runR_slbT {d : Slot} {x : PO} {lo hi : Option PO} {b : Nat} {p n : Int} {k : Option Int} (lo' hi' : Int) (h1 : st.ev x = sbv b sz p n k) (hb : match hi with | none => hi' = n | some h => ∃ j, st.ev h = .v (.int j hi')) (ha : match lo with | none => lo' = 0 | some h => ∃ j, st.ev h = .v (.int j lo'))
    (h0 : 0 ≤ p) (h2 : 0 ≤ n) (h3 : 0 ≤ lo') (h4 : lo' ≤ hi') (h5 : hi' ≤ n ∨ ∃ m, k = some m ∧ hi' ≤ m) (h6 : lo' < n ∨ ∃ m, k = some m ∧ lo' < m)
    (hr : runR P l (st.put d (sbv b sz (p + lo') (hi' - lo') (k.map (· - lo')))) K) : runR P (⟨none, .slc d x lo hi none sz⟩ :: l) st K := by
  have e1 : hi' = (hi'.toNat : Int) := by omega
  have e2 : lo' = (lo'.toNat : Int) := by omega
  refine runR_slb lo'.toNat hi'.toNat h1 ?_ ?_ ?_ ?_
  · cases hi with
    | none => show hi'.toNat = n.toNat; rw [show hi' = n from hb]
    | some h =>
      obtain ⟨j, hj⟩ := hb
      rw [e1] at hj
      refine ⟨j, hj, ?_⟩
      rcases h5 with h5 | ⟨m, rfl, h5⟩
      · left; omega
      · right; exact ⟨m.toNat, rfl, by omega⟩
  · cases lo with
    | none => show lo'.toNat = 0; rw [show lo' = 0 from ha]; rfl
    | some h =>
      obtain ⟨j, hj⟩ := ha
      rw [e2] at hj
      exact ⟨j, hj, by omega⟩
  · rcases h6 with h6 | ⟨m, rfl, h6⟩
    · left; omega
    · right; exact ⟨m.toNat, rfl, by omega⟩
  · have e3 : (p + lo').toNat * sz = p.toNat * sz + lo'.toNat * sz := by rw [← Nat.add_mul]; congr 1; omega
    have e4 : (hi' - lo').toNat = hi'.toNat - lo'.toNat := by omega
    have e5 : (k.map (· - lo')).map Int.toNat = (k.map Int.toNat).map (· - lo'.toNat) := by
      cases k with
      | none => rfl
      | some m => simp; omega
    unfold sbv at hr
    rw [e3, e4, e5] at hr
    exact hr
/-- an empty part -/
theorem runR_sl0T {d : Slot} {x : PO} {lo hi : Option PO} {b : Nat} {p n : Int} {k : Option Int} (a : Int) (h1 : st.ev x = sbv b sz p n k) (hb : match hi with | none => a = n | some h => ∃ j, st.ev h = .v (.int j a)) (ha : match lo with | none => a = 0 | some h => ∃ j, st.ev h = .v (.int j a))
    (h3 : 0 ≤ a) (h5 : a ≤ n ∨ ∃ m, k = some m ∧ a ≤ m) (hr : runR P l (st.put d (.sl sz [] .none)) K) : runR P (⟨none, .slc d x lo hi none sz⟩ :: l) st K := by
  have e1 : a = (a.toNat : Int) := by omega
  refine runR_sl0 a.toNat h1 ?_ ?_ hr
  · cases hi with
    | none => show a.toNat = n.toNat; rw [show a = n from hb]
    | some h =>
      obtain ⟨j, hj⟩ := hb
      rw [e1] at hj
      refine ⟨j, hj, ?_⟩
      rcases h5 with h5 | ⟨m, rfl, h5⟩
      · left; omega
      · right; exact ⟨m.toNat, rfl, by omega⟩
  · cases lo with
    | none => show a.toNat = 0; rw [show a = 0 from ha]; rfl
    | some h =>
      obtain ⟨j, hj⟩ := ha
      rw [e1] at hj
      exact ⟨j, hj, Nat.le_refl _⟩
end
end Go.Proofs.Ytdkancgcefklfaa
