/-
  Typed values over plain views: lists and structs as cells; checks and loops of functions that compute what the code computes.
-/
import Derived.Test.YtdkancgcefklfaaPH
namespace Go.Proofs.Ytdkancgcefklfaa
open Go.RowKit

/-! ### what the functions are made of -/
/-- a check that the code owes -/
def chk {α : Type} (c : Prop) [Decidable c] (k : Option α) : Option α := if c then k else none
theorem chk_elim {α : Type} {c : Prop} [Decidable c] {k : Option α} {r : α} (h : chk c k = some r) : c ∧ k = some r := by
  unfold chk at h; split at h
  · rename_i hc; exact ⟨hc, h⟩
  · cases h
theorem chk_pos {α : Type} {c : Prop} [Decidable c] {k : Option α} (h : c) : chk c k = k := if_pos h
theorem bind_elim {α β : Type} {x : Option α} {f : α → Option β} {r : β} (h : x.bind f = some r) : ∃ v, x = some v ∧ f v = some r := Option.bind_eq_some_iff.1 h
abbrev I64 (n : Int) : Prop := -9223372036854775808 ≤ n ∧ n ≤ 9223372036854775807
abbrev U8 (n : Int) : Prop := 0 ≤ n ∧ n ≤ 255
/-- an element of a list by a number -/
def at' {α : Type} [Inhabited α] (l : List α) (i : Int) : α := l.getD i.toNat default
/-- a part of a list -/
def sub {α : Type} (l : List α) (a b : Int) : List α := (l.take b.toNat).drop a.toNat
def loopN {σ ρ : Type} : Nat → (σ → Option (σ ⊕ ρ)) → σ → Option ρ
  | 0, _, _ => none
  | n + 1, f, s => match f s with
    | none => none
    | some (.inl s') => loopN n f s'
    | some (.inr r) => some r
def fuel : Nat := 18446744073709551616
/-- a loop: a round after the other, until one leaves it -/
def loop {σ ρ : Type} (f : σ → Option (σ ⊕ ρ)) (s : σ) : Option ρ := loopN fuel f s
def cont {σ ρ : Type} (n : Nat) (f : σ → Option (σ ⊕ ρ)) : σ ⊕ ρ → Option ρ
  | .inl s => loopN n f s
  | .inr r => some r
theorem loopN_elim {σ ρ : Type} {f : σ → Option (σ ⊕ ρ)} : ∀ {n : Nat} {s : σ} {r : ρ}, loopN n f s = some r → ∃ m o, n = m + 1 ∧ f s = some o ∧ cont m f o = some r
  | 0, _, _, h => by cases h
  | n + 1, s, r, h => by
    simp only [loopN] at h
    split at h
    · cases h
    · rename_i s' hs; exact ⟨n, _, rfl, hs, h⟩
    · rename_i r' hs; exact ⟨n, _, rfl, hs, h⟩
theorem loopN_inv {σ ρ : Type} {f : σ → Option (σ ⊕ ρ)} (J : σ → Prop) (μ : σ → Nat) (Q : ρ → Prop) (hs : ∀ s, J s → (∃ s', f s = some (.inl s') ∧ J s' ∧ μ s' < μ s) ∨ ∃ r, f s = some (.inr r) ∧ Q r) :
    ∀ n s, J s → μ s < n → ∃ r, loopN n f s = some r ∧ Q r
  | 0, s, _, h => absurd h (by omega)
  | n + 1, s, h0, h => by
    rcases hs s h0 with ⟨s', h1, h2, h3⟩ | ⟨r, h1, h2⟩
    · simp only [loopN, h1]
      exact loopN_inv J μ Q hs n s' h2 (by omega)
    · simp only [loopN, h1]; exact ⟨r, rfl, h2⟩
/-- a loop, by what holds at its head -/
theorem loop_inv {σ ρ : Type} {f : σ → Option (σ ⊕ ρ)} (J : σ → Prop) (μ : σ → Nat) (Q : ρ → Prop) {s : σ} (h0 : J s) (hμ : μ s < 18446744073709551616) (hs : ∀ s, J s → (∃ s', f s = some (.inl s') ∧ J s' ∧ μ s' < μ s) ∨ ∃ r, f s = some (.inr r) ∧ Q r) :
    ∃ r, loop f s = some r ∧ Q r := loopN_inv J μ Q hs fuel s h0 hμ
/-- the same, where the result is known -/
theorem loop_eq {σ ρ : Type} {f : σ → Option (σ ⊕ ρ)} (J : σ → Prop) (μ : σ → Nat) {s : σ} {r : ρ} (h0 : J s) (hμ : μ s < 18446744073709551616) (hs : ∀ s, J s → (∃ s', f s = some (.inl s') ∧ J s' ∧ μ s' < μ s) ∨ f s = some (.inr r)) :
    loop f s = some r := by
  obtain ⟨r', h1, rfl⟩ := loop_inv J μ (· = r) h0 hμ (fun s hj => (hs s hj).imp id fun h => ⟨r, h, rfl⟩)
  exact h1

/-! ### lists as cells -/
/-- a list's elements, each as its cells -/
def mp {α : Type} (c : α → List PV) (l : List α) : List (List PV) := l.map c
@[simp] theorem mp_length {α : Type} (c : α → List PV) (l : List α) : (mp c l).length = l.length := by simp [mp]
@[simp] theorem mp_nil_iff {α : Type} (c : α → List PV) (l : List α) : mp c l = [] ↔ l = [] := by simp [mp]
@[simp] theorem mp_nil_iff' {α : Type} (c : α → List PV) (l : List α) : [] = mp c l ↔ l = [] := by simp [mp, eq_comm]
@[simp] theorem mp_getD {α : Type} [Inhabited α] (c : α → List PV) (l : List α) (i : Int) (h : nat i < l.length) : (mp c l)[nat i]?.getD [] = c (at' l i) := by
  simp only [nat] at *; simp [mp, at', h]
@[simp] theorem mp_get {α : Type} [Inhabited α] (c : α → List PV) (l : List α) (i : Int) (h : nat i < (mp c l).length) : (mp c l)[nat i] = c (at' l i) := by
  have h2 : i.toNat < l.length := by simpa [nat] using h
  simp [mp, at', nat, h2]
@[simp] theorem str_get (l : List UInt8) (i : Int) (h : nat i < l.length) : l[nat i] = at' l i := by
  have h2 : i.toNat < l.length := by simpa [nat] using h
  simp [at', nat, h2]
@[simp] theorem str_at (l : List UInt8) (i : Int) : l[nat i]?.getD 0 = at' l i := by
  simp only [nat]; simp [at', List.getD_eq_getElem?_getD]; rfl
theorem toNat_lt {i : Int} {n : Nat} (h0 : 0 ≤ i) (h : i < n) : nat i < n := by unfold nat; omega
theorem mp_app {α : Type} (c : α → List PV) (l m : List α) : mp c l ++ mp c m = mp c (l ++ m) := by simp [mp]
theorem mp_sub {α : Type} (c : α → List PV) (l : List α) (a b : Int) : (((mp c l).take b.toNat).drop a.toNat) = mp c (sub l a b) := by simp [mp, sub]

section
variable {P : Program} {l : List GI} {st : St} {K : St → Prop}
theorem runC_t {f : FuncId} {args : List PV} {d : Slot} {args' : List PV} {v : PV} (h : PCalls P f args' v) (ha : lessL args args') (hr : runR P l (st.put d v) K) : runC P f args d l st K := by
  refine ⟨v, ?_, hr⟩
  intro w D Dp G vs hD hDp hG hbx hR
  exact h w D Dp G vs hD hDp hG hbx (lessL_rel (fun _ _ h => Or.inl h) hR ha)
/-- append onto a list whose capacity is its length -/
theorem runR_apfT {α : Type} (c : α → List PV) (out ys : List α) {d : Slot} {s x : PO} {sz bytes n0 : Nat} {e : TypeId} {s1 : Nat} (h1 : st.ev s = .sl s1 (mp c out) .full) (h2 : elems st.bx sz (st.ev x) = some (mp c ys)) (h3 : s1 = sz ∨ out = [])
    (hb : (out.length + ys.length) * bytes ≤ 140737488355328)
    (hr : runR P l ⟨st.s.put d (.sl sz (mp c (out ++ ys)) (.id st.rw.length)), st.bx, st.rw ++ [out.length + ys.length]⟩ K) (hbp : 0 < bytes) : runR P (⟨none, .app d s x sz bytes n0 e⟩ :: l) st K := by
  have hle : out.length + ys.length ≤ 140737488355328 := Nat.le_trans (Nat.le_mul_of_pos_right _ hbp) hb
  refine runR_apf h1 h2 (by simpa using h3) (by simpa using hb) (by simp; omega) ?_
  rw [mp_app]; simpa using hr
theorem runR_apiT {α : Type} (c : α → List PV) (out ys : List α) {d : Slot} {s x : PO} {sz bytes n0 k : Nat} {e : TypeId} (h1 : st.ev s = .sl sz (mp c out) (.id k)) (h2 : elems st.bx sz (st.ev x) = some (mp c ys)) (h3 : st.rw[k]? = some out.length)
    (hb : (out.length + ys.length) * bytes ≤ 140737488355328)
    (hr : runR P l ⟨st.s.put d (.sl sz (mp c (out ++ ys)) (.id k)), st.bx, st.rw.set k (out.length + ys.length)⟩ K) (hbp : 0 < bytes) : runR P (⟨none, .app d s x sz bytes n0 e⟩ :: l) st K := by
  have hle : out.length + ys.length ≤ 140737488355328 := Nat.le_trans (Nat.le_mul_of_pos_right _ hbp) hb
  refine runR_api h1 h2 (by simpa using h3) (by simpa using hb) (by simp; omega) ?_
  rw [mp_app]; simpa using hr
theorem elems_mp {α : Type} (c : α → List PV) (bx : List (List PV)) (sz : Nat) (ys : List α) (o : Own) : elems bx sz (.sl sz (mp c ys) o) = some (mp c ys) := by simp [elems]
theorem elems_nil {α : Type} (c : α → List PV) (bx : List (List PV)) (sz s : Nat) (o : Own) : elems bx sz (.sl s [] o) = some (mp c []) := by simp [elems, mp]
/-- parts of lists: with both bounds, without the one or the other -/
theorem runR_slcT {α : Type} (c : α → List PV) (xs : List α) (a b : Int) (o' : Own) {d : Slot} {x : PO} {lo hi : Option PO} {sz s : Nat} {o : Own} (h1 : st.ev x = .sl s (mp c xs) o) (h2 : s = sz ∨ xs = [])
    (hb : match hi with | none => b = xs.length | some h => ∃ k, st.ev h = .v (.int k b)) (ha : match lo with | none => a = 0 | some l => ∃ k, st.ev l = .v (.int k a)) (h0 : 0 ≤ a) (h3 : a ≤ b) (h4 : b ≤ xs.length)
    (h5 : isFull (mp c xs) b.toNat o o') (hr : runR P l (st.put d (.sl s (mp c (sub xs a b)) o')) K) : runR P (⟨none, .slc d x lo hi none sz⟩ :: l) st K := by
  have hb' : b = (b.toNat : Int) := by omega
  have ha' : a = (a.toNat : Int) := by omega
  refine runR_slc a.toNat b.toNat o' h1 (by simpa using h2) ?_ ?_ h5 ?_
  · cases hi with
    | none => show b.toNat = (mp c xs).length; simp at hb ⊢; omega
    | some h => obtain ⟨k, hk⟩ := hb; rw [hb'] at hk; exact ⟨k, hk, by simp; omega⟩
  · cases lo with
    | none => show a.toNat = 0; simp at ha; omega
    | some h => obtain ⟨k, hk⟩ := ha; rw [ha'] at hk; exact ⟨k, hk, by omega⟩
  · rw [mp_sub]; exact hr
theorem runR_slc00 {α : Type} (c : α → List PV) (xs : List α) (o' : Own) {d : Slot} {x : PO} {sz s : Nat} {o : Own} (h1 : st.ev x = .sl s (mp c xs) o) (h2 : s = sz ∨ xs = [])
    (h5 : isFull (mp c xs) (xs.length : Int).toNat o o') (hr : runR P l (st.put d (.sl s (mp c (sub xs 0 xs.length)) o')) K) : runR P (⟨none, .slc d x none none none sz⟩ :: l) st K :=
  runR_slcT c xs 0 xs.length o' h1 h2 rfl rfl (Int.le_refl 0) (by omega) (Int.le_refl _) h5 hr
theorem runR_slc10 {α : Type} (c : α → List PV) (xs : List α) (a : Int) (o' : Own) {k : IntKind} {d : Slot} {x y : PO} {sz s : Nat} {o : Own} (h1 : st.ev x = .sl s (mp c xs) o) (h2 : s = sz ∨ xs = []) (ha : st.ev y = .v (.int k a)) (h0 : 0 ≤ a) (h3 : a ≤ xs.length)
    (h5 : isFull (mp c xs) (xs.length : Int).toNat o o') (hr : runR P l (st.put d (.sl s (mp c (sub xs a xs.length)) o')) K) : runR P (⟨none, .slc d x (some y) none none sz⟩ :: l) st K :=
  runR_slcT c xs a xs.length o' h1 h2 rfl ⟨k, ha⟩ h0 h3 (Int.le_refl _) h5 hr
theorem runR_slc01 {α : Type} (c : α → List PV) (xs : List α) (b : Int) (o' : Own) {k : IntKind} {d : Slot} {x y : PO} {sz s : Nat} {o : Own} (h1 : st.ev x = .sl s (mp c xs) o) (h2 : s = sz ∨ xs = []) (hb : st.ev y = .v (.int k b)) (h3 : 0 ≤ b) (h4 : b ≤ xs.length)
    (h5 : isFull (mp c xs) b.toNat o o') (hr : runR P l (st.put d (.sl s (mp c (sub xs 0 b)) o')) K) : runR P (⟨none, .slc d x none (some y) none sz⟩ :: l) st K :=
  runR_slcT c xs 0 b o' h1 h2 ⟨k, hb⟩ rfl (Int.le_refl 0) h3 h4 h5 hr
theorem runR_slc11 {α : Type} (c : α → List PV) (xs : List α) (a b : Int) (o' : Own) {k j : IntKind} {d : Slot} {x y z : PO} {sz s : Nat} {o : Own} (h1 : st.ev x = .sl s (mp c xs) o) (h2 : s = sz ∨ xs = []) (ha : st.ev y = .v (.int k a)) (hb : st.ev z = .v (.int j b)) (h0 : 0 ≤ a) (h3 : a ≤ b) (h4 : b ≤ xs.length)
    (h5 : isFull (mp c xs) b.toNat o o') (hr : runR P l (st.put d (.sl s (mp c (sub xs a b)) o')) K) : runR P (⟨none, .slc d x (some y) (some z) none sz⟩ :: l) st K :=
  runR_slcT c xs a b o' h1 h2 ⟨j, hb⟩ ⟨k, ha⟩ h0 h3 h4 h5 hr
theorem runR_slsT (xs : List UInt8) (a b : Int) {d : Slot} {x : PO} {lo hi : Option PO} (h1 : st.ev x = .str xs)
    (hb : match hi with | none => b = xs.length | some h => ∃ k, st.ev h = .v (.int k b)) (ha : match lo with | none => a = 0 | some l => ∃ k, st.ev l = .v (.int k a)) (h0 : 0 ≤ a) (h3 : a ≤ b) (h4 : b ≤ xs.length)
    (hr : runR P l (st.put d (.str (sub xs a b))) K) : runR P (⟨none, .sls d x lo hi⟩ :: l) st K := by
  have hb' : b = (b.toNat : Int) := by omega
  have ha' : a = (a.toNat : Int) := by omega
  refine runR_sls a.toNat b.toNat h1 ?_ ?_ ?_
  · cases hi with
    | none => show b.toNat = xs.length; simp at hb ⊢; omega
    | some h => obtain ⟨k, hk⟩ := hb; rw [hb'] at hk; exact ⟨k, hk, by omega⟩
  · cases lo with
    | none => show a.toNat = 0; simp at ha; omega
    | some h => obtain ⟨k, hk⟩ := ha; rw [ha'] at hk; exact ⟨k, hk, by omega⟩
  · exact hr
theorem runR_sls00 (xs : List UInt8) {d : Slot} {x : PO} (h1 : st.ev x = .str xs) (hr : runR P l (st.put d (.str (sub xs 0 xs.length))) K) : runR P (⟨none, .sls d x none none⟩ :: l) st K :=
  runR_slsT xs 0 xs.length h1 rfl rfl (Int.le_refl 0) (by omega) (Int.le_refl _) hr
theorem runR_sls10 (xs : List UInt8) (a : Int) {k : IntKind} {d : Slot} {x y : PO} (h1 : st.ev x = .str xs) (ha : st.ev y = .v (.int k a)) (h0 : 0 ≤ a) (h3 : a ≤ xs.length) (hr : runR P l (st.put d (.str (sub xs a xs.length))) K) : runR P (⟨none, .sls d x (some y) none⟩ :: l) st K :=
  runR_slsT xs a xs.length h1 rfl ⟨k, ha⟩ h0 h3 (Int.le_refl _) hr
theorem runR_sls01 (xs : List UInt8) (b : Int) {k : IntKind} {d : Slot} {x y : PO} (h1 : st.ev x = .str xs) (hb : st.ev y = .v (.int k b)) (h3 : 0 ≤ b) (h4 : b ≤ xs.length) (hr : runR P l (st.put d (.str (sub xs 0 b))) K) : runR P (⟨none, .sls d x none (some y)⟩ :: l) st K :=
  runR_slsT xs 0 b h1 ⟨k, hb⟩ rfl (Int.le_refl 0) h3 h4 hr
theorem runR_sls11 (xs : List UInt8) (a b : Int) {k j : IntKind} {d : Slot} {x y z : PO} (h1 : st.ev x = .str xs) (ha : st.ev y = .v (.int k a)) (hb : st.ev z = .v (.int j b)) (h0 : 0 ≤ a) (h3 : a ≤ b) (h4 : b ≤ xs.length) (hr : runR P l (st.put d (.str (sub xs a b))) K) : runR P (⟨none, .sls d x (some y) (some z)⟩ :: l) st K :=
  runR_slsT xs a b h1 ⟨j, hb⟩ ⟨k, ha⟩ h0 h3 h4 hr
end

/-! ### cells of plain elements -/
def cInt (n : Int) : List PV := [.v (.int .i64 n)]
def cU8 (n : UInt8) : List PV := [.v (.int .u8 n.toNat)]
def cBool (b : Bool) : List PV := [.v (.bool b)]
def cStr (s : List UInt8) : List PV := [.str s]
@[simp] theorem cInt_eq (n : Int) : cInt n = [.v (.int .i64 n)] := rfl
@[simp] theorem cU8_eq (n : UInt8) : cU8 n = [.v (.int .u8 n.toNat)] := rfl
@[simp] theorem cBool_eq (b : Bool) : cBool b = [.v (.bool b)] := rfl
@[simp] theorem cStr_eq (s : List UInt8) : cStr s = [.str s] := rfl
@[simp] theorem mp_nil {α : Type} (c : α → List PV) : mp c [] = [] := rfl
@[simp] theorem mp_cons {α : Type} (c : α → List PV) (x : α) (l : List α) : mp c (x :: l) = c x :: mp c l := rfl
theorem elems_str (bx : List (List PV)) (s : List UInt8) : elems bx 1 (.str s) = some (mp cU8 s) := by simp [elems, mp, cU8]
theorem unB_mp : ∀ l : List UInt8, unB (mp cU8 l) = some l
  | [] => rfl
  | x :: l => by
    have h := UInt8.toNat_lt x
    have := unB_mp l
    simp only [mp_cons, cU8, unB]
    rw [if_pos ⟨by omega, by omega⟩, this]
    simp
@[simp] theorem w64_u8 (x : UInt8) : IntKind.i64.wrap (x.toNat : Int) = (x.toNat : Int) := w64 (by have := UInt8.toNat_lt x; omega)
@[simp] theorem w8_any (n : Int) : IntKind.u8.wrap n = ((UInt8.ofInt n).toNat : Int) := by
  simp [IntKind.wrap, IntKind.bits, IntKind.signed, UInt8.ofInt]
  omega
section
variable {P : Program} {l : List GI} {st : St} {K : St → Prop}
theorem runR_csbT (s : List UInt8) {d : Slot} {x : PO} (h1 : st.ev x = .str s) (h2 : s.length ≤ 4611686018427387904) (hr : runR P l (st.put d (.sl 1 (mp cU8 s) .none)) K) : runR P (⟨none, .csb d x⟩ :: l) st K := by
  rw [runR_csb, h1]
  exact ⟨trivial, h2, hr⟩
end

/-- what a function holds of its surroundings, where it is handed on -/
structure CapOk (cs : List PV) : Prop where
  sc : ∀ bx, cs.map (shareC bx) = cs
  mc : ∀ bs bx, cs.map (mapC bs (shareC bx)) = cs
  rf : lessL cs cs
  rw : wkCs cs cs
  oc : ∀ m b, cs.all (okC m b) = true
@[simp] theorem wrap_id {n : Int} (h1 : -9223372036854775808 ≤ n) (h2 : n ≤ 9223372036854775807) : IntKind.i64.wrap n = n := w64 ⟨h1, h2⟩
@[simp] theorem bits_i8 : IntKind.i8.bits = 8 := rfl
@[simp] theorem bits_i16 : IntKind.i16.bits = 16 := rfl
@[simp] theorem bits_i32 : IntKind.i32.bits = 32 := rfl
@[simp] theorem bits_i64 : IntKind.i64.bits = 64 := rfl
@[simp] theorem bits_u8 : IntKind.u8.bits = 8 := rfl
@[simp] theorem bits_u16 : IntKind.u16.bits = 16 := rfl
@[simp] theorem bits_u32 : IntKind.u32.bits = 32 := rfl
@[simp] theorem bits_u64 : IntKind.u64.bits = 64 := rfl
theorem wu64 {n : Int} (h : 0 ≤ n ∧ n ≤ 18446744073709551615) : IntKind.u64.wrap n = n := by
  simp only [IntKind.wrap, IntKind.bits, IntKind.signed]; simp; omega
@[simp] theorem wu64_id {n : Int} (h1 : 0 ≤ n) (h2 : n ≤ 18446744073709551615) : IntKind.u64.wrap n = n := wu64 ⟨h1, h2⟩
theorem wu32 {n : Int} (h : 0 ≤ n ∧ n ≤ 4294967295) : IntKind.u32.wrap n = n := by
  simp only [IntKind.wrap, IntKind.bits, IntKind.signed]; simp; omega
@[simp] theorem wu32_id {n : Int} (h1 : 0 ≤ n) (h2 : n ≤ 4294967295) : IntKind.u32.wrap n = n := wu32 ⟨h1, h2⟩
/-! ### choices, joins, loops -/
theorem selP_ite {p A B : Prop} {w : SelW A B} {α : Type} {c : Prop} [Decidable c] {x y : Option α} {r : α} (h : (if c then x else y) = some r) (hp : p ↔ c) (h1 : c → p → x = some r → A) (h2 : ¬ c → ¬ p → y = some r → B) : selP p A B w := by
  refine ⟨fun k => ?_, fun k => ?_⟩
  · have k' := k; rw [hp] at k; rw [if_pos k] at h; exact h1 k k' h
  · have k' := k; rw [hp] at k; rw [if_neg k] at h; exact h2 k k' h
theorem selP_ite2 {p A B : Prop} {w : SelW A B} {α : Type} {c : Prop} [Decidable c] {x y : Option α} {r : α} (h : (if c then x else y) = some r) (hp : p ↔ ¬ c) (h1 : c → ¬ p → x = some r → B) (h2 : ¬ c → p → y = some r → A) : selP p A B w := by
  refine ⟨fun k => ?_, fun k => ?_⟩
  · have k' := k; rw [hp] at k; rw [if_neg k] at h; exact h2 k k' h
  · have k' := k; rw [hp, Classical.not_not] at k; rw [if_pos k] at h; exact h1 k k' h
section
variable {P : Program} {n0 : Nat} {Q : St → Prop} {k : List KI} {st : St}
theorem go_loop {σ ρ ε : Type} {n1 : Nat} {ds : List Slot} {b : PC} {f : σ → Option (σ ⊕ ρ)} {s0 : σ} {rr : ρ} (h : loop f s0 = some rr) (x : Nat) (inj : ε → ρ)
    (L : σ → List (Slot × PV)) (B : σ → List (List PV)) (R : σ → List Nat) (LE : ε → List (Slot × PV)) (BE : ε → List (List PV)) (RE : ε → List Nat) (hw : WkN n0 st (headS st ds (L s0) (B s0) (R s0)))
    (hE : ∀ e, rr = inj e → goX P n0 Q x k (headS st ds (LE e) (BE e) (RE e)))
    (hr : ∀ (s : σ) (o : σ ⊕ ρ) (B' E' : St → Prop), f s = some o → (∀ s' st', o = .inl s' → WkN n0 st' (headS st ds (L s') (B s') (R s')) → B' st') →
      (∀ e st', o = .inr (inj e) → WkN n0 st' (headS st ds (LE e) (BE e) (RE e)) → E' st') → (∀ r', o = .inr r' → rr = r') → go P n0 Q (.c b :: .l B' x E' :: k) (headS st ds (L s) (B s) (R s))) :
    go P n0 Q (.c (.loop n1 ds b) :: k) st := by
  refine loop_of (fun p : Nat × σ => loopN p.1 f p.2 = some rr) (fun p => p.1) (fun p => L p.2) (fun p => B p.2) (fun p => R p.2) (fuel, s0) x (fun e => rr = inj e) LE BE RE h hw hE ?_
  rintro ⟨n, s⟩ hJ
  obtain ⟨m, o, rfl, ho, hc⟩ := loopN_elim hJ
  refine hr s o _ _ ho ?_ ?_ ?_
  · rintro s' st' rfl hwk
    exact ⟨(m, s'), hc, Nat.lt_succ_self m, hwk⟩
  · rintro e st' rfl hwk
    exact ⟨e, (Option.some.inj hc).symm, hwk⟩
  · rintro r' rfl
    exact (Option.some.inj hc).symm
/-- code whose start may be told otherwise -/
def Soft (P : Program) (n0 : Nat) (Q : St → Prop) (k : List KI) : Prop := ∀ st st2, WkN n0 st st2 → go P n0 Q k st2 → go P n0 Q k st
theorem soft_c {x : PC} : Soft P n0 Q (.c x :: k) := fun _ _ h h2 => go_wk h h2
theorem soft_b {i : Nat} (h : Soft P n0 Q k) : Soft P n0 Q (.b i :: k) := h
theorem go_mid {c : PC} {E : St → Prop} (hE : ∀ st, E st → go P n0 Q k st) (h : go P n0 Q (.c c :: .l E 1000000 (fun _ => False) :: k) st) : go P n0 Q (.c c :: k) st := by
  obtain ⟨st2, h1, h2⟩ := h
  refine ⟨st2, h1, pwp_mono (fun e st h => ?_) h2⟩
  cases e with
  | norm => exact hE st h
  | ret => exact h
  | exit i =>
    simp only [goK] at h
    split at h
    · exact h.elim
    · exact h
theorem go_join {α ρ : Type} {c : PC} {m : Option α} {f : α → Option ρ} {r : ρ} (h : m.bind f = some r) (ds : List Slot) (L : α → List (Slot × PV)) (B : α → List (List PV)) (R : α → List Nat) (hs : Soft P n0 Q k)
    (hE : ∀ v, f v = some r → go P n0 Q k (headS st ds (L v) (B v) (R v)))
    (hr : ∀ v (E : St → Prop), m = some v → (∀ st', WkN n0 st' (headS st ds (L v) (B v) (R v)) → E st') → go P n0 Q (.c c :: .l E 1000000 (fun _ => False) :: k) st) : go P n0 Q (.c c :: k) st := by
  obtain ⟨v, h1, h2⟩ := bind_elim h
  exact go_mid (fun st h => h) (hr v _ h1 fun st' hw => hs _ _ hw (hE v h2))
theorem go_join2 {α ε ρ : Type} {c : PC} {m : Option (ε ⊕ α)} {f : ε ⊕ α → Option ρ} {r : ρ} (h : m.bind f = some r) (ds : List Slot) (L : α → List (Slot × PV)) (B : α → List (List PV)) (R : α → List Nat) (hs : Soft P n0 Q k)
    (hE : ∀ v, f (.inr v) = some r → go P n0 Q k (headS st ds (L v) (B v) (R v)))
    (hr : ∀ o (E : St → Prop), m = some o → f o = some r → (∀ v st', o = .inr v → WkN n0 st' (headS st ds (L v) (B v) (R v)) → E st') → go P n0 Q (.c c :: .l E 1000000 (fun _ => False) :: k) st) : go P n0 Q (.c c :: k) st := by
  obtain ⟨o, h1, h2⟩ := bind_elim h
  exact go_mid (fun st h => h) (hr o _ h1 h2 fun v st' ho hw => hs _ _ hw (hE v (ho ▸ h2)))
theorem run_join {α ρ : Type} {l : List GI} {m : Option α} {f : α → Option ρ} {r : ρ} (h : m.bind f = some r) (ds : List Slot) (L : α → List (Slot × PV)) (B : α → List (List PV)) (R : α → List Nat) (hs : Soft P n0 Q k)
    (hE : ∀ v, f v = some r → go P n0 Q k (headS st ds (L v) (B v) (R v)))
    (hr : ∀ v (E : St → Prop), m = some v → (∀ st', WkN n0 st' (headS st ds (L v) (B v) (R v)) → E st') → runR P l st (go P n0 Q (.l E 1000000 (fun _ => False) :: k))) : runR P l st (go P n0 Q k) := by
  obtain ⟨v, h1, h2⟩ := bind_elim h
  exact runR_mono l _ _ st (fun st h => h) (hr v _ h1 fun st' hw => hs _ _ hw (hE v h2))
end
attribute [simp] isFull
end Go.Proofs.Ytdkancgcefklfaa
