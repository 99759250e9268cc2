/-
  Words on memory for the walks of this seat: a slice that lies in memory, a row of the call's own, append of one element and of many.
-/
import Derived.WalkKit
import Derived.ProofKit
import Derived.OpenShut
import Derived.WalkSpells
import Derived.Lib.Hide
import Derived.Deep.QuietTactic
import Derived.BigQuiet
import Derived.Deep.Draws
import Derived.Deep.AppendLies
import Derived.Maps.AppendAt
namespace Go.Proofs.Ytdkancgcefklfaa
open Go.RowKit

/-- the numbers of an element type -/
def EInfo (P : Program) (e : TypeId) (z : Value) (sz bytes : Nat) : Prop := (P.info? e).map (fun i => (i.zero, i.size, i.bytes)) = some (some z, sz, bytes)

/-- a byte as the model holds it -/
def bV (c : UInt8) : Value := .int .u8 c.toNat
/-- a text as the model holds it -/
def sV (l : List UInt8) : Value := .string ⟨l.toArray⟩
theorem sV_toList (s : ByteArray) : sV s.data.toList = .string s := by simp [sV]
theorem str_app (a b : List UInt8) : (ByteArray.mk a.toArray) ++ (ByteArray.mk b.toArray) = ByteArray.mk (a ++ b).toArray := by
  apply ByteArray.ext; simp
theorem str_size (a : List UInt8) : (ByteArray.mk a.toArray).size = a.length := by simp [ByteArray.size]
theorem ret_bool {a b : Bool} (h : a = b) : Ending.returned (.bool a) = .returned (.bool b) := by rw [h]
theorem ret_str {a b : ByteArray} (h : a = b) : Ending.returned (.string a) = .returned (.string b) := by rw [h]
theorem ret_int {k : IntKind} {a b : Int} (h : a = b) : Ending.returned (.int k a) = .returned (.int k b) := by rw [h]
theorem take_snoc (s : ByteArray) (k : Nat) (h : k < s.size) : s.data.toList.take (k + 1) = s.data.toList.take k ++ [s[k]] := by
  rw [List.take_succ_eq_append_getElem (by simpa using h)]; rfl
theorem take_snoc' {α : Type} (s : List α) (k : Nat) (h : k < s.length) : s.take (k + 1) = s.take k ++ [s[k]] := List.take_succ_eq_append_getElem h

/-- the cells xs lie at the slice's address, in a block below B; nothing is said where there are none -/
def Lies (w : World) (B : Nat) (A : Option Addr) (xs : List Value) : Prop :=
  xs ≠ [] → ∃ b o, A = some ⟨b, o, none⟩ ∧ b < B ∧ ∀ j (h : j < xs.length), w.cell? ⟨b, o + j, none⟩ = some xs[j]

section
variable {w w' : World} {B B' : Nat} {A : Option Addr} {xs : List Value}
theorem Lies.nil (w : World) (B : Nat) (A : Option Addr) : Lies w B A [] := fun h => absurd rfl h
theorem Lies.at_ {k : Nat} (h : Lies w B A xs) (hk : k < xs.length) : ∃ b o, A = some ⟨b, o, none⟩ ∧ b < B ∧ w.cell? ⟨b, o + k, none⟩ = some xs[k] := by
  obtain ⟨b, o, rfl, hb, hc⟩ := h (by rintro rfl; simp at hk)
  exact ⟨b, o, rfl, hb, hc k hk⟩
theorem Lies.keep (h : Lies w B A xs) (hk : ∀ b o, b < B → w'.cell? ⟨b, o, none⟩ = w.cell? ⟨b, o, none⟩) : Lies w' B A xs := fun hn => by
  obtain ⟨b, o, e, hb, hc⟩ := h hn
  exact ⟨b, o, e, hb, fun j hj => (hk _ _ hb).trans (hc j hj)⟩
theorem Lies.more (h : Lies w B A xs) (hB : B ≤ B') : Lies w B' A xs := fun hn => by
  obtain ⟨b, o, e, hb, hc⟩ := h hn
  exact ⟨b, o, e, by omega, hc⟩
theorem Lies.below (h : Lies w B A xs) (hb : Below B w w') : Lies w' B A xs := h.keep fun _ _ hp => hb.cell (p := ⟨_, _, none⟩) hp
theorem Lies.drew (h : Lies w B A xs) : Lies w.drew B A xs := h
theorem Lies.drewN (h : Lies w B A xs) (k : Nat) : Lies (w.drewN k) B A xs := h
theorem Lies.drop {b o : Nat} (h : Lies w B (some ⟨b, o, none⟩) xs) (k : Nat) : Lies w B (some ⟨b, o + k, none⟩) (xs.drop k) := fun hn => by
  obtain ⟨b', o', e, hb, hc⟩ := h (by rintro rfl; simp at hn)
  simp only [Option.some.injEq, Addr.mk.injEq, and_true] at e
  obtain ⟨rfl, rfl⟩ := e
  refine ⟨_, _, rfl, hb, fun j hj => ?_⟩
  have := hc (k + j) (by simp at hj; omega)
  rw [Nat.add_assoc, this, List.getElem_drop]
theorem Lies.take (h : Lies w B A xs) (k : Nat) : Lies w B A (xs.take k) := fun hn => by
  obtain ⟨b', o', e, hb, hc⟩ := h (by rintro rfl; simp at hn)
  exact ⟨_, _, e, hb, fun j hj => by rw [List.getElem_take]; exact hc j (by simp at hj; omega)⟩
end

section
variable {w w' : World} {base : Nat} {e : TypeId} {sz : Nat} {v : Value} {n : Nat} {xs : List Value}
/-- what a row of the call's own is -/
theorem ownsRow_form (h : w.ownsRow base e sz v n xs) : ∃ A cap, v = .slice A n cap ∧ Lies w w.heap.size A xs ∧ (∀ g, v.ownBlock = some g → base ≤ g ∧ g < w.heap.size) ∧ n ≤ cap ∧ cap ≤ maxLen ∧
    (A = none ∨ ∃ g, A = some ⟨g, 0, none⟩) := by
  have hlt := h.lt
  rcases h.2 with ⟨rfl, rfl⟩ | ⟨g, cap, cur, rfl, hb, hg, hnc, hcm, hcs, htake⟩
  · have : xs = [] := List.eq_nil_of_length_eq_zero (by simpa using h.1)
    subst this
    exact ⟨none, 0, rfl, Lies.nil _ _ _, hlt, Nat.le_refl _, by simp [maxLen], .inl rfl⟩
  · refine ⟨_, cap, rfl, fun _ => ⟨g, 0, rfl, (hlt g rfl).2, fun j hj => ?_⟩, hlt, hnc, hcm, .inr ⟨g, rfl⟩⟩
    have := h.cellAt j (by rw [← h.1]; exact hj)
    rw [Nat.zero_add, this, List.getElem?_eq_getElem hj]
theorem below_drewN (w : World) (n B : Nat) : Below B w (w.drewN n) := ⟨rfl, rfl, rfl, Nat.le_refl _, fun _ _ => rfl⟩
theorem grownBy_below {row : Option Nat} {B : Nat} (hg : w.grownBy w' row) (hB : B ≤ w.heap.size) (hr : ∀ k, row = some k → B ≤ k) : Below B w w' := (Below.refl _ _).grown hg hB hr
theorem ownsRow_below (h : w.ownsRow base e sz v n xs) {B : Nat} (hb : Below B w w') (hB : w.heap.size ≤ B) : w'.ownsRow base e sz v n xs := by
  refine ⟨h.1, ?_⟩
  rcases h.2 with hn | ⟨g, cap, cur, rfl, hbg, hgg, rest⟩
  · exact .inl hn
  · refine .inr ⟨g, cap, cur, rfl, hbg, ?_, rest⟩
    rw [hb.block g (by have := (Array.getElem?_eq_some_iff.1 hgg).1; omega)]
    exact hgg
theorem ownsRow_drewN (h : w.ownsRow base e sz v n xs) (k : Nat) : (w.drewN k).ownsRow base e sz v n xs := h
theorem ownsRow_base {base' : Nat} (h : w.ownsRow base e sz v n xs) (hb : base' ≤ base) : w.ownsRow base' e sz v n xs := by
  refine ⟨h.1, ?_⟩
  rcases h.2 with hn | ⟨g, cap, cur, rfl, hbg, rest⟩
  · exact .inl hn
  · exact .inr ⟨g, cap, cur, rfl, by omega, rest⟩
end

theorem ofNat_byte (c : UInt8) : UInt8.ofNat ((c.toNat : Int)).toNat = c := by simp
theorem strOfNums_bytes (l : List UInt8) : strOfNums (l.map fun c => (c.toNat : Int)) = ⟨l.toArray⟩ := by
  apply ByteArray.ext; apply Array.ext'; rw [strOfNums_data, List.map_map]
  have : ((fun n : Int => UInt8.ofNat n.toNat) ∘ fun c : UInt8 => (c.toNat : Int)) = id := by funext c; simp
  rw [this]; simp
/-- string(b) of bytes that lie in memory -/
theorem run_bytes_string {P : Program} {w : World} {B : Nat} {A : Option Addr} {src e dst : TypeId} (hs : P.underlying src = some (.slice e)) (he : P.underlying e = some (.int .u8)) (hd : P.underlying dst = some .string)
    (l : List UInt8) (cap : Nat) (h : Lies w B A (l.map bV)) : (convert src dst (.slice A l.length cap)).run P w = .ok (.string ⟨l.toArray⟩) w := by
  cases l with
  | nil =>
    rw [run_convert_bytes_string w src dst e _ _ cap hs he hd]
    cases A with
    | none => simp [Conv.bytesToString]; rfl
    | some a => simp [Conv.bytesToString, loadCells, loadCellsFrom]; rfl
  | cons c l =>
    obtain ⟨b, o, rfl, _, hc⟩ := h (by simp)
    have := run_convert_bytes_arg (P := P) w src e hs he b o (c :: l).length cap ((c :: l).map fun c => (c.toNat : Int)) (by simp)
      (fun i hi => by
        have := hc i (by simpa using hi)
        rw [this, List.getElem_map, bV, List.getD_eq_getElem?_getD, List.getElem?_map, List.getElem?_eq_getElem hi]; rfl) dst hd
    rw [this, strOfNums_bytes]

/-- the address of s[k:] of a slice of one-cell elements: the model keeps the old one where nothing is left of the capacity -/
def cutA (A : Option Addr) (k cap : Nat) : Option Addr := if cap = k then A else A.map (·.add k)
theorem Lies.cut {w : World} {B : Nat} {A : Option Addr} {xs : List Value} (h : Lies w B A xs) {k cap : Nat} (hc : xs.length ≤ cap) : Lies w B (cutA A k cap) (xs.drop k) := fun hn => by
  have hl : k < xs.length := by
    rcases Nat.lt_or_ge k xs.length with h1 | h1
    · exact h1
    · exact absurd (List.drop_of_length_le h1) hn
  obtain ⟨b, o, rfl, hb, hcell⟩ := h (by rintro rfl; simp at hl)
  refine ⟨b, o + k, ?_, hb, fun j hj => ?_⟩
  · unfold cutA; rw [if_neg (by omega)]
    simp only [Option.map_some, Addr.add]
    split <;> simp_all
  · have := hcell (k + j) (by simp at hj; omega)
    rw [Nat.add_assoc, this, List.getElem_drop]
theorem run_cut {P : Program} (w : World) {t e : TypeId} (ht : P.underlying t = some (.slice e)) (he : P.elem t = e) (hs : ∀ w, (sizeOf e).run P w = .ok 1 w) (A : Option Addr) (n cap k : Nat) (h1 : k ≤ n) :
    (Instr.slice t (.slice A n cap) (some (.int .i64 k)) none none).run P w = .ok (.slice (cutA A k cap) (n - k) (cap - k)) w := by
  rw [run_slice_l w t A n cap (by rw [he]; exact ht) .i64 k (by omega) (by omega), he, hs]
  simp [sliced, cutA]
/-- a call inside a quiet region, of a contract that says the world is as it was -/
theorem qL {P : Program} {f : FuncId} {args : Array Value} {w : World} {n : Nat} {v : Value}
    (h : Calls P f args (w.drewN n) fun e w' => e = .returned v ∧ w.drewN n = w') : Calls P f args (w.drewN n) fun e w'' => e = .returned v ∧ ∃ m, w'' = w.drewN m :=
  h.mono fun _ _ ⟨he, hm⟩ => ⟨he, n, hm.symm⟩
theorem one1 {v : Value} (h : v.oneCell' = true) : ∀ u ∈ (#[v] : Array Value).toList, u.oneCell' = true := by
  intro u hu
  simp at hu
  subst hu
  exact h

section
variable {P : Program}
/-- append of ONE element, laid by the statement itself into a block of its own, onto a row of the call's own -/
theorem wpList_app1 {ops : Array Oper} {rest : List Oper} {o : Oper} {a : Act} {Q : Exit → Act → World → Prop} (w : World) (hgd : o.guard = none) (s x : Operand) (t : TypeId)
    (ho : o.op = .call { callee := .builtin .append, args := #[s, x], argTypes := #[t, t] })
    (base : Nat) (e : TypeId) (z : Value) (sz bytes : Nat) (ht : P.underlying t = some (.slice e)) (hinfo : EInfo P e z sz bytes) (hzs : z.cells.size = sz) (hsz : 0 < sz)
    (v : Value) (n : Nat) (xs : List Value) (hs : a.eval s = v) (hown : w.ownsRow base e sz v n xs)
    (cs : Array Value) (hx : a.eval x = .slice (some ⟨w.heap.size, 0, none⟩) 1 1) (hcs : cs.size = sz) (h1 : ∀ u ∈ cs.toList, u.oneCell' = true)
    (h63 : n + 1 ≤ 9223372036854775807) (hbytes : (n + 1) * bytes ≤ 140737488355328) (hbase : base ≤ w.heap.size)
    (h : ∀ v' w', w'.ownsRow base e sz v' (n + 1) (xs ++ cs.toList) → w.grownBy w' v.ownBlock → Below base w w' → (v'.ownBlock = v.ownBlock ∨ v'.ownBlock = some (w.heap.size + 1)) → wpList P ops Q rest (a.put o.dst v') w') :
    wpList P ops Q (o :: rest) a (w.alloc (.cells cs e)) := by
  obtain ⟨i, hi, hz, hs1, hs2⟩ := info_parts hinfo
  refine wpList_append_own_at _ hgd s x t ho base e i z sz bytes ht hi hz hs1 hs2 hzs hsz v n xs hs (hown.alloc _) ⟨w.heap.size, 0, none⟩ 1 1 cs.toList hx (by simpa using hcs)
    (World.news_of_block (heap_alloc_new w _)) h1 (by simp only [maxLen]; omega) hbytes (by simp; omega) ?_
  intro v' w' h2 h3 _ h5
  have hg : w.grownBy w' v.ownBlock := (World.grownBy_alloc w _ _).trans h3
  refine h v' w' h2 hg (grownBy_below hg hbase fun k hk => (hown.lt k hk).1) ?_
  simpa using h5

theorem cell_add {w : World} {b o : Nat} {xs : List Value} (h : ∀ j (h : j < xs.length), w.cell? ⟨b, o + j, none⟩ = some xs[j]) : ∀ j u, xs[j]? = some u → w.cell? ((⟨b, o, none⟩ : Addr).add j) = some u := by
  intro j u hu
  obtain ⟨hj, rfl⟩ := List.getElem?_eq_some_iff.1 hu
  rw [← h j hj]
  unfold Addr.add
  split <;> simp_all

/-- append of many elements that lie in memory (none of them, too) onto a row of the call's own -/
theorem run_appN (w : World) (t ty : TypeId) (base : Nat) (e : TypeId) (z : Value) (sz bytes : Nat) (ht : P.underlying t = some (.slice e)) (hinfo : EInfo P e z sz bytes) (hzs : z.cells.size = sz) (hsz : 0 < sz)
    (v : Value) (n : Nat) (xs : List Value) (hown : w.ownsRow base e sz v n xs)
    (A : Option Addr) (m c B : Nat) (news : List Value) (hl : news.length = m * sz) (hlies : Lies w B A news) (h1 : ∀ u ∈ news, u.oneCell' = true)
    (h63 : n + m ≤ 9223372036854775807) (hbytes : (n + m) * bytes ≤ 140737488355328) (hbase : base ≤ w.heap.size) :
    ∃ v' w', (Builtin.append_ #[t, t] ty #[v, .slice A m c]).run P w = .ok v' w' ∧ w'.ownsRow base e sz v' (n + m) (xs ++ news) ∧ w.grownBy w' v.ownBlock ∧ (v'.ownBlock = v.ownBlock ∨ v'.ownBlock = some w.heap.size) := by
  obtain ⟨i, hi, hz, hs1, hs2⟩ := info_parts hinfo
  by_cases hn : news = []
  · subst hn
    have hm : m = 0 := by
      rcases Nat.eq_zero_or_pos m with h | h
      · exact h
      · have := Nat.mul_pos h hsz
        simp at hl; omega
    subst hm
    cases A with
    | none =>
      have hr : (Builtin.append_ #[t, t] ty #[v, .slice none 0 c]).run P w = .ok v w := by
        rcases hown.2 with ⟨rfl, rfl⟩ | ⟨g, cap, cur, rfl, _, _, hnc, _⟩
        · simp [Builtin.append_, run_underlying ht, sizeOf, typeInfo, hi, Builtin.lenOf, Builtin.firstCells]
        · simp [Builtin.append_, run_underlying ht, sizeOf, typeInfo, hi, Builtin.lenOf, Builtin.firstCells, hnc, storeCells]
      exact ⟨v, w, hr, by simpa using hown, World.grownBy.refl w _, .inl rfl⟩
    | some a =>
      obtain ⟨v', w', hr, h2, h3, _, h5⟩ := run_append_own_at (P := P) w base t ty e i z sz bytes ht hi hz hs1 hs2 hzs hsz v n xs hown a 0 c [] hl (by simp) h1 (by simp only [maxLen]; omega) hbytes hbase
      exact ⟨v', w', hr, h2, h3, h5⟩
  · obtain ⟨b, o, rfl, hb, hc⟩ := hlies hn
    obtain ⟨v', w', hr, h2, h3, _, h5⟩ := run_append_own_at (P := P) w base t ty e i z sz bytes ht hi hz hs1 hs2 hzs hsz v n xs hown ⟨b, o, none⟩ m c news hl (cell_add hc) h1 (by simp only [maxLen]; omega) hbytes hbase
    exact ⟨v', w', hr, h2, h3, h5⟩

theorem wp_appN {o : Oper} {a : Act} {K : Act → World → Prop} {Q : Exit → Act → World → Prop} (w : World) (s x : Operand) (t : TypeId)
    (ho : o.op = .call { callee := .builtin .append, args := #[s, x], argTypes := #[t, t] })
    (base : Nat) (e : TypeId) (z : Value) (sz bytes : Nat) (ht : P.underlying t = some (.slice e)) (hinfo : EInfo P e z sz bytes) (hzs : z.cells.size = sz) (hsz : 0 < sz)
    (v : Value) (n : Nat) (xs : List Value) (hs : a.eval s = v) (hown : w.ownsRow base e sz v n xs)
    (A : Option Addr) (m c B : Nat) (news : List Value) (hx : a.eval x = .slice A m c) (hl : news.length = m * sz) (hlies : Lies w B A news) (h1 : ∀ u ∈ news, u.oneCell' = true)
    (h63 : n + m ≤ 9223372036854775807) (hbytes : (n + m) * bytes ≤ 140737488355328) (hbase : base ≤ w.heap.size)
    (h : ∀ v' w', w'.ownsRow base e sz v' (n + m) (xs ++ news) → w.grownBy w' v.ownBlock → Below base w w' → (v'.ownBlock = v.ownBlock ∨ v'.ownBlock = some w.heap.size) → K (a.put o.dst v') w') : o.wp P a w K Q := by
  obtain ⟨v', w', hr, h2, h3, h4⟩ := run_appN (P := P) w t o.type base e z sz bytes ht hinfo hzs hsz v n xs hown A m c B news hl hlies h1 h63 hbytes hbase
  unfold Oper.wp execOp
  simp only [ho, resolve, invoke, builtin, Sem.run_bind, Sem.run_pure, Result.andThen_ok, List.map_toArray, List.map_cons, List.map_nil, hs, hx, hr]
  exact h v' w' h2 h3 (grownBy_below h3 hbase fun k hk => (hown.lt k hk).1) h4

theorem wpList_appN {ops : Array Oper} {rest : List Oper} {o : Oper} {a : Act} {Q : Exit → Act → World → Prop} (w : World) (hgd : o.guard = none) (s x : Operand) (t : TypeId)
    (ho : o.op = .call { callee := .builtin .append, args := #[s, x], argTypes := #[t, t] })
    (base : Nat) (e : TypeId) (z : Value) (sz bytes : Nat) (ht : P.underlying t = some (.slice e)) (hinfo : EInfo P e z sz bytes) (hzs : z.cells.size = sz) (hsz : 0 < sz)
    (v : Value) (n : Nat) (xs : List Value) (hs : a.eval s = v) (hown : w.ownsRow base e sz v n xs)
    (A : Option Addr) (m c B : Nat) (news : List Value) (hx : a.eval x = .slice A m c) (hl : news.length = m * sz) (hlies : Lies w B A news) (h1 : ∀ u ∈ news, u.oneCell' = true)
    (h63 : n + m ≤ 9223372036854775807) (hbytes : (n + m) * bytes ≤ 140737488355328) (hbase : base ≤ w.heap.size)
    (h : ∀ v' w', w'.ownsRow base e sz v' (n + m) (xs ++ news) → w.grownBy w' v.ownBlock → Below base w w' → (v'.ownBlock = v.ownBlock ∨ v'.ownBlock = some w.heap.size) → wpList P ops Q rest (a.put o.dst v') w') : wpList P ops Q (o :: rest) a w :=
  wpList_plain hgd fun _ hK => wp_appN w s x t ho base e z sz bytes ht hinfo hzs hsz v n xs hs hown A m c B news hx hl hlies h1 h63 hbytes hbase fun v' w' h2 h3 h4 h5 => hK _ _ (h v' w' h2 h3 h4 h5)

/-- string(b) at the operation, of bytes that lie in memory -/
theorem wpList_bstr {ops : Array Oper} {rest : List Oper} {o : Oper} {a : Act} {Q : Exit → Act → World → Prop} {w : World} (hgd : o.guard = none) (x : Operand) (src dst e : TypeId) (ho : o.op = .convert src dst x)
    (hs : P.underlying src = some (.slice e)) (he : P.underlying e = some (.int .u8)) (hd : P.underlying dst = some .string)
    (l : List UInt8) (A : Option Addr) (n cap B : Nat) (hx : a.eval x = .slice A n cap) (hn : l.length = n) (hl : Lies w B A (l.map bV)) (h : wpList P ops Q rest (a.put o.dst (.string ⟨l.toArray⟩)) w) : wpList P ops Q (o :: rest) a w := by
  refine wpList_plain hgd fun K hK => ?_
  subst hn
  have hr := run_bytes_string (P := P) hs he hd l cap hl
  unfold Oper.wp execOp
  simp only [ho, hx, Sem.run_bind, Sem.run_pure, Result.andThen_ok, hr]
  exact hK _ _ h
theorem map_bV_one (l : List UInt8) : ∀ u ∈ l.map bV, u.oneCell' = true := by
  intro u hu
  obtain ⟨c, _, rfl⟩ := List.mem_map.1 hu
  rfl
theorem map_sV_one (l : List (List UInt8)) : ∀ u ∈ l.map sV, u.oneCell' = true := by
  intro u hu
  obtain ⟨c, _, rfl⟩ := List.mem_map.1 hu
  rfl
end
end Go.Proofs.Ytdkancgcefklfaa
