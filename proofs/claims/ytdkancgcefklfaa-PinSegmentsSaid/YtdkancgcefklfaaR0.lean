/-
  From what a row says of its arguments to typed values; from what a printed function's theorem says to the row.
-/
import Derived.Test.YtdkancgcefklfaaPJ
import Derived.Test.YtdkancgcefklfaaLib4
import Derived.Test.YtdkancgcefklfaaRows
namespace Go.Proofs.Ytdkancgcefklfaa
open Go.RowKit Go.WideShapes Go.ChangeShapes Go.ChangeAt

def D0 (w : World) : Nat → Nat → Prop := fun b _ => b < w.heap.size
def envD (w : World) : Env := ⟨w, D0 w, D0 w, fun _ => none, fun _ _ _ _ _ => False⟩
theorem envD_sh (w : World) : (envD w).sh = envD w := rfl
theorem envD_le (w : World) : (envD w).Le (envB w (D0 w) (fun _ _ => False) []) :=
  ⟨fun _ _ h => h, fun _ _ h => .inl h, fun _ _ _ _ _ => rfl, Nat.le_refl _, fun _ _ h => (by cases h), fun _ _ _ _ _ h => h.elim, fun _ _ _ _ h => (by cases h)⟩
theorem domOk0 (w : World) : DomOk w (D0 w) := ⟨fun _ _ h => h, fun _ _ _ h _ => h⟩
theorem domOkF (w : World) : DomOk w (fun _ _ => False) := ⟨fun _ _ h => h.elim, fun _ _ _ h _ => h⟩
theorem calls_of {P : Program} {f : FuncId} {args : List PV} {vs : List Value} {W : World} (h : PCalls P f args (.v (.bool true))) (hR : RelL (envD W) args vs) :
    Calls P f vs.toArray W fun e W' => e = .returned (.bool true) ∧ Below W.heap.size W W' := by
  refine (h W (D0 W) (fun _ _ => False) [] vs (domOk0 W) (domOkF W) (fun g hg => by cases hg) ⟨rfl, fun i g cs h => by simp at h, fun i j g h => by simp at h⟩ (hR.mono (envD_le W))).mono ?_
  rintro e W' ⟨u, G1, N, rfl, _, _, _, _, hr, hk⟩
  rw [hr.inv_v]
  exact ⟨rfl, ⟨hk.os, hk.tape, hk.output, hk.size, fun k hk' => hk.block k hk' (by simp)⟩⟩

/-- cells that read as a value of type t are a typed value's -/
def Rds (P : Program) (t : TypeId) {α : Type} (c : α → List PV) (R : α → Prop) : Prop :=
  ∀ {H : Type} {enc : TypeId × Value → H} {w : World} {cs : List Value} {d : DataW H}, Rd enc P w t cs d → ∃ x, RelL (envD w) (c x) cs ∧ (∀ v ∈ cs, v.oneCell' = true) ∧ R x
section
variable {P : Program} {t e : TypeId} {α β : Type} {c : α → List PV} {R : α → Prop}
theorem relL_one {E : Env} {p : PV} {u : Value} (h : Rel E p u) : RelL E [p] [u] := RelL.cons h (RelL.nil _)
theorem rds_map {c' : β → List PV} {R' : β → Prop} (h : Rds P t c R) (hm : ∀ x, R x → ∃ y, c' y = c x ∧ R' y) : Rds P t c' R' := fun {_ _ _ _ _} hr => by
  obtain ⟨x, h1, h2, h3⟩ := h hr
  obtain ⟨y, h4, h5⟩ := hm x h3
  exact ⟨y, by rw [h4]; exact h1, h2, h5⟩
theorem rds_int {k : IntKind} (ht : P.underlying t = some (.int k)) : Rds P t (fun n : Int => [.v (.int k n)]) (fun n => (Lit.int k n).wf = true) := fun {_ _ _ _ _} h => by
  obtain ⟨n, rfl, hn⟩ := rd_int ht h
  exact ⟨n, relL_one (.v _ _), fun v hv => by simp at hv; subst hv; rfl, hn⟩
theorem rds_u8 (ht : P.underlying t = some (.int .u8)) : Rds P t (fun b : UInt8 => [.v (.int .u8 (b.toNat : Int))]) (fun _ => True) :=
  rds_map (rds_int ht) fun n hn => by
    obtain ⟨b, rfl⟩ := byte_of hn
    exact ⟨b, rfl, trivial⟩
theorem rds_bool (ht : P.underlying t = some .bool) : Rds P t (fun b : Bool => [.v (.bool b)]) (fun _ => True) := fun {_ _ _ _ _} h => by
  obtain ⟨b, rfl⟩ := rd_bool ht h
  exact ⟨b, relL_one (.v _ _), fun v hv => by simp at hv; subst hv; rfl, trivial⟩
theorem rds_str (ht : P.underlying t = some .string) : Rds P t (fun s : List UInt8 => [.str s]) (fun s => s.length ≤ maxLen) := fun {_ _ _ _ _} h => by
  obtain ⟨s, rfl, hs⟩ := rd_string ht h
  exact ⟨s, relL_one (.v _ _), fun v hv => by simp at hv; subst hv; rfl, hs⟩
theorem rd_slice_addr {H : Type} {enc : TypeId × Value → H} {w : World} {a : Addr} {n k : Nat} {d : DataW H} (ht : P.underlying t = some (.slice e)) (h : Rd enc P w t [.slice (some a) n k] d) (hk : k ≠ 0) (he : 0 < P.cellsOf e) : a.spot = none ∧ a.block < w.heap.size := by
  have fin : ∀ v, w.cell? a = some v → a.spot = none ∧ a.block < w.heap.size := fun v hv => ⟨World.cell?_spot hv, World.block_lt_of_cell? w _ hv⟩
  have key : ∀ cs, w.cells? 0 (a.add (0 * P.cellsOf e)) (P.cellsOf e) = some cs → a.spot = none ∧ a.block < w.heap.size := fun cs h => by
    obtain ⟨h5, h6⟩ := cells_some h
    have := h6 0 (by omega)
    rw [Nat.zero_mul] at this
    refine fin (cs[0]'(by omega)) ?_
    simpa [Addr.add] using this
  obtain ⟨fuel, ps, h⟩ := h
  cases fuel with
  | zero => simp [DataW.trod] at h
  | succ fuel =>
    simp only [DataW.trod, ht] at h
    split at h
    · rename_i hc
      simp only [Option.bind_eq_some_iff, Option.map_eq_some_iff] at h
      obtain ⟨elems, he1, rest, he2, _⟩ := h
      by_cases hn : n = 0
      · subst hn
        simp only [if_true] at he2
        obtain ⟨hl, hel⟩ := mapM_some he2
        have := hel 0 (by simp; omega) (by rw [hl]; simp; omega)
        simp only [List.getElem_range, Nat.zero_add, Option.bind_eq_some_iff] at this
        obtain ⟨cs, h3, _⟩ := this
        exact key cs h3
      · obtain ⟨hl, hel⟩ := mapM_some he1
        have := hel 0 (by simp; omega) (by rw [hl]; simp; omega)
        simp only [List.getElem_range, Option.bind_eq_some_iff] at this
        obtain ⟨cs, h3, _⟩ := this
        exact key cs h3
    · simp at h
theorem rds_slice {sz : Nat} [hc : CSz c sz] (o : Own) (ho : o = .none ∨ o = .lent) (ht : P.underlying t = some (.slice e)) (he : Rds P e c R) (hsz : P.cellsOf e = sz) (h0 : 0 < sz) :
    Rds P t (fun l : List α => [.sl sz (mp c l) o]) (fun l => (∀ x ∈ l, R x) ∧ l.length ≤ maxLen) := fun {H enc w cs d} h => by
  obtain ⟨A, n, k, rfl⟩ := slice_cells ht h
  obtain ⟨h1, h2, h3, css, h4, h5, h6⟩ := rd_slice ht h
  obtain ⟨xs, h7, h8⟩ := choose_list (R := fun cs x => RelL (envD w) (c x) cs ∧ (∀ v ∈ cs, v.oneCell' = true) ∧ R x) (l := css) (fun cs hcs => by
    obtain ⟨_, y, hy⟩ := h6 cs hcs
    exact he hy)
  have hfl : RelL (envD w) (mp c xs).flatten css.flatten ∧ ∀ v ∈ css.flatten, v.oneCell' = true := by
    clear h4 h5 h6 h
    induction css generalizing xs with
    | nil =>
      obtain rfl : xs = [] := List.eq_nil_of_length_eq_zero h7
      exact ⟨RelL.nil _, fun v hv => by simp at hv⟩
    | cons cs css ih =>
      cases xs with
      | nil => simp at h7
      | cons x xs =>
        obtain ⟨k1, k2, _⟩ := h8 0 (by simp) (by simp)
        obtain ⟨i1, i2⟩ := ih xs (by simpa using h7) (fun i hi hi' => by
          have := h8 (i + 1) (by simp; omega) (by simp; omega)
          simpa using this)
        simp only [List.getElem_cons_zero] at k1 k2
        refine ⟨?_, fun v hv => ?_⟩
        · simp only [mp_cons, List.flatten_cons]
          exact k1.app i1
        · simp only [List.flatten_cons, List.mem_append] at hv
          exact hv.elim (k2 v) (i2 v)
  refine ⟨xs, relL_one ?_, fun v hv => by simp at hv; subst hv; rfl, fun x hx => ?_, by omega⟩
  · have hn : n = (mp c xs).length := by rw [mp_length]; omega
    rw [hn]
    refine .sl _ sz _ o A k css.flatten (fun p hp => ?_) hfl.1.1 hfl.1.2 hfl.2 (by omega) h2 h3 (fun a ha hk => ?_) (fun hne => ?_) ?_
    · simp only [mp, List.mem_map] at hp
      obtain ⟨x, _, rfl⟩ := hp
      exact hc.len x
    · subst ha
      exact rd_slice_addr ht h hk (by omega)
    · obtain ⟨b, off, rfl, hb, hcell⟩ := h5 hne
      refine ⟨b, off, rfl, ?_, fun j u hu => ?_⟩
      · rcases ho with rfl | rfl <;> exact hb
      · obtain ⟨hj, rfl⟩ := List.getElem?_eq_some_iff.1 hu
        exact hcell j hj
    · rcases ho with rfl | rfl <;> trivial
  · obtain ⟨i, hi, rfl⟩ := List.getElem_of_mem hx
    exact (h8 i (by omega) hi).2.2
theorem rds_row {sz n : Nat} [_hc : CSz c sz] (ht : P.underlying t = some (.array n e)) (he : Rds P e c R) (hsz : P.cellsOf e = sz) (hn : P.cellsOf t = n * sz) :
    Rds P t (fun l : List α => fl c l) (fun l => (∀ x ∈ l, R x) ∧ l.length = n) := fun {H enc w cs d} h => by
  obtain ⟨h1, h2⟩ := rd_array ht h
  rw [hsz] at h2
  rw [hn] at h1
  clear h hn ht
  induction n generalizing cs with
  | zero =>
    obtain rfl : cs = [] := List.eq_nil_of_length_eq_zero (by omega)
    exact ⟨[], RelL.nil _, (fun v hv => by cases hv), (fun x hx => by cases hx), rfl⟩
  | succ n ih =>
    obtain ⟨y, hy⟩ := h2 0 (by omega)
    rw [Nat.zero_mul, List.drop_zero] at hy
    obtain ⟨x, k1, k2, k3⟩ := he hy
    obtain ⟨xs, i1, i2, i3, i4⟩ := ih (cs := cs.drop sz) (by rw [List.length_drop, h1, Nat.succ_mul]; omega) (fun i hi => by
      obtain ⟨y, hy⟩ := h2 (i + 1) (by omega)
      refine ⟨y, ?_⟩
      rw [List.drop_drop, show sz + i * sz = (i + 1) * sz by rw [Nat.succ_mul]; omega]
      exact hy)
    refine ⟨x :: xs, ?_, fun v hv => ?_, fun z hz => ?_, by simp [i4]⟩
    · show RelL _ (fl c (x :: xs)) cs
      rw [fl_cons, ← List.take_append_drop sz cs]
      exact k1.app i1
    · rw [← List.take_append_drop sz cs] at hv
      exact (List.mem_append.1 hv).elim (k2 v) (i2 v)
    · rcases List.mem_cons.1 hz with rfl | hz
      · exact k3
      · exact i3 z hz
/-- an argument that is one cell -/
theorem arg_one {H : Type} {enc : TypeId × Value → H} {w : World} {v : Value} {d : DataW H} {p : α → PV} (hr : Rds P t (fun x => [p x]) R) (h : Rd enc P w t v.cells.toList d) (hv : v.cells = #[v]) : ∃ x, Rel (envD w) (p x) v ∧ R x := by
  rw [hv] at h
  obtain ⟨x, h1, _, h3⟩ := hr h
  exact ⟨x, h1.2 0 _ _ rfl rfl, h3⟩
/-- an argument that is a struct or an array -/
theorem arg_agg {H : Type} {enc : TypeId × Value → H} {w : World} {base : Nat} {v : Value} {d : DataW H} (hr : Rds P t c R) (hu : (match P.underlying t with | some (.struct _) | some (.array _ _) => true | _ => false) = true) (hv : Value.okWide P w .any base t v) (h : Rd enc P w t v.cells.toList d) :
    ∃ x, Rel (envD w) (.agg (c x)) v ∧ R x := by
  have : ∃ cs : Array Value, v = .agg cs := by
    unfold Value.okWide at hv
    split at hv
    · obtain ⟨cs, rfl, _⟩ := hv; exact ⟨cs, rfl⟩
    · obtain ⟨cs, rfl, _⟩ := hv; exact ⟨cs, rfl⟩
    · rename_i h1 h2
      split at hu
      · rename_i fs he; exact absurd he (h1 fs)
      · rename_i n e' he; exact absurd he (h2 n e')
      · cases hu
  obtain ⟨cs, rfl⟩ := this
  obtain ⟨x, h1, h2, h3⟩ := hr h
  have hc : (Value.agg cs).cells.toList = cs.toList := by simp [Value.cells]
  rw [hc] at h1 h2
  refine ⟨x, ?_, h3⟩
  have := Rel.agg (envD w) (c x) cs.toList h1.1 h1.2 h2
  simpa using this
end
theorem wf_i8 {n : Int} (h : (Lit.int .i8 n).wf = true) : -128 ≤ n ∧ n ≤ 127 := by
  simp [Lit.wf, IntKind.min, IntKind.max, IntKind.signed, IntKind.bits] at h; omega
theorem wf_i16 {n : Int} (h : (Lit.int .i16 n).wf = true) : -32768 ≤ n ∧ n ≤ 32767 := by
  simp [Lit.wf, IntKind.min, IntKind.max, IntKind.signed, IntKind.bits] at h; omega
theorem wf_i32 {n : Int} (h : (Lit.int .i32 n).wf = true) : -2147483648 ≤ n ∧ n ≤ 2147483647 := by
  simp [Lit.wf, IntKind.min, IntKind.max, IntKind.signed, IntKind.bits] at h; omega
theorem wf_i64 {n : Int} (h : (Lit.int .i64 n).wf = true) : -9223372036854775808 ≤ n ∧ n ≤ 9223372036854775807 := by
  simp [Lit.wf, IntKind.min, IntKind.max, IntKind.signed, IntKind.bits] at h; omega
theorem wf_u16 {n : Int} (h : (Lit.int .u16 n).wf = true) : 0 ≤ n ∧ n ≤ 65535 := by
  simp [Lit.wf, IntKind.min, IntKind.max, IntKind.signed, IntKind.bits] at h; omega
theorem wf_u32 {n : Int} (h : (Lit.int .u32 n).wf = true) : 0 ≤ n ∧ n ≤ 4294967295 := by
  simp [Lit.wf, IntKind.min, IntKind.max, IntKind.signed, IntKind.bits] at h; omega
theorem own0 : ownKnob Try.prog.godebug = none := by kernel_rfl
theorem laidOut : laidOutB Try.prog = true := by kernel_rfl
end Go.Proofs.Ytdkancgcefklfaa
