/-
  How a law's arguments are opened, whatever their types, and the last step from a law's walk to its row.
-/
import Derived.Test.YtdkancgcefklfaaLib2
import Derived.Carry
import Derived.SizedLaws
import Derived.JoinedOf
import Derived.ChangeSame
import Derived.Deep.CondSized
namespace Go.Proofs.Ytdkancgcefklfaa
open Go.RowKit Go.WideShapes Go.ChangeShapes Go.ChangeAt

section
variable {H : Type} {enc : TypeId × Value → H} {P : Program} {w : World} {base : Nat} {held : Bool}

/-- these cells read as a value of type t -/
def Rd (enc : TypeId × Value → H) (P : Program) (w : World) (t : TypeId) (cs : List Value) (d : DataW H) : Prop := ∃ fuel ps, DataW.trod enc P w 0 (fun _ => true) true fuel t cs = some (d, ps)

theorem mapM_some {α β : Type} {f : α → Option β} : ∀ {l : List α} {r : List β}, l.mapM f = some r → r.length = l.length ∧ ∀ (i : Nat) (h : i < l.length) (h' : i < r.length), f l[i] = some r[i]
  | [], r, h => by simp at h; subst h; simp
  | x :: l, r, h => by
    simp only [List.mapM_cons, Option.bind_eq_bind, Option.bind_eq_some_iff, Option.pure_def, Option.some.injEq] at h
    obtain ⟨y, h1, ys, h2, rfl⟩ := h
    obtain ⟨h3, h4⟩ := mapM_some h2
    refine ⟨by simp [h3], fun i hi hi' => ?_⟩
    cases i with
    | zero => simpa using h1
    | succ i => simpa using h4 i (by simpa using hi) (by simpa using hi')

theorem cells_some {a : Addr} {n : Nat} {cs : List Value} (h : w.cells? 0 a n = some cs) : cs.length = n ∧ ∀ (j : Nat) (hj : j < cs.length), w.cell? (a.add j) = some cs[j] := by
  unfold World.cells? at h
  rw [if_pos (Nat.zero_le _)] at h
  obtain ⟨h1, h2⟩ := mapM_some h
  simp only [List.length_range] at h1
  refine ⟨h1, fun j hj => ?_⟩
  have := h2 j (by simp; omega) hj
  simp only [List.getElem_range] at this
  exact this

theorem rd_bool {t : TypeId} {cs : List Value} {d : DataW H} (ht : P.underlying t = some .bool) (h : Rd enc P w t cs d) : ∃ b, cs = [.bool b] := by
  obtain ⟨fuel, ps, h⟩ := h
  cases fuel with
  | zero => simp [DataW.trod] at h
  | succ fuel =>
    simp only [DataW.trod, ht] at h
    split at h <;> simp_all
theorem rd_int {t : TypeId} {k : IntKind} {cs : List Value} {d : DataW H} (ht : P.underlying t = some (.int k)) (h : Rd enc P w t cs d) : ∃ n, cs = [.int k n] ∧ (Lit.int k n).wf = true := by
  obtain ⟨fuel, ps, h⟩ := h
  cases fuel with
  | zero => simp [DataW.trod] at h
  | succ fuel =>
    simp only [DataW.trod, ht] at h
    split at h <;> simp_all
theorem rd_string {t : TypeId} {cs : List Value} {d : DataW H} (ht : P.underlying t = some .string) (h : Rd enc P w t cs d) : ∃ s : List UInt8, cs = [.string ⟨s.toArray⟩] ∧ s.length ≤ maxLen := by
  obtain ⟨fuel, ps, h⟩ := h
  cases fuel with
  | zero => simp [DataW.trod] at h
  | succ fuel =>
    simp only [DataW.trod, ht] at h
    split at h <;> simp_all
    rename_i s
    exact ⟨s.data.toList, by simp, by simpa using h.1⟩

/-- what a slice's elements read as -/
theorem rd_slice {t e : TypeId} {A : Option Addr} {n c : Nat} {d : DataW H} (ht : P.underlying t = some (.slice e)) (h : Rd enc P w t [.slice A n c] d) :
    n ≤ c ∧ c ≤ maxLen ∧ (A = none → c = 0) ∧ ∃ css : List (List Value), css.length = n ∧ Lies w w.heap.size A css.flatten ∧ ∀ cs ∈ css, cs.length = P.cellsOf e ∧ ∃ y, Rd enc P w e cs y := by
  obtain ⟨fuel, ps, h⟩ := h
  cases fuel with
  | zero => simp [DataW.trod] at h
  | succ fuel =>
    cases A with
    | none =>
      simp only [DataW.trod, ht] at h
      split at h <;> simp_all
      exact Lies.nil _ _ _
    | some a =>
      simp only [DataW.trod, ht] at h
      split at h
      · rename_i hc
        obtain ⟨_, h1, h2⟩ := hc
        simp only [Option.bind_eq_some_iff, Option.map_eq_some_iff] at h
        obtain ⟨elems, he, _⟩ := h
        obtain ⟨hl, hel⟩ := mapM_some he
        simp only [List.length_range] at hl
        have each : ∀ i : Fin n, ∃ cs y, w.cells? 0 (a.add (i.val * P.cellsOf e)) (P.cellsOf e) = some cs ∧ DataW.trod enc P w 0 (fun _ => true) true fuel e cs = some y := fun i => by
          have hi := i.isLt
          have := hel i (by simp) (by omega)
          simp only [List.getElem_range, Option.bind_eq_some_iff] at this
          obtain ⟨cs, h3, h4⟩ := this
          exact ⟨cs, _, h3, h4⟩
        let g : Fin n → List Value := fun i => (each i).choose
        have hg : ∀ i : Fin n, (g i).length = P.cellsOf e ∧ (∀ (j : Nat) (hj : j < (g i).length), w.cell? ((a.add (i.val * P.cellsOf e)).add j) = some (g i)[j]) ∧ ∃ y, Rd enc P w e (g i) y := fun i => by
          obtain ⟨y, h3, h4⟩ := (each i).choose_spec
          obtain ⟨h5, h6⟩ := cells_some h3
          exact ⟨h5, h6, y.1, fuel, y.2, h4⟩
        refine ⟨h1, h2, by simp, List.ofFn g, by simp, ?_, ?_⟩
        · intro hne
          have hlen : ∀ (m : Nat) (f : Fin m → List Value), (∀ i, (f i).length = P.cellsOf e) → (List.ofFn f).flatten.length = m * P.cellsOf e := by
            intro m
            induction m with
            | zero => intro f _; simp
            | succ m ih =>
              intro f hf
              rw [List.ofFn_succ, List.flatten_cons, List.length_append, ih _ (fun i => hf _), hf, Nat.succ_mul, Nat.add_comm]
          have hfl : (List.ofFn g).flatten.length = n * P.cellsOf e := hlen n g fun i => (hg i).1
          have hpos : 0 < n * P.cellsOf e := by
            rw [← hfl]
            exact List.length_pos_iff.2 hne
          have hcp : 0 < P.cellsOf e := Nat.pos_of_mul_pos_left hpos
          have hnp : 0 < n := Nat.pos_of_mul_pos_right hpos
          have get : ∀ (m : Nat) (f : Fin m → List Value), (∀ i, (f i).length = P.cellsOf e) → ∀ (j : Nat) (hj : j < (List.ofFn f).flatten.length), ∃ (i : Fin m) (r : Nat) (hr : r < (f i).length), j = i.val * P.cellsOf e + r ∧ (List.ofFn f).flatten[j] = (f i)[r] := by
            intro m
            induction m with
            | zero => intro f _ j hj; simp at hj
            | succ m ih =>
              intro f hf j hj
              by_cases hlt : j < (f 0).length
              · refine ⟨0, j, hlt, by simp, ?_⟩
                simp only [List.ofFn_succ, List.flatten_cons]
                rw [List.getElem_append_left hlt]
              · have hj2 : j - (f 0).length < (List.ofFn fun i => f i.succ).flatten.length := by
                  simp only [List.ofFn_succ, List.flatten_cons, List.length_append] at hj
                  omega
                obtain ⟨i, r, hr, e1, e2⟩ := ih (fun i => f i.succ) (fun i => hf _) _ hj2
                refine ⟨i.succ, r, hr, ?_, ?_⟩
                · have := hf 0
                  rw [Fin.val_succ, Nat.succ_mul]; omega
                · simp only [List.ofFn_succ, List.flatten_cons]
                  rw [List.getElem_append_right (by omega)]
                  exact e2
          have hadd : ∀ i j, (a.add i).add j = a.add (i + j) := by
            intro i j
            unfold Addr.add
            by_cases hi : i = 0 <;> by_cases hj : j = 0 <;> simp [hi, hj, Nat.add_assoc]
          have hcell : ∀ (j : Nat) (hj : j < (List.ofFn g).flatten.length), w.cell? (a.add j) = some (List.ofFn g).flatten[j] := by
            intro j hj
            obtain ⟨i, r, hr, e1, e2⟩ := get n g (fun i => (hg i).1) j hj
            rw [e2, ← (hg i).2.1 r hr, hadd, e1]
          have h00 := hcell 0 (by omega)
          have hspot : a.spot = none := by simpa [Addr.add] using World.cell?_spot h00
          have hblk : a.block < w.heap.size := by
            have := World.block_lt_of_cell? w _ h00
            simpa [Addr.add] using this
          obtain ⟨b, o, sp⟩ := a
          simp only at hspot hblk
          subst hspot
          refine ⟨b, o, rfl, hblk, fun j hj => ?_⟩
          rw [← hcell j hj]
          unfold Addr.add
          split <;> simp_all
        · intro cs hcs
          obtain ⟨i, rfl⟩ := (List.mem_ofFn).1 hcs
          exact ⟨(hg i).1, (hg i).2.2⟩
      · simp at h
theorem rd_struct {t : TypeId} {fs : Array Field} {cs : List Value} {d : DataW H} (ht : P.underlying t = some (.struct fs)) (h : Rd enc P w t cs d) :
    cs.length = P.cellsOf t ∧ ∀ f ∈ fs.toList, ∃ y, Rd enc P w f.type ((cs.drop f.offset).take (P.cellsOf f.type)) y := by
  obtain ⟨fuel, ps, h⟩ := h
  cases fuel with
  | zero => simp [DataW.trod] at h
  | succ fuel =>
    simp only [DataW.trod, ht] at h
    split at h
    · rename_i hc
      simp only [Option.map_eq_some_iff] at h
      obtain ⟨xs, h1, _⟩ := h
      obtain ⟨h2, h3⟩ := mapM_some h1
      refine ⟨hc, fun f hf => ?_⟩
      obtain ⟨i, hi, rfl⟩ := List.getElem_of_mem hf
      exact ⟨_, fuel, _, h3 i hi (by omega)⟩
    · cases h
theorem rd_array {t e : TypeId} {n : Nat} {cs : List Value} {d : DataW H} (ht : P.underlying t = some (.array n e)) (h : Rd enc P w t cs d) :
    cs.length = P.cellsOf t ∧ ∀ i, i < n → ∃ y, Rd enc P w e ((cs.drop (i * P.cellsOf e)).take (P.cellsOf e)) y := by
  obtain ⟨fuel, ps, h⟩ := h
  cases fuel with
  | zero => simp [DataW.trod] at h
  | succ fuel =>
    simp only [DataW.trod, ht] at h
    split at h
    · rename_i hc
      simp only [Option.map_eq_some_iff] at h
      obtain ⟨xs, h1, _⟩ := h
      obtain ⟨h2, h3⟩ := mapM_some h1
      simp only [List.length_range] at h2
      refine ⟨hc, fun i hi => ?_⟩
      have := h3 i (by simpa using hi) (by omega)
      simp only [List.getElem_range] at this
      exact ⟨_, fuel, _, this⟩
    · cases h
theorem rd_of {t : TypeId} {v : Value} {d : DataW H} {p : List MemPlace} (h : DataW.Trod enc P w 0 (fun _ => true) true t v d p) : Rd enc P w t v.cells.toList d := by
  obtain ⟨fuel, h⟩ := h
  exact ⟨fuel, p, h⟩

theorem trodAll_length : ∀ {ts : List TypeId} {vs : List Value} {ds : List (DataW H)} {ps : List MemPlace}, DataW.TrodAll enc P w base (fun _ => true) held ts vs ds ps → ds.length = ts.length
  | [], [], [], _, _ => rfl
  | _ :: ts, _ :: vs, _ :: ds, _, ⟨_, _, _, h, _⟩ => by simp [trodAll_length (ts := ts) (vs := vs) (ds := ds) h]
theorem trodAll_below (hl : laidOutB P = true) {W W' : World} (hb : Below W.heap.size W W') : ∀ {ts : List TypeId} {vs : List Value} {ds : List (DataW H)} {ps : List MemPlace}, (∀ t ∈ ts, P.readableRec t = true ∧ t < P.types.size) → (∀ x ∈ ps, x.block < W.heap.size) →
    DataW.TrodAll enc P W 0 (fun _ => true) true ts vs ds ps → DataW.TrodAll enc P W' 0 (fun b => decide (b < W.heap.size)) true ts vs ds ps
  | [], [], [], _, _, _, h => h
  | t :: ts, v :: vs, d :: ds, _, hr, hlt, ⟨p, q, h1, h2, e⟩ => by
    subst e
    obtain ⟨h3, h4⟩ := hr t (by simp)
    exact ⟨p, q, Below.trod hl h3 h4 h1 hb (fun x hx => hlt x (by simp [hx])), trodAll_below hl hb (fun t ht => hr t (by simp [ht])) (fun x hx => hlt x (by simp [hx])) h2, rfl⟩

/-- the law's last step: it answered true, and nothing that was there has turned -/
theorem law_post {f : Func} {s : ChangeSpec} {tb : TypeId} (hs : s.vars = []) (hl : laidOutB P = true) (hparams : ∀ t ∈ f.params.toList, P.readableRec t = true ∧ t < P.types.size)
    (hspec : ∀ ds : List (DataW H), ds.length = f.params.size → (s.fn H ds).results = [.lit (.bool true)] ∧ (s.fn H ds).args = ds ∧ (s.fn H ds).vars = []) (hres : f.resultTypes = #[tb]) (htb : P.underlying tb = some .bool)
    {W W' : World} {args : Array Value} {ds gs : List (DataW H)} {before : List MemPlace} (hW : DataW.Whole enc P f.params.toList s.vars false W args.toList ds gs before) (hb : Below W.heap.size W W') :
    s.post enc P f false true false false W args (.bool true) W' := by
  have hW' := hW
  obtain ⟨p, q, hA, hV, rfl, hfz, hnd⟩ := hW
  have hlt : ∀ x ∈ p ++ q, x.block < W.heap.size := fun x hx => by simpa using hW'.lt x hx
  have hlen := trodAll_length hA
  rw [hs] at hV
  obtain ⟨rfl, rfl⟩ := trodVars_none hV
  obtain ⟨h1, h2, h3⟩ := hspec ds (by simpa using hlen)
  refine ⟨ds, [], p ++ [], [] ++ [], p, [], hW', ?_, ?_, ?_, hb.frame _, fun h => by cases h⟩
  · rw [List.append_nil, h1, hres]
    exact trodAll_mk1 (shut_bool htb true)
  · rw [List.append_nil, h2]
    exact trodAll_below hl hb hparams (fun x hx => hlt x (by simp [hx])) hA
  · rw [List.append_nil, h3, hs]; rfl

/-- the first argument, and the others -/
theorem open_cons {t : TypeId} {ts : List TypeId} {args : List Value} {ds : List (DataW H)} {ps : List MemPlace} (h : DataW.TrodAll enc P w 0 (fun _ => true) true (t :: ts) args ds ps) :
    ∃ v vs d ds' q, args = v :: vs ∧ Rd enc P w t v.cells.toList d ∧ DataW.TrodAll enc P w 0 (fun _ => true) true ts vs ds' q := by
  cases args with
  | nil => cases ds <;> simp [DataW.TrodAll] at h
  | cons v vs =>
    cases ds with
    | nil => simp [DataW.TrodAll] at h
    | cons d ds =>
      obtain ⟨p, q, h1, h2, _⟩ := h
      exact ⟨v, vs, d, ds, q, rfl, rd_of h1, h2⟩
theorem open_nil {args : List Value} {ds : List (DataW H)} {ps : List MemPlace} (h : DataW.TrodAll enc P w 0 (fun _ => true) true [] args ds ps) : args = [] := by
  cases args with
  | nil => rfl
  | cons v vs => cases ds <;> simp [DataW.TrodAll] at h
end
end Go.Proofs.Ytdkancgcefklfaa
