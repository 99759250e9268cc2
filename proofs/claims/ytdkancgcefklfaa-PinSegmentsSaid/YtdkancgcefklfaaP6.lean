/-
  Operations that only make a value, continued: cuts, literals, calls.
-/
import Derived.Test.YtdkancgcefklfaaP5
import Derived.Laws.IdiomStrings
namespace Go.Proofs.Ytdkancgcefklfaa
open Go.RowKit

def cPOo : Option Operand → Option (Option PO)
  | none => some none
  | some x => (cPO x).map some
section
variable {P : Program} {nt : Nat} {w0 : World} {G0 : List Nat} {D Dp : Nat → Nat → Prop} {G : List Nat} {R : List (Option Rec)} {st : St} {a : Act} {w : World} {v : PV} {o : Oper}

theorem low_val {lo : Option Operand} {l' : Option PO} (h : cPOo lo = some l') (hF : FI nt w0 G0 D Dp G R st a w) {n l : Nat} (hl : lowOf st.ev n l' l) :
    (lo = none ∧ l = 0) ∨ (∃ k, lo.map a.eval = some (.int k l) ∧ l ≤ n) := by
  cases lo with
  | none => simp [cPOo] at h; subst h; exact .inl ⟨rfl, hl⟩
  | some x =>
    simp only [cPOo, Option.map_eq_some_iff] at h
    obtain ⟨p, h1, rfl⟩ := h
    obtain ⟨k, h2, h3⟩ := hl
    have r := cPO_rel h1 hF
    rw [h2] at r
    exact .inr ⟨k, by simp [r.inv_v], h3⟩
theorem high_val {hi : Option Operand} {h' : Option PO} (h : cPOo hi = some h') (hF : FI nt w0 G0 D Dp G R st a w) {n l : Nat} (hl : highOf st.ev n h' l) :
    (hi = none ∧ l = n) ∨ (∃ k, hi.map a.eval = some (.int k l) ∧ l ≤ n) := by
  cases hi with
  | none => simp [cPOo] at h; subst h; exact .inl ⟨rfl, hl⟩
  | some x =>
    simp only [cPOo, Option.map_eq_some_iff] at h
    obtain ⟨p, h1, rfl⟩ := h
    obtain ⟨k, h2, h3⟩ := hl
    have r := cPO_rel h1 hF
    rw [h2] at r
    exact .inr ⟨k, by simp [r.inv_v], h3⟩
theorem run_bound (k : IntKind) (x y : Nat) (c : BoundsCode) (h : x ≤ y) : (Instr.sliceBound (.int k x) y c).run P w = .ok x w := by
  simp [Instr.sliceBound, asIntOf, h]
theorem run_bounds (isS : Bool) (n cap l h m : Nat) (lo hi mx : Option Value) (hl : (lo = none ∧ l = 0) ∨ ∃ k, lo = some (.int k l)) (hlh : l ≤ h) (hh : (hi = none ∧ h = n ∧ mx = none) ∨ ∃ k, hi = some (.int k h)) (hhc : h ≤ m)
    (hm : (mx = none ∧ m = cap) ∨ ∃ k, mx = some (.int k m)) (hmc : m ≤ cap) : (Instr.sliceBounds isS n cap lo hi mx).run P w = .ok (l, h, m) w := by
  rcases hm with ⟨rfl, rfl⟩ | ⟨k, rfl⟩
  · rcases hh with ⟨rfl, rfl, _⟩ | ⟨k2, rfl⟩
    · rcases hl with ⟨rfl, rfl⟩ | ⟨k3, rfl⟩
      · simp [Instr.sliceBounds]
      · simp [Instr.sliceBounds, run_bound _ _ _ _ hlh]
    · rcases hl with ⟨rfl, rfl⟩ | ⟨k3, rfl⟩
      · simp [Instr.sliceBounds, run_bound _ _ _ _ hhc]
      · simp [Instr.sliceBounds, run_bound _ _ _ _ hhc, run_bound _ _ _ _ hlh]
  · rcases hh with ⟨rfl, rfl, hx⟩ | ⟨k2, rfl⟩
    · cases hx
    · rcases hl with ⟨rfl, rfl⟩ | ⟨k3, rfl⟩
      · simp [Instr.sliceBounds, run_bound _ _ _ _ hmc, run_bound _ _ _ _ hhc]
      · simp [Instr.sliceBounds, run_bound _ _ _ _ hmc, run_bound _ _ _ _ hhc, run_bound _ _ _ _ hlh]
theorem inDom_down {w0 w : World} {D : Nat → Nat → Prop} {rw_ : List Nat} (hD : DomOk w0 D) {b e e' : Nat} (h : inDom w0 w D G R rw_ b e) (he : e' ≤ e) : inDom w0 w D G R rw_ b e' :=
  ⟨h.1, fun hb => hD.down _ _ _ (h.2.1 hb) he, h.2.2.1, fun k r n hk hn hg => Nat.le_trans he (h.2.2.2 k r n hk hn hg)⟩
theorem cut_flat {sz : Nat} {es : List (List PV)} (hs : ∀ e ∈ es, e.length = sz) (l h : Nat) : ((es.take h).drop l).flatten = (es.flatten.take (h * sz)).drop (l * sz) := by
  have ht : ∀ (es : List (List PV)) (k : Nat), (∀ e ∈ es, e.length = sz) → (es.take k).flatten = es.flatten.take (k * sz) := by
    intro es
    induction es with
    | nil => intro k _; simp
    | cons e r ih =>
      intro k hs
      cases k with
      | zero => simp
      | succ k =>
        have he := hs e (by simp)
        rw [List.take_succ_cons, List.flatten_cons, List.flatten_cons, ih k (fun x hx => hs x (by simp [hx])), Nat.succ_mul, Nat.add_comm (k * sz), ← he, List.take_length_add_append]
  have hd : ∀ (es : List (List PV)) (k : Nat), (∀ e ∈ es, e.length = sz) → (es.drop k).flatten = es.flatten.drop (k * sz) := by
    intro es
    induction es with
    | nil => intro k _; simp
    | cons e r ih =>
      intro k hs
      cases k with
      | zero => simp
      | succ k =>
        have he := hs e (by simp)
        rw [List.drop_succ_cons, List.flatten_cons, ih k (fun x hx => hs x (by simp [hx])), Nat.succ_mul, Nat.add_comm (k * sz), ← he, ← List.drop_drop, List.drop_left]
  rw [hd _ _ (fun e he => hs e (List.mem_of_mem_take he)), ht _ _ hs]
theorem highB_val {hi : Option Operand} {h' : Option PO} (h : cPOo hi = some h') (hF : FI nt w0 G0 D Dp G R st a w) {n l : Nat} {c : Option Nat} (hl : highB st.ev n c h' l) :
    (hi = none ∧ l = n) ∨ (∃ k, hi.map a.eval = some (.int k l) ∧ (l ≤ n ∨ ∃ m, c = some m ∧ l ≤ m)) := by
  cases hi with
  | none => simp [cPOo] at h; subst h; exact .inl ⟨rfl, hl⟩
  | some x =>
    simp only [cPOo, Option.map_eq_some_iff] at h
    obtain ⟨p, h1, rfl⟩ := h
    obtain ⟨k, h2, h3⟩ := hl
    have r := cPO_rel h1 hF
    rw [h2] at r
    exact .inr ⟨k, by simp [r.inv_v], h3⟩
theorem ex_slb {t e : TypeId} {i : TypeInfo} {x : Operand} {lo hi mx : Option Operand} {p : PO} {lo' hi' : Option PO} (ho : o.op = .slice t x lo hi mx) (hx : cPO x = some p) (hlo : cPOo lo = some lo') (hhi : cPOo hi = some hi') (hmx : cPOo mx = some none)
    (ht : P.underlying t = some (.slice e)) (hi_ : P.info? e = some i) (hF : FI nt w0 G0 D Dp G R st a w) {b off m l h : Nat} {c : Option Nat}
    (h1 : st.ev p = .sb b i.size off m c) (h2 : highB st.ev m c hi' h) (h3 : lowOf st.ev h lo' l)
    (h4 : ((l < m ∨ ∃ k, c = some k ∧ l < k) ∧ v = .sb b i.size (off + l * i.size) (h - l) (c.map (· - l))) ∨ (h = l ∧ v = .sl i.size [] .none)) : Runs P o a w (fun w' => fenv w0 D Dp w' G R st.rw) v := by
  have hmn : mx = none := by
    cases mx with
    | none => rfl
    | some x => simp [cPOo] at hmx
  subst hmn
  have r1 := cPO_rel hx hF
  rw [h1] at r1
  obtain ⟨g, cc, hu, hg, k1, k2, k3, cs, ty, k4, k5⟩ := r1.inv_sb
  have hlv := low_val hlo hF h3
  have hhv := highB_val hhi hF h2
  have hlh : l ≤ h := by rcases hlv with ⟨_, rfl⟩ | ⟨_, _, h⟩ <;> omega
  have hhc : h ≤ cc := by
    rcases hhv with ⟨_, rfl⟩ | ⟨_, _, h5 | ⟨k, h5, h6⟩⟩
    · exact k2
    · omega
    · rw [k1 k h5]; exact h6
  have hb := run_bounds (P := P) (w := w) true m cc l h cc (lo.map a.eval) (hi.map a.eval) none
    (by rcases hlv with ⟨rfl, rfl⟩ | ⟨k, hk, _⟩; exact .inl ⟨rfl, rfl⟩; exact .inr ⟨k, hk⟩) hlh
    (by
      rcases hhv with ⟨rfl, rfl⟩ | ⟨k, hk, _⟩
      · exact .inl ⟨rfl, rfl, rfl⟩
      · exact .inr ⟨k, hk⟩) hhc (.inl ⟨rfl, rfl⟩) (Nat.le_refl _)
  refine runs_same (u := .slice (if cc = l then some ⟨g, off, none⟩ else (some ⟨g, off, none⟩ : Option Addr).map (·.add (l * i.size))) (h - l) (cc - l)) ?_ ?_
  · have : (Instr.sliceAt t (.slice (some ⟨g, off, none⟩) m cc) (lo.map a.eval) (hi.map a.eval) none).run P w = .ok (.slice (if cc = l then some ⟨g, off, none⟩ else (some ⟨g, off, none⟩ : Option Addr).map (·.add (l * i.size))) (h - l) (cc - l)) w := by
      simp [Instr.sliceAt, Instr.slice, run_underlying ht, hb, sizeOf, typeInfo, hi_]
    simp only [execOp, ho, hu, Sem.run_bind, Option.map_none, this, Result.andThen_ok, Sem.run_pure]
  · have hgl : g < w.heap.size := (Array.getElem?_eq_some_iff.1 k4).1
    rcases h4 with ⟨h5, rfl⟩ | ⟨rfl, rfl⟩
    · have hlc : l < cc := by
        rcases h5 with h5 | ⟨k, h5, h6⟩
        · omega
        · rw [k1 k h5]; exact h6
      rw [if_neg (by omega), Option.map_some, addr_add]
      refine .sb _ _ _ _ _ _ _ _ hg ⟨fun k hk => ?_, by omega, by omega, cs, ty, k4, ?_⟩
      · cases hc : c with
        | none => rw [hc] at hk; cases hk
        | some k' => rw [hc] at hk; simp at hk; rw [k1 k' hc]; exact hk
      · have : cc * i.size = l * i.size + (cc - l) * i.size := by rw [← Nat.add_mul]; congr 1; omega
        omega
    · rw [Nat.sub_self]
      refine .sl _ _ [] _ _ _ [] (fun _ h => by cases h) rfl (fun _ _ _ h => by simp at h) (fun _ h => by cases h) (Nat.zero_le _) (by omega) (fun hA => ?_) (fun ad had => ?_) (fun h => absurd rfl h) trivial
      · split at hA <;> simp at hA
      · split at had
        · simp at had; subst had; exact fun _ => ⟨rfl, hgl⟩
        · simp [addr_add] at had; subst had; exact fun _ => ⟨rfl, hgl⟩
theorem ex_slc {t e : TypeId} {i : TypeInfo} {x : Operand} {lo hi mx : Option Operand} {p : PO} {lo' hi' mx' : Option PO} (ho : o.op = .slice t x lo hi mx) (hx : cPO x = some p) (hlo : cPOo lo = some lo') (hhi : cPOo hi = some hi') (hmx : cPOo mx = some mx')
    (ht : P.underlying t = some (.slice e)) (hi_ : P.info? e = some i) (hxm : mx.isSome → hi.isSome) (hsz : 0 < i.size) (hD : DomOk w0 D) (hDp : DomOk w0 Dp) (hF : FI nt w0 G0 D Dp G R st a w)
    (hy : (∃ s es ow l h o', st.ev p = .sl s es ow ∧ highOf st.ev es.length hi' h ∧ lowOf st.ev h lo' l ∧ v = .sl s ((es.take h).drop l) o' ∧ (s = i.size ∨ es = []) ∧
      maxOf st.ev es h ow o' mx') ∨
      (∃ b off m c l h, st.ev p = .sb b i.size off m c ∧ mx' = none ∧ highB st.ev m c hi' h ∧ lowOf st.ev h lo' l ∧ (((l < m ∨ ∃ k, c = some k ∧ l < k) ∧ v = .sb b i.size (off + l * i.size) (h - l) (c.map (· - l))) ∨ (h = l ∧ v = .sl i.size [] .none)))) : Runs P o a w (fun w' => fenv w0 D Dp w' G R st.rw) v := by
  rcases hy with ⟨s, es, ow, l, h, o', h1, h2, h3, rfl, hs0, h4⟩ | ⟨b, off, m, c, l, h, h1, rfl, h2, h3, h4⟩
  case inr => exact ex_slb ho hx hlo hhi hmx ht hi_ hF h1 h2 h3 h4
  have r1 := cPO_rel hx hF
  rw [h1] at r1
  obtain ⟨A, cap, us, hu, hR, h1c, hnc, hcm, hA, hA0, hm, hok, hsz2⟩ := r1.inv_sl
  have hlv := low_val hlo hF h3
  have hhv := high_val hhi hF h2
  have hlh : l ≤ h := by rcases hlv with ⟨_, rfl⟩ | ⟨_, _, h⟩ <;> omega
  have hhn : h ≤ es.length := by rcases hhv with ⟨_, rfl⟩ | ⟨_, _, h⟩ <;> omega
  -- the greatest place
  have hmx2 : ∃ m, ((mx.map a.eval = none ∧ m = cap) ∨ ∃ k, mx.map a.eval = some (.int k m)) ∧ h ≤ m ∧ m ≤ cap ∧ (o' = .none ∨ o' = .lent ∨ m = h) := by
    cases mx with
    | none =>
      simp [cPOo] at hmx; subst hmx
      refine ⟨cap, .inl ⟨rfl, rfl⟩, by omega, Nat.le_refl _, ?_⟩
      simp only [maxOf] at h4
      cases ow with
      | none => exact .inl h4
      | full =>
        rcases h4 with ⟨rfl, rfl⟩ | h4
        · exact .inr (.inr hok)
        · exact .inl h4
      | id k => exact .inl h4
      | lent => exact .inr (.inl h4)
    | some m =>
      simp only [cPOo, Option.map_eq_some_iff] at hmx
      obtain ⟨q, hq, rfl⟩ := hmx
      obtain ⟨⟨k, h5⟩, rfl, _⟩ := h4
      have r := cPO_rel hq hF
      rw [h5] at r
      exact ⟨h, .inr ⟨k, by simp [r.inv_v]⟩, Nat.le_refl _, by omega, .inr (.inr rfl)⟩
  obtain ⟨m, hmv, hhm, hmc, hof⟩ := hmx2
  have hdom : ∀ b e e', (fenv w0 D Dp w G R st.rw).rdom ow b e → e' ≤ e → (fenv w0 D Dp w G R st.rw).rdom o' b e' := by
    intro b e e' hd he
    have hDD : DomOk w0 (fun b e => D b e ∨ Dp b e) := ⟨fun b e h => h.elim (hD.lt b e) (hDp.lt b e), fun b e e' h he => h.elim (fun h => .inl (hD.down _ _ _ h he)) (fun h => .inr (hDp.down _ _ _ h he))⟩
    have key : (ow = .lent ∧ o' = .lent) ∨ (ow ≠ .lent ∧ o' ≠ .lent) := by
      cases mx' with
      | none => cases ow <;> cases o' <;> simp_all [maxOf, isFull]
      | some q => cases ow <;> cases o' <;> simp_all [maxOf]
    rcases key with ⟨rfl, rfl⟩ | ⟨k1, k2⟩
    · exact inDom_down hDD hd he
    · have h1 : (fenv w0 D Dp w G R st.rw).rdom ow = (fenv w0 D Dp w G R st.rw).dom := by cases ow <;> first | rfl | exact absurd rfl k1
      have h2 : (fenv w0 D Dp w G R st.rw).rdom o' = (fenv w0 D Dp w G R st.rw).dom := by cases o' <;> first | rfl | exact absurd rfl k2
      rw [h2]; rw [h1] at hd
      exact inDom_down hD hd he
  have hb := run_bounds (P := P) (w := w) true es.length cap l h m (lo.map a.eval) (hi.map a.eval) (mx.map a.eval)
    (by rcases hlv with ⟨rfl, rfl⟩ | ⟨k, hk, _⟩; exact .inl ⟨rfl, rfl⟩; exact .inr ⟨k, hk⟩) hlh
    (by
      rcases hhv with ⟨rfl, rfl⟩ | ⟨k, hk, _⟩
      · refine .inl ⟨rfl, rfl, ?_⟩
        cases mx with
        | none => rfl
        | some m => simp at hxm
      · exact .inr ⟨k, hk⟩) hhm hmv hmc
  have hlen : ((es.take h).drop l).length = h - l := by rw [List.length_drop, List.length_take]; omega
  refine runs_same (u := .slice (if m = l then A else A.map (·.add (l * i.size))) (h - l) (m - l)) ?_ ?_
  · have : (Instr.sliceAt t (.slice A es.length cap) (lo.map a.eval) (hi.map a.eval) (mx.map a.eval)).run P w = .ok (.slice (if m = l then A else A.map (·.add (l * i.size))) (h - l) (m - l)) w := by
      simp [Instr.sliceAt, Instr.slice, run_underlying ht, hb, sizeOf, typeInfo, hi_]
    simp only [execOp, ho, hu, Sem.run_bind, this, Result.andThen_ok, Sem.run_pure]
  · rw [← hlen]
    by_cases he : es = []
    · subst he
      simp at hhn
      subst hhn
      obtain rfl : l = 0 := by omega
      refine .sl _ _ _ _ _ _ [] (fun _ h => by simp at h) (by simp) (fun _ _ _ h => by simp at h) (fun _ h => by cases h) (by simp) (by omega) ?_ ?_ (fun h => absurd rfl h) ?_
      · intro hA'
        have hA2 : A = none := by
          split at hA'
          · exact hA'
          · exact Option.map_eq_none_iff.1 hA'
        have := hA hA2; omega
      · intro ad had h0
        split at had
        · exact hA0 _ had (by omega)
        · simp only [Option.map_eq_some_iff] at had
          obtain ⟨ad', h5, rfl⟩ := had
          have := hA0 _ h5 (by omega)
          simpa [Addr.add] using this
      · rcases hof with rfl | rfl | rfl
        · trivial
        · trivial
        · cases o' with
          | none => trivial
          | lent => trivial
          | full => simp [ownOk]
          | id k =>
            exfalso
            cases mx' with
            | none => cases ow <;> simp [maxOf, isFull] at h4
            | some q => simp [maxOf] at h4
    have hs : s = i.size := by rcases hs0 with h | h; exact h; exact absurd h he
    subst hs
    have hfl : es.flatten.length = es.length * i.size := flat_len hsz2
    have hR' := (hR.take (h * i.size)).drop (l * i.size)
    rw [← cut_flat hsz2] at hR'
    have hul : us.length = es.length * i.size := by rw [hR.1, hfl]
    have hm1 : h * i.size ≤ es.length * i.size := Nat.mul_le_mul_right _ hhn
    have hm2 : l * i.size ≤ h * i.size := Nat.mul_le_mul_right _ hlh
    refine .sl _ _ _ _ _ _ ((us.take (h * i.size)).drop (l * i.size)) (fun e he => hsz2 e (List.mem_of_mem_take (List.mem_of_mem_drop he))) hR'.1 hR'.2 (fun x hx => h1c x (List.mem_of_mem_take (List.mem_of_mem_drop hx))) (by omega) (by omega) ?_ ?_ ?_ ?_
    · intro hA'
      have hA2 : A = none := by
        split at hA'
        · exact hA'
        · exact Option.map_eq_none_iff.1 hA'
      have := hA hA2; omega
    · intro ad had h0
      split at had
      · exact hA0 _ had (by omega)
      · simp only [Option.map_eq_some_iff] at had
        obtain ⟨ad', h5, rfl⟩ := had
        have := hA0 _ h5 (by omega)
        unfold Addr.add; split <;> simp_all
    · intro hne
      have hlt : l * i.size < h * i.size := by
        have : 0 < ((us.take (h * i.size)).drop (l * i.size)).length := List.length_pos_iff.2 hne
        rw [List.length_drop, List.length_take] at this; omega
      have hlh' : l < h := Nat.lt_of_mul_lt_mul_right hlt
      obtain ⟨b, off, rfl, hd, hcell⟩ := hm (by
        rintro rfl
        have := Nat.mul_pos (List.length_pos_iff.2 he) hsz
        rw [List.length_nil] at hul
        omega)
      refine ⟨b, off + l * i.size, by rw [if_neg (by omega)]; simp [addr_add], hdom _ _ _ hd (by rw [List.length_drop, List.length_take]; omega), fun j x hx => ?_⟩
      rw [List.getElem?_drop, List.getElem?_take] at hx
      split at hx
      · rw [Nat.add_assoc]; exact hcell _ _ hx
      · cases hx
    · rcases hof with rfl | rfl | rfl
      · trivial
      · trivial
      · cases o' with
        | none => trivial
        | lent => trivial
        | full => simp only [ownOk]; omega
        | id k =>
          exfalso
          cases mx' with
          | none => cases ow <;> simp [maxOf, isFull] at h4
          | some q => simp [maxOf] at h4
theorem ex_sls {t : TypeId} {x : Operand} {lo hi : Option Operand} {p : PO} {lo' hi' : Option PO} (ho : o.op = .slice t x lo hi none) (hx : cPO x = some p) (hlo : cPOo lo = some lo') (hhi : cPOo hi = some hi')
    (ht : P.underlying t = some .string) (hF : FI nt w0 G0 D Dp G R st a w)
    (hy : ∃ (s : List UInt8) (l h : Nat), st.ev p = .str s ∧ highOf st.ev s.length hi' h ∧ lowOf st.ev h lo' l ∧ v = .str ((s.take h).drop l)) : Runs P o a w (fun w' => fenv w0 D Dp w' G R st.rw) v := by
  obtain ⟨s, l, h, h1, h2, h3, rfl⟩ := hy
  have r1 := cPO_rel hx hF
  rw [h1] at r1
  have hlv := low_val hlo hF h3
  have hhv := high_val hhi hF h2
  have hlh : l ≤ h := by rcases hlv with ⟨_, rfl⟩ | ⟨_, _, h⟩ <;> omega
  have hhn : h ≤ s.length := by rcases hhv with ⟨_, rfl⟩ | ⟨_, _, h⟩ <;> omega
  have hb := run_bounds (P := P) (w := w) false s.length s.length l h s.length (lo.map a.eval) (hi.map a.eval) none
    (by rcases hlv with ⟨rfl, rfl⟩ | ⟨k, hk, _⟩; exact .inl ⟨rfl, rfl⟩; exact .inr ⟨k, hk⟩) hlh
    (by rcases hhv with ⟨rfl, rfl⟩ | ⟨k, hk, _⟩; exact .inl ⟨rfl, rfl, rfl⟩; exact .inr ⟨k, hk⟩) hhn (.inl ⟨rfl, rfl⟩) (Nat.le_refl _)
  refine runs_same (u := .string ⟨((s.take h).drop l).toArray⟩) ?_ (.v _ _)
  have hex : (ByteArray.mk s.toArray).extract l h = ⟨((s.take h).drop l).toArray⟩ := by
    apply ByteArray.ext
    simp [List.extract_eq_take_drop, List.drop_take]
  have : (Instr.sliceAt t (.string ⟨s.toArray⟩) (lo.map a.eval) (hi.map a.eval) none).run P w = .ok (.string ⟨((s.take h).drop l).toArray⟩) w := by
    rw [← str_size s] at hb
    simp only [Instr.sliceAt, Instr.slice, Sem.run_bind, run_underlying ht, Result.andThen_ok, Option.isSome_none, Bool.false_eq_true, if_false, hb, Sem.run_pure, hex]
  simp only [execOp, ho, r1.inv_v, Sem.run_bind, this, Result.andThen_ok, Sem.run_pure, Option.map_none]
end
end Go.Proofs.Ytdkancgcefklfaa
