/-
  Code over plain views with what is still to be done as a list; loops; results; the start of a function.
-/
import Derived.Test.YtdkancgcefklfaaPG
namespace Go.Proofs.Ytdkancgcefklfaa
open Go.RowKit

inductive KI where
  | c (x : PC)
  | b (id : Nat)
  | l (B : St → Prop) (x : Nat) (E : St → Prop)
def goK (P : Program) (n0 : Nat) (Q : St → Prop) : List KI → PE → St → Prop
  | [], .norm, st => Q st
  | [], .ret, st => Q st
  | [], .exit _, _ => False
  | .c x :: k, .norm, st => ∃ st2, WkN n0 st st2 ∧ pwp P n0 x (goK P n0 Q k) st2
  | .c _ :: k, .exit i, st => goK P n0 Q k (.exit i) st
  | .c _ :: k, .ret, st => goK P n0 Q k .ret st
  | .b _ :: k, .norm, st => goK P n0 Q k .norm st
  | .b id :: k, .exit i, st => if i = id then goK P n0 Q k .norm st else goK P n0 Q k (.exit i) st
  | .b _ :: k, .ret, st => goK P n0 Q k .ret st
  | .l B _ _ :: _, .norm, st => B st
  | .l _ x E :: k, .exit i, st => if i = x then E st else goK P n0 Q k (.exit i) st
  | .l _ _ _ :: k, .ret, st => goK P n0 Q k .ret st
def go (P : Program) (n0 : Nat) (Q : St → Prop) (k : List KI) (st : St) : Prop := goK P n0 Q k .norm st
def goX (P : Program) (n0 : Nat) (Q : St → Prop) (i : Nat) (k : List KI) (st : St) : Prop := goK P n0 Q k (.exit i) st
section
variable {P : Program} {n0 : Nat} {Q : St → Prop} {k : List KI} {st : St}
theorem runR_mono : ∀ (l : List GI) (K K' : St → Prop) (st : St), (∀ st, K st → K' st) → runR P l st K → runR P l st K'
  | [], _, _, _, hk, h => hk _ h
  | _ :: l, _, _, _, hk, ⟨st', h1, h2⟩ => ⟨st', h1, runR_mono l _ _ st' hk h2⟩
theorem pwp_mono {c : PC} {K K' : PE → St → Prop} {st : St} (hk : ∀ e st, K e st → K' e st) (h : pwp P n0 c K st) : pwp P n0 c K' st := by
  induction c generalizing K K' st with
  | skip => exact hk _ _ h
  | reg l => exact runR_mono l _ _ st (hk _) h
  | fork l b c => exact runR_mono l _ _ st (fun s hs => ⟨runR_mono b _ _ s (fun _ ⟨s2, h1, h2⟩ => ⟨s2, h1, hk _ _ h2⟩) hs.1, runR_mono c _ _ s (fun _ ⟨s2, h1, h2⟩ => ⟨s2, h1, hk _ _ h2⟩) hs.2⟩) h
  | seq a b iha ihb =>
    refine iha (fun e st h => ?_) h
    cases e with
    | norm => obtain ⟨st2, h1, h2⟩ := h; exact ⟨st2, h1, ihb hk h2⟩
    | exit id => exact hk _ _ h
    | ret => exact hk _ _ h
  | cond c a b iha ihb =>
    obtain ⟨t, h1, h2, h3⟩ := h
    refine ⟨t, h1, fun h => ?_, fun h => ?_⟩
    · obtain ⟨st2, k1, k2⟩ := h2 h; exact ⟨st2, k1, iha hk k2⟩
    · obtain ⟨st2, k1, k2⟩ := h3 h; exact ⟨st2, k1, ihb hk k2⟩
  | block id b ih =>
    refine ih (fun e st h => ?_) h
    cases e with
    | norm => exact hk _ _ h
    | ret => exact hk _ _ h
    | exit i =>
      simp only [PE.inB] at h ⊢
      split at h
      · rename_i hi; rw [if_pos hi]; exact hk _ _ h
      · rename_i hi; rw [if_neg hi]; exact hk _ _ h
  | loop n1 ds b ih =>
    obtain ⟨I, n, st1, h1, h2, h3⟩ := h
    refine ⟨I, n, st1, h1, h2, fun n st hI => ?_⟩
    obtain ⟨st2, k1, k2⟩ := h3 n st hI
    refine ⟨st2, k1, ih (fun e st h => ?_) k2⟩
    cases e with
    | norm => exact h
    | exit id => obtain ⟨s3, k3, k4⟩ := h; exact ⟨s3, k3, hk _ _ k4⟩
    | ret => obtain ⟨s3, k3, k4⟩ := h; exact ⟨s3, k3, hk _ _ k4⟩
  | exit id => exact hk _ _ h
  | ret => exact hk _ _ h
theorem goK_ret : ∀ (k : List KI) (st : St), (∀ B x E, KI.l B x E ∈ k → True) → goK P n0 Q k .ret st = Q st
  | [], _, _ => rfl
  | .c _ :: k, st, _ => goK_ret k st (fun _ _ _ _ => trivial)
  | .b _ :: k, st, _ => goK_ret k st (fun _ _ _ _ => trivial)
  | .l _ _ _ :: k, st, _ => goK_ret k st (fun _ _ _ _ => trivial)
@[congr] theorem go_congr {P : Program} {n0 : Nat} {Q : St → Prop} {k : List KI} {st st' : St} (h : Unit → st = st') : go P n0 Q k st = go P n0 Q k st' := by rw [h ()]
@[congr] theorem goX_congr {P : Program} {n0 : Nat} {Q : St → Prop} {i : Nat} {k : List KI} {st st' : St} (h : Unit → st = st') : goX P n0 Q i k st = goX P n0 Q i k st' := by rw [h ()]
theorem go_done : Q st → go P n0 Q [] st := id
theorem go_c {x : PC} (h : pwp P n0 x (goK P n0 Q k) st) : go P n0 Q (.c x :: k) st := ⟨st, WkN.refl _ _, h⟩
theorem go_wk {x : PC} {st2 : St} (h : WkN n0 st st2) (h2 : go P n0 Q (.c x :: k) st2) : go P n0 Q (.c x :: k) st := by
  obtain ⟨st3, h3, h4⟩ := h2
  exact ⟨st3, h.trans h3, h4⟩
theorem go_skip (h : go P n0 Q k st) : go P n0 Q (.c .skip :: k) st := go_c h
theorem go_seq {a b : PC} (h : go P n0 Q (.c a :: .c b :: k) st) : go P n0 Q (.c (.seq a b) :: k) st := by
  obtain ⟨st2, h1, h2⟩ := h
  refine ⟨st2, h1, ?_⟩
  show pwp P n0 a (PE.then (fun _ st1 => ∃ st2, WkN n0 st1 st2 ∧ pwp P n0 b (goK P n0 Q k) st2) (goK P n0 Q k)) st2
  have e : PE.then (fun _ st1 => ∃ st2, WkN n0 st1 st2 ∧ pwp P n0 b (goK P n0 Q k) st2) (goK P n0 Q k) = goK P n0 Q (.c b :: k) := by
    funext e s
    cases e <;> rfl
  rw [e]; exact h2
theorem go_reg {l : List GI} (h : runR P l st (go P n0 Q k)) : go P n0 Q (.c (.reg l) :: k) st := go_c h
theorem go_fork {l b c : List GI} (h : runR P l st fun st => runR P b st (fun s => ∃ s2, WkN n0 s s2 ∧ go P n0 Q k s2) ∧ runR P c st (fun s => ∃ s2, WkN n0 s s2 ∧ go P n0 Q k s2)) : go P n0 Q (.c (.fork l b c) :: k) st := go_c h
theorem go_block {id : Nat} {b : PC} (h : go P n0 Q (.c b :: .b id :: k) st) : go P n0 Q (.c (.block id b) :: k) st := by
  obtain ⟨st2, h1, h2⟩ := h
  refine ⟨st2, h1, ?_⟩
  show pwp P n0 b (PE.inB id (goK P n0 Q k)) st2
  have e : PE.inB id (goK P n0 Q k) = goK P n0 Q (.b id :: k) := by
    funext e s
    cases e <;> rfl
  rw [e]; exact h2
theorem go_b {id : Nat} (h : go P n0 Q k st) : go P n0 Q (.b id :: k) st := h
theorem go_l {B : St → Prop} {x : Nat} {E : St → Prop} (h : B st) : go P n0 Q (.l B x E :: k) st := h
theorem go_ret (h : Q st) : go P n0 Q (.c .ret :: k) st := go_c (by
  show goK P n0 Q k .ret st
  rw [goK_ret k st (fun _ _ _ _ => trivial)]; exact h)
theorem go_exit {i : Nat} (h : goX P n0 Q i k st) : go P n0 Q (.c (.exit i) :: k) st := go_c h
theorem go_cond {c : PO} {a b : PC} (h : isB (st.ev c) ∧ sel (toB (st.ev c)) (go P n0 Q (.c a :: k) st) (go P n0 Q (.c b :: k) st) ⟨⟩) : go P n0 Q (.c (.cond c a b) :: k) st := by
  obtain ⟨h0, h⟩ := h
  rw [isB_spec] at h0
  obtain ⟨t, h1⟩ := h0
  rw [h1, toB_bool] at h
  refine go_c ⟨t, h1, ?_, ?_⟩
  · rintro rfl; exact h
  · rintro rfl; exact h
@[simp] theorem goX_c (i : Nat) (x : PC) : goX P n0 Q i (.c x :: k) st = goX P n0 Q i k st := rfl
@[simp] theorem goX_b (i : Nat) : goX P n0 Q i (.b i :: k) st = go P n0 Q k st := by simp [goX, goK, go]
@[simp] theorem goX_bn {i id : Nat} (h : i ≠ id) : goX P n0 Q i (.b id :: k) st = goX P n0 Q i k st := by simp [goX, goK, h]
@[simp] theorem goX_l (i : Nat) (B E : St → Prop) : goX P n0 Q i (.l B i E :: k) st = E st := by simp [goX, goK]
@[simp] theorem goX_ln {i x : Nat} {B E : St → Prop} (h : i ≠ x) : goX P n0 Q i (.l B x E :: k) st = goX P n0 Q i k st := by simp [goX, goK, h]

/-- a loop, by what holds at its head: slots, boxes, rows, told of an index; and by what holds where it is left by the exit x -/
def headS (st : St) (ds : List Slot) (L : List (Slot × PV)) (bx : List (List PV)) (rw : List Nat) : St := ⟨putAll L (kill ds st.s), bx, rw⟩
@[simp] theorem headS_mk (s : Slots) (bx0 bx : List (List PV)) (rw0 rw : List Nat) (ds : List Slot) (L : List (Slot × PV)) : headS ⟨s, bx0, rw0⟩ ds L bx rw = ⟨putAll L (kill ds s), bx, rw⟩ := rfl
theorem loop_of {ι ε : Type} {n1 : Nat} {ds : List Slot} {b : PC} (J : ι → Prop) (μ : ι → Nat) (L : ι → List (Slot × PV)) (B : ι → List (List PV)) (R : ι → List Nat) (i0 : ι)
    (x : Nat) (C : ε → Prop) (LE : ε → List (Slot × PV)) (BE : ε → List (List PV)) (RE : ε → List Nat) (h0 : J i0) (hw : WkN n0 st (headS st ds (L i0) (B i0) (R i0)))
    (hE : ∀ e, C e → goX P n0 Q x k (headS st ds (LE e) (BE e) (RE e)))
    (hr : ∀ i, J i → go P n0 Q (.c b :: .l (fun st' => ∃ j, J j ∧ μ j < μ i ∧ WkN n0 st' (headS st ds (L j) (B j) (R j))) x (fun st' => ∃ e, C e ∧ WkN n0 st' (headS st ds (LE e) (BE e) (RE e))) :: k) (headS st ds (L i) (B i) (R i))) :
    go P n0 Q (.c (.loop n1 ds b) :: k) st := by
  refine go_c ⟨fun n s => ∃ i, J i ∧ μ i = n ∧ s = headS st ds (L i) (B i) (R i), μ i0, _, ⟨i0, h0, rfl, rfl⟩, hw, ?_⟩
  rintro n s ⟨i, hi, rfl, rfl⟩
  obtain ⟨s2, h1, h2⟩ := hr i hi
  refine ⟨s2, h1, pwp_mono ?_ h2⟩
  intro e s' h
  cases e with
  | norm => obtain ⟨j, k1, k2, k3⟩ := h; exact ⟨_, _, k2, ⟨j, k1, rfl, rfl⟩, k3⟩
  | ret => exact ⟨s', WkN.refl _ _, h⟩
  | exit id =>
    simp only [goK] at h
    split at h
    · rename_i hx
      subst hx
      obtain ⟨e, k1, k2⟩ := h
      exact ⟨_, k2, hE e k1⟩
    · exact ⟨s', WkN.refl _ _, h⟩
end

/-! ### one telling in place of another -/
/-- a cell that names no row from m on, no box from b on -/
def okC (m b : Nat) : PV → Bool
  | .v _ | .pt _ | .bad => true
  | .sl _ _ (.id k) => decide (k < m)
  | .sl _ _ _ => true
  | .pb i _ => decide (i < b)
  | .sb i _ _ _ _ => decide (i < b)
  | .fn _ [] => true
  | _ => false
def wkO (m : Nat) (ad : List Nat) (n s s' : Nat) : Own → Own → Prop
  | _, .lent => True
  | .lent, _ => False
  | _, .none => True
  | .full, .full => True
  | .id k, .id k' => k = k' ∧ k < m ∧ s = s'
  | .full, .id k => m ≤ k ∧ ad[k - m]? = some n
  | .none, .full => False
  | .none, .id _ => False
  | .id _, .full => False
def wkP (m b : Nat) (ad : List Nat) : PV → PV → Prop
  | _, .bad => True
  | .v x, .v y => x = y
  | .sl s es o, .sl s' es' o' => (s = s' ∨ es' = []) ∧ es = es' ∧ wkO m ad es'.length s s' o o'
  | .pb i o, .pb i' o' => i = i' ∧ o = o' ∧ i < b
  | .sb i s o n c, .sb i' s' o' n' c' => i = i' ∧ s = s' ∧ o = o' ∧ n = n' ∧ (c = c' ∨ c' = none) ∧ i < b
  | .pt cs, .pt cs' => cs = cs'
  | .agg cs, .agg cs' => cs = cs' ∧ cs'.all (okC m b) = true
  | .tup cs, .tup cs' => cs = cs' ∧ cs'.all (okC m b) = true
  | .fn f cs, .fn f' cs' => f = f' ∧ cs = cs' ∧ cs'.all (okC m b) = true
  | .fs f cs, .fs f' cs' => f = f' ∧ cs = cs' ∧ cs'.all (okC m b) = true
  | _, _ => False
def wkL (m b : Nat) (ad : List Nat) : List PV → List PV → Prop
  | [], [] => True
  | p :: cs, p' :: cs' => wkP m b ad p p' ∧ wkL m b ad cs cs'
  | _, _ => False
def wkB (m b : Nat) (ad : List Nat) : List (List PV) → List (List PV) → Prop
  | _, [] => True
  | cs :: bx, cs' :: bx' => wkL m b ad cs cs' ∧ wkB m b ad bx bx'
  | [], _ :: _ => False
def wk1 (m b : Nat) (ad : List Nat) (s : Oct PV) : Oct PV → Prop
  | .nil => True
  | .mk a0 a1 a2 a3 a4 a5 a6 a7 => wkP m b ad (s.get .bad .a) a0 ∧ wkP m b ad (s.get .bad .b) a1 ∧ wkP m b ad (s.get .bad .c) a2 ∧ wkP m b ad (s.get .bad .d) a3 ∧ wkP m b ad (s.get .bad .e) a4 ∧ wkP m b ad (s.get .bad .f) a5 ∧ wkP m b ad (s.get .bad .g) a6 ∧ wkP m b ad (s.get .bad .h) a7
def wk2 (m b : Nat) (ad : List Nat) (s : Oct (Oct PV)) : Oct (Oct PV) → Prop
  | .nil => True
  | .mk a0 a1 a2 a3 a4 a5 a6 a7 => wk1 m b ad (s.get .nil .a) a0 ∧ wk1 m b ad (s.get .nil .b) a1 ∧ wk1 m b ad (s.get .nil .c) a2 ∧ wk1 m b ad (s.get .nil .d) a3 ∧ wk1 m b ad (s.get .nil .e) a4 ∧ wk1 m b ad (s.get .nil .f) a5 ∧ wk1 m b ad (s.get .nil .g) a6 ∧ wk1 m b ad (s.get .nil .h) a7
def wk3 (m b : Nat) (ad : List Nat) (s : Slots) : Slots → Prop
  | .nil => True
  | .mk a0 a1 a2 a3 a4 a5 a6 a7 => wk2 m b ad (Oct.get .nil s .a) a0 ∧ wk2 m b ad (Oct.get .nil s .b) a1 ∧ wk2 m b ad (Oct.get .nil s .c) a2 ∧ wk2 m b ad (Oct.get .nil s .d) a3 ∧ wk2 m b ad (Oct.get .nil s .e) a4 ∧ wk2 m b ad (Oct.get .nil s .f) a5 ∧ wk2 m b ad (Oct.get .nil s .g) a6 ∧ wk2 m b ad (Oct.get .nil s .h) a7
-- [wk]
@[simp] theorem okC_v (m b : Nat) (x : Value) : okC m b (.v x) = true := rfl
@[simp] theorem okC_bad (m b : Nat) : okC m b .bad = true := rfl
@[simp] theorem okC_pt (m b : Nat) (cs : List PV) : okC m b (.pt cs) = true := rfl
@[simp] theorem okC_pb (m b i o : Nat) : okC m b (.pb i o) = decide (i < b) := rfl
@[simp] theorem okC_fn (m b : Nat) (f : FuncId) : okC m b (.fn f []) = true := rfl
@[simp] theorem okC_none (m b s : Nat) (es : List (List PV)) : okC m b (.sl s es .none) = true := rfl
@[simp] theorem okC_full (m b s : Nat) (es : List (List PV)) : okC m b (.sl s es .full) = true := rfl
@[simp] theorem okC_id (m b s k : Nat) (es : List (List PV)) : okC m b (.sl s es (.id k)) = decide (k < m) := rfl
@[simp] theorem wkO_none_none (m : Nat) (ad : List Nat) (n s s' : Nat) : wkO m ad n s s' .none .none = True := rfl
@[simp] theorem wkO_none_full (m : Nat) (ad : List Nat) (n s s' : Nat) : wkO m ad n s s' .none .full = False := rfl
@[simp] theorem wkO_none_id (m : Nat) (ad : List Nat) (n s s' : Nat) (k' : Nat) : wkO m ad n s s' .none (.id k') = False := rfl
@[simp] theorem wkO_none_lent (m : Nat) (ad : List Nat) (n s s' : Nat) : wkO m ad n s s' .none .lent = True := rfl
@[simp] theorem wkO_full_none (m : Nat) (ad : List Nat) (n s s' : Nat) : wkO m ad n s s' .full .none = True := rfl
@[simp] theorem wkO_full_full (m : Nat) (ad : List Nat) (n s s' : Nat) : wkO m ad n s s' .full .full = True := rfl
@[simp] theorem wkO_full_id (m : Nat) (ad : List Nat) (n s s' : Nat) (k' : Nat) : wkO m ad n s s' .full (.id k') = (m ≤ k' ∧ ad[k' - m]? = some n) := rfl
@[simp] theorem wkO_full_lent (m : Nat) (ad : List Nat) (n s s' : Nat) : wkO m ad n s s' .full .lent = True := rfl
@[simp] theorem wkO_id_none (m : Nat) (ad : List Nat) (n s s' : Nat) (k : Nat) : wkO m ad n s s' (.id k) .none = True := rfl
@[simp] theorem wkO_id_full (m : Nat) (ad : List Nat) (n s s' : Nat) (k : Nat) : wkO m ad n s s' (.id k) .full = False := rfl
@[simp] theorem wkO_id_id (m : Nat) (ad : List Nat) (n s s' : Nat) (k : Nat) (k' : Nat) : wkO m ad n s s' (.id k) (.id k') = (k = k' ∧ k < m ∧ s = s') := rfl
@[simp] theorem wkO_id_lent (m : Nat) (ad : List Nat) (n s s' : Nat) (k : Nat) : wkO m ad n s s' (.id k) .lent = True := rfl
@[simp] theorem wkO_lent_none (m : Nat) (ad : List Nat) (n s s' : Nat) : wkO m ad n s s' .lent .none = False := rfl
@[simp] theorem wkO_lent_full (m : Nat) (ad : List Nat) (n s s' : Nat) : wkO m ad n s s' .lent .full = False := rfl
@[simp] theorem wkO_lent_id (m : Nat) (ad : List Nat) (n s s' : Nat) (k' : Nat) : wkO m ad n s s' .lent (.id k') = False := rfl
@[simp] theorem wkO_lent_lent (m : Nat) (ad : List Nat) (n s s' : Nat) : wkO m ad n s s' .lent .lent = True := rfl
@[simp] theorem wkP_v (m b : Nat) (ad : List Nat) (x y : Value) : wkP m b ad (.v x) (.v y) = (x = y) := rfl
@[simp] theorem wkP_sl (m b : Nat) (ad : List Nat) (s s' : Nat) (es es' : List (List PV)) (o o' : Own) : wkP m b ad (.sl s es o) (.sl s' es' o') = ((s = s' ∨ es' = []) ∧ es = es' ∧ wkO m ad es'.length s s' o o') := rfl
@[simp] theorem wkP_pb (m b : Nat) (ad : List Nat) (i i' o o' : Nat) : wkP m b ad (.pb i o) (.pb i' o') = (i = i' ∧ o = o' ∧ i < b) := rfl
@[simp] theorem wkP_sb (m b : Nat) (ad : List Nat) (i i' s s' o o' n n' : Nat) (c c' : Option Nat) : wkP m b ad (.sb i s o n c) (.sb i' s' o' n' c') = (i = i' ∧ s = s' ∧ o = o' ∧ n = n' ∧ (c = c' ∨ c' = none) ∧ i < b) := rfl
@[simp] theorem okC_sb (m b i s o n : Nat) (c : Option Nat) : okC m b (.sb i s o n c) = decide (i < b) := rfl
@[simp] theorem okC_lent (m b s : Nat) (es : List (List PV)) : okC m b (.sl s es .lent) = true := rfl
@[simp] theorem wkP_pt (m b : Nat) (ad : List Nat) (cs cs' : List PV) : wkP m b ad (.pt cs) (.pt cs') = (cs = cs') := rfl
@[simp] theorem wkP_agg (m b : Nat) (ad : List Nat) (cs cs' : List PV) : wkP m b ad (.agg cs) (.agg cs') = (cs = cs' ∧ cs'.all (okC m b) = true) := rfl
@[simp] theorem wkP_tup (m b : Nat) (ad : List Nat) (cs cs' : List PV) : wkP m b ad (.tup cs) (.tup cs') = (cs = cs' ∧ cs'.all (okC m b) = true) := rfl
@[simp] theorem wkP_fs (m b : Nat) (ad : List Nat) (f f' : FuncId) (cs cs' : List PV) : wkP m b ad (.fs f cs) (.fs f' cs') = (f = f' ∧ cs = cs' ∧ cs'.all (okC m b) = true) := rfl
@[simp] theorem wkP_fn (m b : Nat) (ad : List Nat) (f f' : FuncId) (cs cs' : List PV) : wkP m b ad (.fn f cs) (.fn f' cs') = (f = f' ∧ cs = cs' ∧ cs'.all (okC m b) = true) := rfl
@[simp] theorem wk1_nil (m b : Nat) (ad : List Nat) (s : Oct PV) : wk1 m b ad s .nil = True := rfl
@[simp] theorem wk1_mk (m b : Nat) (ad : List Nat) (s : Oct PV) (a0 a1 a2 a3 a4 a5 a6 a7 : PV) : wk1 m b ad s (.mk a0 a1 a2 a3 a4 a5 a6 a7) = (wkP m b ad (Oct.get .bad s .a) a0 ∧ wkP m b ad (Oct.get .bad s .b) a1 ∧ wkP m b ad (Oct.get .bad s .c) a2 ∧ wkP m b ad (Oct.get .bad s .d) a3 ∧ wkP m b ad (Oct.get .bad s .e) a4 ∧ wkP m b ad (Oct.get .bad s .f) a5 ∧ wkP m b ad (Oct.get .bad s .g) a6 ∧ wkP m b ad (Oct.get .bad s .h) a7) := rfl
@[simp] theorem wk2_nil (m b : Nat) (ad : List Nat) (s : Oct (Oct PV)) : wk2 m b ad s .nil = True := rfl
@[simp] theorem wk2_mk (m b : Nat) (ad : List Nat) (s : Oct (Oct PV)) (a0 a1 a2 a3 a4 a5 a6 a7 : (Oct PV)) : wk2 m b ad s (.mk a0 a1 a2 a3 a4 a5 a6 a7) = (wk1 m b ad (Oct.get .nil s .a) a0 ∧ wk1 m b ad (Oct.get .nil s .b) a1 ∧ wk1 m b ad (Oct.get .nil s .c) a2 ∧ wk1 m b ad (Oct.get .nil s .d) a3 ∧ wk1 m b ad (Oct.get .nil s .e) a4 ∧ wk1 m b ad (Oct.get .nil s .f) a5 ∧ wk1 m b ad (Oct.get .nil s .g) a6 ∧ wk1 m b ad (Oct.get .nil s .h) a7) := rfl
@[simp] theorem wk3_nil (m b : Nat) (ad : List Nat) (s : Oct (Oct (Oct PV))) : wk3 m b ad s .nil = True := rfl
@[simp] theorem wk3_mk (m b : Nat) (ad : List Nat) (s : Oct (Oct (Oct PV))) (a0 a1 a2 a3 a4 a5 a6 a7 : (Oct (Oct PV))) : wk3 m b ad s (.mk a0 a1 a2 a3 a4 a5 a6 a7) = (wk2 m b ad (Oct.get .nil s .a) a0 ∧ wk2 m b ad (Oct.get .nil s .b) a1 ∧ wk2 m b ad (Oct.get .nil s .c) a2 ∧ wk2 m b ad (Oct.get .nil s .d) a3 ∧ wk2 m b ad (Oct.get .nil s .e) a4 ∧ wk2 m b ad (Oct.get .nil s .f) a5 ∧ wk2 m b ad (Oct.get .nil s .g) a6 ∧ wk2 m b ad (Oct.get .nil s .h) a7) := rfl
@[simp] theorem wkP_bad' (m b : Nat) (ad : List Nat) (p : PV) : wkP m b ad p .bad = True := by cases p <;> rfl
@[simp] theorem wkB_nil (m b : Nat) (ad : List Nat) (bx : List (List PV)) : wkB m b ad bx [] = True := by cases bx <;> rfl
@[simp] theorem wkB_cons (m b : Nat) (ad : List Nat) (cs cs' : List PV) (bx bx' : List (List PV)) : wkB m b ad (cs :: bx) (cs' :: bx') = (wkL m b ad cs cs' ∧ wkB m b ad bx bx') := rfl
-- [/wk]
attribute [simp] wkL putAll kill
section
variable {m b : Nat} {ad : List Nat}
theorem wkP_bad (p : PV) : wkP m b ad p .bad := by cases p <;> exact trivial
theorem wk1_spec {s s' : Oct PV} (h : wk1 m b ad s s') (i : Ix) : wkP m b ad (s.get .bad i) (s'.get .bad i) := by
  cases s' with
  | nil => exact wkP_bad _
  | mk a0 a1 a2 a3 a4 a5 a6 a7 =>
    obtain ⟨h0, h1, h2, h3, h4, h5, h6, h7⟩ := h
    cases i <;> assumption
theorem wk2_spec {s s' : Oct (Oct PV)} (h : wk2 m b ad s s') (i j : Ix) : wkP m b ad ((s.get .nil i).get .bad j) ((s'.get .nil i).get .bad j) := by
  cases s' with
  | nil => exact wkP_bad _
  | mk a0 a1 a2 a3 a4 a5 a6 a7 =>
    obtain ⟨h0, h1, h2, h3, h4, h5, h6, h7⟩ := h
    cases i <;> exact wk1_spec (by assumption) j
theorem wk3_spec {s s' : Slots} (h : wk3 m b ad s s') (i : Slot) : wkP m b ad (s.get i) (s'.get i) := by
  obtain ⟨x, y, z⟩ := i
  cases s' with
  | nil => exact wkP_bad _
  | mk a0 a1 a2 a3 a4 a5 a6 a7 =>
    obtain ⟨h0, h1, h2, h3, h4, h5, h6, h7⟩ := h
    cases x <;> exact wk2_spec (by assumption) y z
theorem wkL_spec : ∀ {cs cs' : List PV}, wkL m b ad cs cs' → cs.length = cs'.length ∧ ∀ (j : Nat) p p', cs[j]? = some p → cs'[j]? = some p' → wkP m b ad p p'
  | [], [], _ => ⟨rfl, fun _ _ _ h => by simp at h⟩
  | p :: cs, p' :: cs', ⟨h1, h2⟩ => by
    obtain ⟨h3, h4⟩ := wkL_spec h2
    refine ⟨by simp [h3], fun j q q' hq hq' => ?_⟩
    cases j with
    | zero => simp at hq hq'; subst hq hq'; exact h1
    | succ j => simp at hq hq'; exact h4 j q q' hq hq'
theorem wkB_spec : ∀ {bx bx' : List (List PV)}, wkB m b ad bx bx' → bx'.length ≤ bx.length ∧ ∀ (j : Nat) cs cs', bx[j]? = some cs → bx'[j]? = some cs' → wkL m b ad cs cs'
  | bx, [], _ => ⟨by simp, fun _ _ _ _ h => by simp at h⟩
  | cs :: bx, cs' :: bx', ⟨h1, h2⟩ => by
    obtain ⟨h3, h4⟩ := wkB_spec h2
    refine ⟨by simp [h3], fun j q q' hq hq' => ?_⟩
    cases j with
    | zero => simp at hq hq'; subst hq hq'; exact h1
    | succ j => simp at hq hq'; exact h4 j q q' hq hq'

theorem okC_rel {E E' : Env} (hsh : E.sh.Le E'.sh) (hp : ∀ b e, E.pdom b e → E'.pdom b e) (hw0 : E'.w = E.w) (hbox : ∀ i g, i < b → E.box i = some g → E'.box i = some g) (hown : ∀ k s n A c, k < m → E.own k s n A c → E'.own k s n A c) {p : PV} {u : Value} (h : Rel E p u) (ho : okC m b p = true) : Rel E' p u := by
  cases h with
  | v => exact .v _ _
  | sl _ sz es o A cap us hsz hl hp' h1 hn hc' hA hA0 hm hok =>
    have hr : ∀ b e, E.rdom o b e → E'.rdom o b e := by cases o <;> first | exact hp | exact hsh.dom
    have hm' : us ≠ [] → ∃ b off, A = some ⟨b, off, none⟩ ∧ E'.rdom o b (off + us.length) ∧ ∀ (j : Nat) u, us[j]? = some u → E'.w.cell? ⟨b, off + j, none⟩ = some u := fun hne => by
      obtain ⟨b, off, e1, e2, e3⟩ := hm hne
      exact ⟨b, off, e1, hr _ _ e2, fun j u hu => by rw [hw0]; exact e3 j u hu⟩
    refine .sl _ _ _ _ _ _ us hsz hl (fun j p u x y => (hp' j p u x y).mono hsh) h1 hn hc' hA (fun a ha h0 => ⟨(hA0 a ha h0).1, Nat.lt_of_lt_of_le (hA0 a ha h0).2 hsh.size⟩) hm' ?_
    cases o with
    | none => trivial
    | full => exact hok
    | id k => simp [okC] at ho; exact hown _ _ _ _ _ ho hok
    | lent => trivial
  | fn _ f cs us hl hp' =>
    cases cs with
    | nil => simp at hl; subst hl; exact .fn _ f [] [] rfl (fun _ _ _ h => by simp at h)
    | cons c r => simp [okC] at ho
  | pt _ cs b o us hl hp' h1 hm =>
    exact .pt _ _ _ _ us hl (fun j p u x y => (hp' j p u x y).mono hsh) h1 fun hne => ⟨hp _ _ (hm hne).1, fun j u hu => by rw [hw0]; exact (hm hne).2 j u hu⟩
  | pb _ i off g hg => simp [okC] at ho; exact .pb _ _ _ _ (hbox _ _ ho hg)
  | sb _ i sz off n cap g c hg hs => simp [okC] at ho; exact .sb _ _ _ _ _ _ _ _ (hbox _ _ ho hg) (by rw [hw0]; exact hs)
  | agg _ cs us hl hp' h1 => simp [okC] at ho
  | tup _ cs us hl hp' => simp [okC] at ho
  | fs => simp [okC] at ho
  | fp => simp [okC] at ho
  | bad => exact .bad _ _
theorem okL_rel {E E' : Env} (hsh : E.sh.Le E'.sh) (hp : ∀ b e, E.pdom b e → E'.pdom b e) (hw0 : E'.w = E.w) (hbox : ∀ i g, i < b → E.box i = some g → E'.box i = some g) (hown : ∀ k s n A c, k < m → E.own k s n A c → E'.own k s n A c) {cs : List PV} {us : List Value} (h : RelL E cs us) (ho : cs.all (okC m b) = true) : RelL E' cs us :=
  ⟨h.1, fun j p u hj hu => okC_rel hsh hp hw0 hbox hown (h.2 j p u hj hu) (List.all_eq_true.1 ho p (List.mem_of_getElem? hj))⟩
theorem wkP_rel {E E' : Env} (hdp : ∀ b e, E.dom b e → E.pdom b e) (hsh : E.sh.Le E'.sh) (hp : ∀ b e, E.pdom b e → E'.pdom b e) (hw0 : E'.w = E.w) (hbox : ∀ i g, i < b → E.box i = some g → E'.box i = some g) (hown : ∀ k s n A c, k < m → E.own k s n A c → E'.own k s n A c)
    (had : ∀ k s n A c, m ≤ k → ad[k - m]? = some n → c = n → E'.own k s n A c) {p p' : PV} {u : Value} (h : Rel E p u) (hw : wkP m b ad p p') : Rel E' p' u := by
  cases p' with
  | bad => exact .bad _ _
  | v y => cases p <;> simp [wkP] at hw; subst hw; rw [h.inv_v]; exact .v _ _
  | pt cs => cases p <;> simp [wkP] at hw; subst hw; exact okC_rel (m := m) (b := b) hsh hp hw0 hbox hown h rfl
  | pb i o => cases p <;> simp [wkP] at hw; obtain ⟨rfl, rfl, hb⟩ := hw; exact okC_rel (m := m) (b := b) hsh hp hw0 hbox hown h (by simpa [okC] using hb)
  | sb i s o n c =>
    cases p <;> simp only [wkP] at hw
    obtain ⟨rfl, rfl, rfl, rfl, hc, hb⟩ := hw
    obtain ⟨g, c0, rfl, hg, k1, k2⟩ := h.inv_sb
    refine .sb _ _ _ _ _ _ g c0 (hbox _ _ hb hg) ⟨fun k hk => ?_, by rw [hw0]; exact k2⟩
    rcases hc with rfl | rfl
    · exact k1 k hk
    · cases hk
  | agg cs =>
    cases p <;> simp only [wkP] at hw
    obtain ⟨rfl, ho⟩ := hw
    obtain ⟨us, rfl, hR, h1⟩ := h.inv_agg
    have := okL_rel hsh hp hw0 hbox hown hR ho
    exact .agg _ _ us this.1 this.2 h1
  | tup cs =>
    cases p <;> simp only [wkP] at hw
    obtain ⟨rfl, ho⟩ := hw
    obtain ⟨us, rfl, hR⟩ := h.inv_tup
    have := okL_rel hsh hp hw0 hbox hown hR ho
    exact .tup _ _ us this.1 this.2
  | fn f cs =>
    cases p <;> simp only [wkP] at hw
    obtain ⟨rfl, rfl, ho⟩ := hw
    obtain ⟨us, rfl, hR⟩ := h.inv_fn
    have := okL_rel hsh hp hw0 hbox hown hR ho
    exact .fn _ _ _ us this.1 this.2
  | fs f cs =>
    cases p <;> simp only [wkP] at hw
    obtain ⟨rfl, rfl, ho⟩ := hw
    obtain ⟨b', o', us, rfl, hR, hb', hd, hc⟩ := h.inv_fs
    have := okL_rel hsh hp hw0 hbox hown hR ho
    exact .fs _ _ _ _ _ us this.1 this.2 (by rw [hw0]; exact hb') (hp _ _ hd) (by rw [hw0]; exact hc)
  | fp f cs => cases p <;> simp [wkP] at hw
  | sl s' es' o' =>
    cases p <;> simp only [wkP] at hw
    rename_i s es o
    obtain ⟨hs, rfl, hO⟩ := hw
    obtain ⟨A, cap, us, rfl, hR, h1, hnc, hcm, hA, hA0, hm, hok, hsz⟩ := h.inv_sl
    have hsz' : ∀ e ∈ es, e.length = s' := fun e he => by
      rcases hs with rfl | rfl
      · exact hsz e he
      · cases he
    have hr : ∀ b e, E.rdom o b e → E'.rdom o' b e := by
      cases o' with
      | lent => cases o <;> first | exact hp | exact fun b e h => hp _ _ (hdp b e h)
      | _ => cases o <;> first | exact hsh.dom | (simp [wkO] at hO)
    have hm' : us ≠ [] → ∃ b off, A = some ⟨b, off, none⟩ ∧ E'.rdom o' b (off + us.length) ∧ ∀ (j : Nat) u, us[j]? = some u → E'.w.cell? ⟨b, off + j, none⟩ = some u := fun hne => by
      obtain ⟨b, off, e1, e2, e3⟩ := hm hne
      exact ⟨b, off, e1, hr _ _ e2, fun j u hu => by rw [hw0]; exact e3 j u hu⟩
    have hR2 := hR.mono hsh
    refine .sl _ _ _ _ _ _ us hsz' hR2.1 hR2.2 h1 hnc hcm hA (fun a ha h0 => ⟨(hA0 a ha h0).1, Nat.lt_of_lt_of_le (hA0 a ha h0).2 hsh.size⟩) hm' ?_
    cases o' with
    | none => trivial
    | lent => trivial
    | full =>
      cases o <;> simp [wkO] at hO
      exact hok
    | id k =>
      cases o with
      | none => simp [wkO] at hO
      | lent => simp [wkO] at hO
      | full => simp only [wkO] at hO; exact had _ _ _ _ _ hO.1 hO.2 hok
      | id k2 =>
        simp only [wkO] at hO
        obtain ⟨rfl, hk, rfl⟩ := hO
        exact hown _ _ _ _ _ hk hok
end
theorem wk_of {st st' : St} (m : Nat) (ad : List Nat) (h1 : wk3 m st'.bx.length ad st.s st'.s) (h2 : wkB m st'.bx.length ad st.bx st'.bx) (h3 : st'.rw = st.rw.take m ++ ad) (h4 : m ≤ st.rw.length) : Wk st st' := by
  rintro nt w0 G0 D Dp a w hn0 ⟨G, R, hF⟩
  obtain ⟨hb1, hb2⟩ := wkB_spec h2
  have hRl := hF.rn
  -- the tables cut and lengthened
  have hRk : ∀ (k : Nat) r, (R.take m ++ List.replicate ad.length none)[k]? = some (some r) → k < m ∧ R[k]? = some (some r) := fun k r h => by
    by_cases hk : k < (R.take m).length
    · rw [List.getElem?_append_left hk, List.getElem?_take] at h
      split at h
      · rename_i hm; exact ⟨hm, h⟩
      · cases h
    · rw [List.getElem?_append_right (by omega), List.getElem?_replicate] at h
      split at h <;> simp at h
  have hrk : ∀ (k : Nat) n, k < m → st'.rw[k]? = some n → st.rw[k]? = some n := fun k n hk h => by
    rw [h3, List.getElem?_append_left (by simp; omega), List.getElem?_take, if_pos hk] at h; exact h
  have key : ∀ D b e, inDom w0 w D G R st.rw b e → inDom w0 w D (G.take st'.bx.length) (R.take m ++ List.replicate ad.length none) st'.rw b e := fun D b e h =>
    ⟨h.1, h.2.1, fun hm => h.2.2.1 (List.mem_of_mem_take hm), fun k r n hk hn hg => by
      obtain ⟨h5, h6⟩ := hRk k r hk
      exact h.2.2.2 k r n h6 (hrk k n h5 hn) hg⟩
  have hsh : (fenv w0 D Dp w G R st.rw).sh.Le (fenv w0 D Dp w (G.take st'.bx.length) (R.take m ++ List.replicate ad.length none) st'.rw).sh :=
    ⟨key D, key D, fun _ _ _ _ _ => rfl, Nat.le_refl _, fun _ _ h => by (cases h), fun _ _ _ _ _ h => h.elim, fun _ _ _ _ h => by (cases h)⟩
  have hbox : ∀ i g, i < st'.bx.length → (fenv w0 D Dp w G R st.rw).box i = some g → (fenv w0 D Dp w (G.take st'.bx.length) (R.take m ++ List.replicate ad.length none) st'.rw).box i = some g := fun i g hi h => by
    show (G.take st'.bx.length)[i]? = some g
    rw [List.getElem?_take, if_pos hi]; exact h
  have hown : ∀ k s n A c, k < m → (fenv w0 D Dp w G R st.rw).own k s n A c → (fenv w0 D Dp w (G.take st'.bx.length) (R.take m ++ List.replicate ad.length none) st'.rw).own k s n A c := by
    rintro k s n A c hk ⟨j, r, k1, k2, k3, k4⟩
    refine ⟨j, r, ?_, ?_, k3, k4⟩
    · rw [h3, List.getElem?_append_left (by simp; omega), List.getElem?_take, if_pos hk]; exact k1
    · rw [List.getElem?_append_left (by simp; omega), List.getElem?_take, if_pos hk]; exact k2
  have had : ∀ k s n A c, m ≤ k → ad[k - m]? = some n → c = n → (fenv w0 D Dp w (G.take st'.bx.length) (R.take m ++ List.replicate ad.length none) st'.rw).own k s n A c := by
    intro k s n A c hk hn hc
    have hlt := (List.getElem?_eq_some_iff.1 hn).1
    refine ⟨n, none, ?_, ?_, Nat.le_refl _, fun _ => hc⟩
    · rw [h3, List.getElem?_append_right (by simp; omega)]
      simp only [List.length_take, Nat.min_eq_left h4]; exact hn
    · rw [List.getElem?_append_right (by simp; omega), List.getElem?_replicate]
      simp only [List.length_take]
      rw [if_pos (by omega)]
  have hrel : ∀ {p p' : PV} {u : Value}, Rel (fenv w0 D Dp w G R st.rw) p u → wkP m st'.bx.length ad p p' → Rel (fenv w0 D Dp w (G.take st'.bx.length) (R.take m ++ List.replicate ad.length none) st'.rw) p' u := fun h hw =>
    wkP_rel (E := fenv w0 D Dp w G R st.rw) (fun b e h => ⟨h.1, fun hb => .inl (h.2.1 hb), h.2.2⟩) hsh (key _) rfl hbox hown had h hw
  refine ⟨G.take st'.bx.length, R.take m ++ List.replicate ad.length none, hF.hB, by rw [List.take_take, Nat.min_eq_left hn0]; exact hF.g0, fun g hg => hF.gnew g (List.mem_of_mem_take hg), hF.defers, hF.size, fun i hi => hrel (hF.slots i hi) (wk3_spec h1 _), ⟨?_, ?_, ?_⟩, ?_, ?_, ?_⟩
  · rw [List.length_take, hF.bxn]; omega
  · intro i g cs' hg hc
    rw [List.getElem?_take] at hg
    split at hg
    · rename_i hi
      have hil : i < st.bx.length := by omega
      obtain ⟨us, vs, t, k2, k3, k4⟩ := hF.bxs.bx i g _ hg (List.getElem?_eq_getElem hil)
      obtain ⟨hl, hp⟩ := wkL_spec (hb2 i _ cs' (List.getElem?_eq_getElem hil) hc)
      refine ⟨us, vs, t, k2, ⟨by rw [k3.1, hl], fun j p' u hp' hu => ?_⟩, k4⟩
      have hj : j < st.bx[i].length := by rw [hl]; exact (List.getElem?_eq_some_iff.1 hp').1
      exact hrel (k3.2 j _ u (List.getElem?_eq_getElem hj) hu) (hp j _ p' (List.getElem?_eq_getElem hj) hp')
    · cases hg
  · intro i j g hi hj
    rw [List.getElem?_take] at hi hj
    split at hi <;> split at hj
    · exact hF.gn i j g hi hj
    all_goals first | cases hi | cases hj
  · rw [h3]; simp; omega
  · intro k r n hk hn
    obtain ⟨h5, h6⟩ := hRk k r hk
    obtain ⟨k1, k2, xs, k3⟩ := hF.rws k r n h6 (hrk k n h5 hn)
    exact ⟨k1, fun hm => k2 (List.mem_of_mem_take hm), xs, k3⟩
  · intro k k' r r' hk hk' hg
    exact hF.rinj k k' r r' (hRk k r hk).2 (hRk k' r' hk').2 hg

theorem wkN_of {n0 : Nat} {st st' : St} (m : Nat) (ad : List Nat) (h1 : wk3 m st'.bx.length ad st.s st'.s) (h2 : wkB m st'.bx.length ad st.bx st'.bx) (h3 : st'.rw = st.rw.take m ++ ad) (h4 : m ≤ st.rw.length) (h5 : n0 ≤ st'.bx.length) : WkN n0 st st' :=
  (wk_of m ad h1 h2 h3 h4).toN h5

/-! ### the start and the end of a function -/
section
variable {P : Program} {st : St}
def rvOk (st : St) : RV → Prop
  | .t _ => True
  | .c s n ag => isPb (st.s.get s) ∧ (ldC st.bx n (st.s.get s)).length = n ∧ (ag = true ∨ n = 1)
def rvVal (n0 : Nat) (ks : List Nat) (st : St) : RV → PV
  | .t s => exV n0 ks st.bx (st.s.get s)
  | .c s n true => exV n0 ks st.bx (.agg (ldC st.bx n (st.s.get s)))
  | .c s n false => exV n0 ks st.bx ((ldC st.bx n (st.s.get s)).headD .bad)
def rvsOk (st : St) : List RV → Prop
  | [] => True
  | r :: rs => rvOk st r ∧ rvsOk st rs
-- [rv]
@[simp] theorem rvOk_t (st : St) (s : Slot) : rvOk st (.t s) = True := rfl
@[simp] theorem rvOk_c (st : St) (s : Slot) (n : Nat) (ag : Bool) : rvOk st (.c s n ag) = (isPb (st.s.get s) ∧ (ldC st.bx n (st.s.get s)).length = n ∧ (ag = true ∨ n = 1)) := rfl
@[simp] theorem rvVal_t (n0 : Nat) (ks : List Nat) (st : St) (s : Slot) : rvVal n0 ks st (.t s) = exV n0 ks st.bx (st.s.get s) := rfl
@[simp] theorem rvVal_ct (n0 : Nat) (ks : List Nat) (st : St) (s : Slot) (n : Nat) : rvVal n0 ks st (.c s n true) = exV n0 ks st.bx (.agg (ldC st.bx n (st.s.get s))) := rfl
@[simp] theorem rvVal_cf (n0 : Nat) (ks : List Nat) (st : St) (s : Slot) (n : Nat) : rvVal n0 ks st (.c s n false) = exV n0 ks st.bx ((ldC st.bx n (st.s.get s)).headD .bad) := rfl
@[simp] theorem retP_1 (p : PV) : retP [p] = p := rfl
@[simp] theorem retP_2 (p q : PV) (r : List PV) : retP (p :: q :: r) = .tup (p :: q :: r) := rfl
@[simp] theorem ix_0 : ix 0 = .a := rfl
@[simp] theorem ix_1 : ix 1 = .b := rfl
@[simp] theorem ix_2 : ix 2 = .c := rfl
@[simp] theorem ix_3 : ix 3 = .d := rfl
@[simp] theorem ix_4 : ix 4 = .e := rfl
@[simp] theorem ix_5 : ix 5 = .f := rfl
@[simp] theorem ix_6 : ix 6 = .g := rfl
@[simp] theorem ix_7 : ix 7 = .h := rfl
@[simp] theorem slot_eq (n : Nat) : slot n = ⟨ix (n / 64), ix (n / 8 % 8), ix (n % 8)⟩ := rfl
-- [/rv]
theorem resIs_of {n0 : Nat} {ks : List Nat} : ∀ {rs : List RV}, rvsOk st rs → resIs n0 ks st rs (rs.map (rvVal n0 ks st))
  | [], _ => rfl
  | r :: rs, ⟨h1, h2⟩ => by
    refine ⟨_, _, rfl, ?_, resIs_of h2⟩
    cases r with
    | t s => rfl
    | c s n ag =>
      obtain ⟨k1, k2, k3⟩ := h1
      unfold isPb at k1
      split at k1
      · rename_i b off h
        rw [h] at k2
        simp only [ldC_pb] at k2
        cases ag with
        | true => exact ⟨b, off, _, _, h, rfl, k2, rfl, by simp [h]⟩
        | false =>
          have hn : n = 1 := by simpa using k3
          subst hn
          match hh : ((st.bx.getD b []).drop off).take 1, k2 with
          | [x], _ => exact ⟨b, off, _, x, h, rfl, by rw [hh]; rfl, by simp only [Bool.false_eq_true, if_false]; exact hh, by simp only [rvVal, h, ldC_pb, hh]; rfl⟩
      · exact k1.elim
attribute [simp] lessL lessBx wkCs
@[simp] theorem lessCap_agg (cs cs' : List PV) : lessCap (.agg cs) (.agg cs') = wkCs cs cs' := rfl
@[simp] theorem lessCap_fn (f f' : FuncId) (cs cs' : List PV) : lessCap (.fn f cs) (.fn f' cs') = (f = f' ∧ wkCs cs cs') := rfl
@[simp] theorem lessCap_fs (f f' : FuncId) (cs cs' : List PV) : lessCap (.fs f cs) (.fs f' cs') = (f = f' ∧ wkCs cs cs') := rfl
@[simp] theorem lessCap_v (x : Value) (p : PV) : lessCap (.v x) p = (PV.v x = p) := rfl
@[simp] theorem wkC_v (x : Value) (p : PV) : wkC (.v x) p = (PV.v x = p) := rfl
@[simp] theorem lessCap_sl (s s' : Nat) (es es' : List (List PV)) (o o' : Own) : lessCap (.sl s es o) (.sl s' es' o') = ((s = s' ∨ es' = []) ∧ es = es' ∧ ownW o o') := rfl
@[simp] theorem wkC_sl (s s' : Nat) (es es' : List (List PV)) (o o' : Own) : wkC (.sl s es o) (.sl s' es' o') = ((s = s' ∨ es' = []) ∧ es = es' ∧ ownW o o') := rfl
@[simp] theorem ownW_lent (o : Own) : ownW o .lent = True := by cases o <;> simp [ownW]
@[simp] theorem ownW_nn : ownW .none .none = True := rfl
@[simp] theorem ownW_fn : ownW .full .none = True := rfl
@[simp] theorem ownW_ff : ownW .full .full = True := rfl
@[simp] theorem ownW_in (k : Nat) : ownW (.id k) .none = True := rfl
@[simp] theorem lessCap_sb (b s o n b' s' o' n' : Nat) (c c' : Option Nat) : lessCap (.sb b s o n c) (.sb b' s' o' n' c') = (b = b' ∧ s = s' ∧ o = o' ∧ n = n' ∧ (c = c' ∨ c' = none)) := rfl
@[simp] theorem wkC_sb (b s o n b' s' o' n' : Nat) (c c' : Option Nat) : wkC (.sb b s o n c) (.sb b' s' o' n' c') = (b = b' ∧ s = s' ∧ o = o' ∧ n = n' ∧ (c = c' ∨ c' = none)) := rfl
@[simp] theorem lessCap_pt (cs : List PV) (p : PV) : lessCap (.pt cs) p = (PV.pt cs = p) := rfl
@[simp] theorem wkC_pt (cs : List PV) (p : PV) : wkC (.pt cs) p = (PV.pt cs = p) := rfl
def lessR : List PV → PV → Prop
  | [v], r => lessCap v r
  | vs, .tup ws => lessL vs ws ∧ 2 ≤ ws.length
  | _, _ => False
@[simp] theorem lessR_1 (v r : PV) : lessR [v] r = lessCap v r := by cases r <;> rfl
@[simp] theorem lessR_2 (v v2 : PV) (vs ws : List PV) : lessR (v :: v2 :: vs) (.tup ws) = (lessL (v :: v2 :: vs) ws ∧ 2 ≤ ws.length) := rfl
theorem lessR_spec {vs : List PV} {r : PV} (h : lessR vs r) : ∃ ws, lessL vs ws ∧ r = retP ws := by
  match vs, r, h with
  | [v], r, h => rw [lessR_1] at h; exact ⟨[r], ⟨h, trivial⟩, rfl⟩
  | [], .tup ws, h => match ws, h with
    | [], h => exact absurd h.2 (by simp)
  | v :: v2 :: vs, .tup (w :: w2 :: ws), h => exact ⟨w :: w2 :: ws, h.1, rfl⟩
/-- what the end of a function must show: the boxes ks stay boxes, the results are vs' -/
def finB (n0 : Nat) (us ks : List Nat) (rs : List RV) (vs' : List PV) (bx' : List (List PV)) (st : St) : Prop :=
  ksOk n0 us ks st.bx.length ∧ rvsOk st rs ∧ lessL (rs.map (rvVal n0 ks st)) vs' ∧ lessBx (ks.map fun k => (st.bx.getD k []).map (exC n0 ks st.bx)) bx'
def finQ (rs : List RV) (r : PV) (st : St) : Prop := rvsOk st rs ∧ lessR (rs.map (rvVal 0 [] st)) r
@[simp] theorem finQ_mk (rs : List RV) (r : PV) (s : Slots) (bx : List (List PV)) (rw : List Nat) : finQ rs r ⟨s, bx, rw⟩ = (rvsOk ⟨s, bx, rw⟩ rs ∧ lessR (rs.map (rvVal 0 [] ⟨s, bx, rw⟩)) r) := rfl
@[simp] theorem finB_mk (n0 : Nat) (us ks : List Nat) (rs : List RV) (vs' : List PV) (bx' : List (List PV)) (s : Slots) (bx : List (List PV)) (rw : List Nat) : finB n0 us ks rs vs' bx' ⟨s, bx, rw⟩ =
    (ksOk n0 us ks bx.length ∧ rvsOk ⟨s, bx, rw⟩ rs ∧ lessL (rs.map (rvVal n0 ks ⟨s, bx, rw⟩)) vs' ∧ lessBx (ks.map fun k => (bx.getD k []).map (exC n0 ks bx)) bx') := rfl
theorem pcalls_gen {n0 : Nat} {ms us : List Nat} {f : FuncId} {pf : PFun} (hf : cFunB P n0 ms f = some pf) {args : List PV} {r : PV} {bx bx' : List (List PV)} {F : St → Prop} (hn0 : bx.length = n0) (hF : ∀ st, F st → resOf n0 us pf.res r bx' st) (hn : (P.funcs[f]?.map (·.ntmps)).any (args.length ≤ ·) = true)
    (h : go P n0 F [.c pf.body] ⟨initS 0 args .nil, bx, []⟩) : PCallsB P f us bx args r bx' := by
  obtain ⟨st2, h1, h2⟩ := h
  refine pcalls_of hf hn0 hn ⟨st2, h1, pwp_mono (fun e st h => ?_) h2⟩
  cases e with
  | norm => exact hF st h
  | exit id => exact h.elim
  | ret => exact hF st h
theorem pcalls {ms : List Nat} {f : FuncId} {pf : PFun} (hf : cFunB P 0 ms f = some pf) {args : List PV} {r : PV} (hn : (P.funcs[f]?.map (·.ntmps)).any (args.length ≤ ·) = true)
    (h : go P 0 (finQ pf.res r) [.c pf.body] ⟨initS 0 args .nil, [], []⟩) : PCalls P f args r :=
  pcalls_gen hf rfl (fun st h => by
    obtain ⟨ws, h1, h2⟩ := lessR_spec h.2
    exact ⟨[], _, _, ⟨Nat.zero_le _, fun j hj => by omega, List.nodup_nil, by simp, fun j _ k hk => by simp at hk⟩, resIs_of h.1, h1, h2, trivial⟩) hn h
theorem pcallsB {n0 : Nat} {ms us : List Nat} (ks : List Nat) (vs' : List PV) {f : FuncId} {pf : PFun} (hf : cFunB P n0 ms f = some pf) {args : List PV} {r : PV} {bx bx' : List (List PV)} (hr : retP vs' = r) (hn0 : bx.length = n0) (hn : (P.funcs[f]?.map (·.ntmps)).any (args.length ≤ ·) = true)
    (h : go P n0 (finB n0 us ks pf.res vs' bx') [.c pf.body] ⟨initS 0 args .nil, bx, []⟩) : PCallsB P f us bx args r bx' :=
  pcalls_gen hf hn0 (fun _st h => ⟨ks, _, _, h.1, resIs_of h.2.1, h.2.2.1, hr.symm, h.2.2.2⟩) hn h
end
attribute [simp] initS rvsOk
/-! ### numbers -/
theorem w64 {n : Int} (h : -9223372036854775808 ≤ n ∧ n ≤ 9223372036854775807) : IntKind.i64.wrap n = n := by
  simp only [IntKind.wrap, IntKind.bits, IntKind.signed]; simp; omega
theorem w8 {n : Int} (h : 0 ≤ n ∧ n ≤ 255) : IntKind.u8.wrap n = n := by
  simp only [IntKind.wrap, IntKind.bits, IntKind.signed]; simp; omega
@[simp] theorem w64_iff (n : Int) : (IntKind.i64.wrap n = n) ↔ (-9223372036854775808 ≤ n ∧ n ≤ 9223372036854775807) := by
  refine ⟨fun h => ?_, w64⟩
  simp only [IntKind.wrap, IntKind.bits, IntKind.signed] at h
  simp at h
  omega
@[simp] theorem w8_iff (n : Int) : (IntKind.u8.wrap n = n) ↔ (0 ≤ n ∧ n ≤ 255) := by
  refine ⟨fun h => ?_, w8⟩
  simp only [IntKind.wrap, IntKind.bits, IntKind.signed] at h
  simp at h
  omega
/-- an element of a list told element by element -/
theorem getD_map {α β : Type} [Inhabited α] (f : α → β) (l : List α) (k : Nat) (d : β) (h : k < l.length) : (l.map f).getD k d = f (l.getD k default) := by
  simp [List.getD_eq_getElem?_getD, h]
end Go.Proofs.Ytdkancgcefklfaa
