/-
  The laws of chapter 18 hold of the printed functions: slots, ways.
-/
import Derived.Test.YtdkancgcefklfaaT1
namespace Go.Proofs.Ytdkancgcefklfaa

theorem slots1 (x0 : List Arr3U8) (x1 : Arr2U8) : law18_PinSlots x0 x1 = some true := by
  unfold law18_PinSlots
  have hr := n_range x1.x0 (m := 9) (by omega)
  rw [sanity1, Option.bind_some, chk_pos (by omega)]
  obtain ⟨n, hn⟩ : ∃ n, n = 1 + rem (x1.x0.toNat : Int) 9 := ⟨_, rfl⟩
  obtain ⟨a, ha⟩ : ∃ a, a = rem (x1.x1.toNat : Int) (n + 1) := ⟨_, rfl⟩
  have har := n_range x1.x1 (m := n + 1) (by omega)
  rw [← ha] at har
  rw [← hn, ← ha]
  obtain ⟨l, hl, hv, hlen⟩ := made1 x0 (n := n) (by omega) (by omega)
  have hsm := valid_small hv
  have hiv := insert_valid (at_ := a) hv (by omega)
  have hback : deleteL (insertL l a) a = l.filter fun p => decide (a ≤ p.From) || decide (p.To ≤ a) := by rw [← rdel_eq, ← rins_eq, back_eq]
  have hbv : validB (deleteL (insertL l a) a) n = true := by
    rw [hback]
    obtain ⟨g0, g1, g2⟩ := valid_iff.1 hv
    exact valid_iff.2 ⟨g0, g1, good_filter _ g2⟩
  have hil := insertL_len l a
  have hdl := deleteL_len l a
  have hbl := deleteL_len (insertL l a) a
  rw [hl, Option.bind_some, chk_pos (by omega), chk_pos (by omega), insert2 _ _ (by omega) hsm, Option.bind_some, delete2 _ _ (by omega) (valid_small hiv) (by omega), Option.bind_some, delete2 _ _ (by omega) hsm (by omega), Option.bind_some]
  rw [valid1 _ _ (by omega), hiv, Option.bind_some, if_pos rfl, valid1 _ _ (by omega), hbv, Option.bind_some, if_pos rfl]
  have h60 : ((if a < n then chk (-9223372036854775808 ≤ n - 1 ∧ n - 1 ≤ 9223372036854775807) <| (ref18_Valid (deleteL l a) (n - 1)).bind fun w57_24 => some (!w57_24) else some false) : Option Bool) = some false := by
    by_cases h : a < n
    · rw [if_pos h, chk_pos (by omega), valid1 _ _ (by omega), delete_valid hv (by omega) h]; rfl
    · rw [if_neg h]
  rw [h60, Option.bind_some, if_neg (by simp)]
  have h := loop_all (f := law18_PinSlots_L1 x0 x1 l (insertL l a) (deleteL l a)) (fun k => ((l.take k).filter fun p => decide (a ≤ p.From) || decide (p.To ≤ a), (k : Int))) l.length (.inr (l.filter fun p => decide (a ≤ p.From) || decide (p.To ≤ a))) (by omega) (fun k hk => by
    unfold law18_PinSlots_L1
    simp -implicitDefEqProofs only
    rw [← hn, ← ha]
    have hfl := List.length_filter_le (fun p : Pin => decide (a ≤ p.From) || decide (p.To ≤ a)) (l.take k)
    have htk : (l.take k).length = k := by simp; omega
    have hmem := at'_mem (l := l) (i := (k : Int)) (by omega) (by omega)
    have hgm := good_mem (valid_iff.1 hv).2.2 _ hmem
    rw [if_pos (by omega), chk_pos (by omega), take_at hk, List.filter_append, List.filter_cons, List.filter_nil]
    generalize at' l (k : Int) = p at *
    generalize (l.take k).filter (fun p => decide (a ≤ p.From) || decide (p.To ≤ a)) = s at *
    have e83 : ((if a ≤ p.From then some true else some (decide (p.To ≤ a))) : Option Bool) = some (decide (a ≤ p.From) || decide (p.To ≤ a)) := by
      by_cases h : a ≤ p.From <;> simp [h]
    have e12 : ∀ b : Bool, ((if b = true then chk (0 ≤ (k : Int) ∧ (k : Int) < (l.length : Int)) <| chk ((s.length + ([p] : List Pin).length) * 24 ≤ 140737488355328) <| some (s ++ [p]) else some s) : Option (List Pin)) = some (s ++ if b then [p] else []) := fun b => by
      cases b
      · simp
      · rw [if_pos rfl, chk_pos (by omega), chk_pos (by simp; omega)]; simp
    rw [e83, Option.bind_some, e12, Option.bind_some, chk_pos (by omega)]
    by_cases h : p.To ≤ a
    · have m1 : p ∈ insertL l a := by rw [← rins_eq]; exact mem_more h hgm.2.1 hmem
      have m2 : p ∈ deleteL l a := by rw [← rdel_eq]; exact mem_less h hgm.2.1 hmem
      rw [if_pos h, has1 _ _ (by omega), Option.bind_some, if_pos (by simpa using m1), has1 _ _ (by omega), Option.bind_some, decide_eq_true m2, Option.bind_some, if_neg (by simp), chk_pos (by omega)]
      simp
    · rw [if_neg h, Option.bind_some, if_neg (by simp), chk_pos (by omega)]
      simp) (by unfold law18_PinSlots_L1; simp) (s := ([], 0)) rfl
  have hkl := List.length_filter_le (fun p : Pin => decide (a ≤ p.From) || decide (p.To ≤ a)) l
  rw [h, Option.bind_some]
  simp -implicitDefEqProofs only
  rw [hback, same1 _ _ (by omega), Option.bind_some, if_pos (by simp)]
  rfl

theorem ways2 (x0 : List Arr3U8) (x1 : List Arr3U8) (x2 : UInt8) : law18_PinWays x0 x1 x2 = some true := by
  unfold law18_PinWays
  have hr := n_range x2 (m := 5) (by omega)
  obtain ⟨n, hn⟩ : ∃ n, n = 1 + rem (x2.toNat : Int) 5 := ⟨_, rfl⟩
  rw [sanity1, Option.bind_some, chk_pos (by omega), chk_pos (by omega), ← hn]
  obtain ⟨l, hl, hv, hlen⟩ := made1 (sub x0 0 (min (x0.length : Int) 3)) (n := n) (by omega) (by omega)
  obtain ⟨es, hes, heo, hel⟩ := lattice1 x1 (n := n) (by omega) (by omega)
  have hre := restr_len es l
  rw [hl, Option.bind_some, hes, Option.bind_some, restr2 _ _ (by omega) (by simp -implicitDefEqProofs only; omega), Option.bind_some]
  simp -implicitDefEqProofs only
  rw [if_pos trivial, decide_eq_false (by omega : ¬ (es.length : Int) < ((restr es l).length : Int)), Option.bind_some, if_neg (by simp)]
  have hrok : EOk n (restr es l) := fun e he => heo e (List.mem_filter.1 he).1
  have hL1 := loop_all (f := law18_PinWays_L1 x2 ⟨n, restr es l⟩) (fun k => (k : Int)) (restr es l).length (.inr ()) (by omega) (fun k hk => by
    unfold law18_PinWays_L1
    simp -implicitDefEqProofs only
    rw [← hn]
    have hm := hrok _ (at'_mem (l := restr es l) (i := (k : Int)) (by omega) (by omega))
    rw [if_pos (by omega), chk_pos (by omega), if_neg (by omega), if_neg (by omega), decide_eq_false (by omega : ¬ n < _), Option.bind_some, if_neg (by simp), chk_pos (by omega)]
    rfl) (by unfold law18_PinWays_L1; simp) (s := 0) rfl
  rw [hL1, Option.bind_some]
  simp -implicitDefEqProofs only
  have hw1 : ∀ es', EOk n es' → es'.length ≤ 4800 → ref18_Ways ⟨n, es'⟩ 0 = some (wayT es' n fuel 0) := fun es' h1 h2 => by
    unfold ref18_Ways
    exact ways1 ⟨n, es'⟩ h1 (by simp -implicitDefEqProofs only; omega) (by simp -implicitDefEqProofs only; omega) fuel 0 (by omega) (by simp -implicitDefEqProofs only; omega) (by simp -implicitDefEqProofs only; unfold fuel; omega)
  generalize fuel = K at hw1
  rw [hw1 es heo hel, hw1 (restr es l) hrok (by omega), Option.bind_some]
  have hWl : ∀ w ∈ wayT es n K 0, w.length ≤ 5 := fun w hw => by
    have := path_len (wayT_mem heo hw).1
    omega
  have hWn := wayT_len es n K 0
  have hlaw := ways_law (fun e he => (heo e he).2) l (fun p hp => by have := good_mem (valid_iff.1 hv).2.2 p hp; omega) K
  generalize wayT es n K 0 = W at *
  have hL2 : ∀ i j : Nat, i < W.length → j < l.length → loop (law18_PinWays_L2 l W (i : Int) (j : Int)) (false, 0) = some ((at' W (i : Int)).any (segB (at' l (j : Int)))) := fun i j hi hj => by
    have hwm := hWl _ (at'_mem (l := W) (i := (i : Int)) (by omega) (by omega))
    refine loop_all (f := law18_PinWays_L2 l W (i : Int) (j : Int)) (fun k => (((at' W (i : Int)).take k).any (segB (at' l (j : Int))), (k : Int))) (at' W (i : Int)).length _ (by omega) (fun k hk => ?_) ?_ rfl
    · unfold law18_PinWays_L2
      simp -implicitDefEqProofs only
      rw [chk_pos (by omega), if_pos (by omega), chk_pos (by omega), take_at hk, List.any_append]
      generalize ((at' W (i : Int)).take k).any (segB (at' l (j : Int))) = b
      generalize at' (at' W (i : Int)) (k : Int) = e
      rw [chk_pos (by omega)]
      generalize at' l (j : Int) = p
      have hx : ((if b = true then some true else if e.From = p.From then if e.To = p.To then if p.Word = (-1) then some true else some (decide (p.Word = e.Word)) else some false else some false) : Option Bool) = some (b || [e].any (segB p)) := by
        cases b
        · by_cases h1 : e.From = p.From
          · by_cases h2 : e.To = p.To
            · by_cases h3 : p.Word = -1 <;> simp [segB, h1, h2, h3]
            · simp [segB, h1, h2]
          · simp [segB, h1]
        · simp
      rw [hx, Option.bind_some, chk_pos (by omega)]
      simp
    · unfold law18_PinWays_L2
      simp -implicitDefEqProofs only
      rw [chk_pos (by omega), if_neg (by omega), List.take_length]
  have hL3 : ∀ i : Nat, i < W.length → loop (law18_PinWays_L3 l W (i : Int)) (true, 0) = some (l.all fun p => (at' W (i : Int)).any (segB p)) := fun i hi => by
    refine loop_all (f := law18_PinWays_L3 l W (i : Int)) (fun k => ((l.take k).all fun p => (at' W (i : Int)).any (segB p), (k : Int))) l.length _ (by omega) (fun k hk => ?_) ?_ rfl
    · unfold law18_PinWays_L3
      simp -implicitDefEqProofs only
      rw [if_pos (by omega), hL2 i k hi hk, Option.bind_some, take_at hk, List.all_append]
      generalize (l.take k).all (fun p => (at' W (i : Int)).any (segB p)) = b
      cases b
      · rw [if_neg (by simp), Option.bind_some, chk_pos (by omega)]; simp
      · rw [if_pos rfl, Option.bind_some, chk_pos (by omega)]; simp
    · unfold law18_PinWays_L3
      simp
  have hL4 : loop (law18_PinWays_L4 l W) ([], 0) = some (W.filter fun w => l.all fun p => w.any (segB p)) := by
    refine loop_all (f := law18_PinWays_L4 l W) (fun k => ((W.take k).filter fun w => l.all fun p => w.any (segB p), (k : Int))) W.length _ (by omega) (fun k hk => ?_) ?_ rfl
    · unfold law18_PinWays_L4
      simp -implicitDefEqProofs only
      have hfl := List.length_filter_le (fun w : List Edge => l.all fun p => w.any (segB p)) (W.take k)
      have htk : (W.take k).length = k := by simp; omega
      rw [if_pos (by omega), hL3 k hk, Option.bind_some, take_at hk, List.filter_append, List.filter_cons, List.filter_nil]
      generalize (W.take k).filter (fun w => l.all fun p => w.any (segB p)) = s at *
      generalize (l.all fun p => (at' W (k : Int)).any (segB p)) = b
      cases b
      · rw [if_neg (by simp), Option.bind_some, chk_pos (by omega)]; simp
      · rw [if_pos rfl, chk_pos (by omega), chk_pos (by simp; omega), Option.bind_some, chk_pos (by omega)]; simp
    · unfold law18_PinWays_L4
      simp
  rw [hL4, Option.bind_some]
  by_cases h300 : W.length = 300
  · rw [if_pos (by omega)]; rfl
  · have hf := List.length_filter_le (fun w : List Edge => l.all fun p => w.any (segB p)) W
    rw [if_neg (by omega), Option.bind_some, hlaw h300, sameW1 _ _ (by omega) (fun w hw => by have := hWl w (List.mem_filter.1 hw).1; omega), Option.bind_some, if_pos (by simp)]
    rfl
end Go.Proofs.Ytdkancgcefklfaa
