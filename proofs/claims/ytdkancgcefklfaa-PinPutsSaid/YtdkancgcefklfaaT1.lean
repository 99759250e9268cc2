/-
  The laws of chapter 18 hold of the printed functions.
-/
import Derived.Test.YtdkancgcefklfaaS5
namespace Go.Proofs.Ytdkancgcefklfaa

theorem n_range (x : UInt8) {m : Int} (hm : 0 < m) : 0 ≤ rem (x.toNat : Int) m ∧ rem (x.toNat : Int) m < m := rem_range (by omega) hm
theorem insertL_len (l : List Pin) (a : Int) : (insertL l a).length ≤ l.length := by rw [← rins_eq]; exact rins_len a l
theorem deleteL_len (l : List Pin) (a : Int) : (deleteL l a).length ≤ l.length := by rw [← rdel_eq]; exact rdel_len a l
theorem restr_len (es : List Edge) (l : List Pin) : (restr es l).length ≤ es.length := List.length_filter_le _ _

theorem matches1 (x0 : List Arr3U8) (x1 : List Arr3U8) (x2 : Arr4I8) (h1 : -128 ≤ x2.x1 ∧ x2.x1 ≤ 127) (h2 : -128 ≤ x2.x2 ∧ x2.x2 ≤ 127) (h3 : -128 ≤ x2.x3 ∧ x2.x3 ≤ 127) : law18_PinMatchesReference x0 x1 x2 = some true := by
  unfold law18_PinMatchesReference
  have hr := n_range (UInt8.ofInt x2.x0) (m := 9) (by omega)
  have ha := n_range (UInt8.ofInt x2.x1) (m := 12) (by omega)
  rw [sanity1, Option.bind_some, chk_pos (by omega)]
  generalize hn : 1 + rem ((UInt8.ofInt x2.x0).toNat : Int) 9 = n at *
  generalize rem ((UInt8.ofInt x2.x1).toNat : Int) 12 = a at *
  obtain ⟨l, hl, hv, hlen⟩ := made1 x0 (n := n) (by omega) (by omega)
  obtain ⟨es, hes, heo, hel⟩ := lattice1 x1 (n := n) (by omega) (by omega)
  have hsm := valid_small hv
  rw [hl, Option.bind_some, hes, Option.bind_some, chk_pos (by omega), chk_pos (by omega), chk_pos (by omega), put2 _ _ _ (by omega), Option.bind_some, put1 _ _ _ (by omega), Option.bind_some]
  have hq : ∀ q : List Pin × Int, q = (if validB l n && validB [(⟨rem x2.x1 12, rem x2.x2 12, rem x2.x3 3⟩ : Pin)] n then (putL l (⟨rem x2.x1 12, rem x2.x2 12, rem x2.x3 3⟩ : Pin), 0) else ([], 180)) → q.1.length ≤ 100000 := by
    rintro q rfl
    split
    · have := putL_len l (⟨rem x2.x1 12, rem x2.x2 12, rem x2.x3 3⟩ : Pin)
      simp only; omega
    · simp
  have hq := hq _ rfl
  generalize (if validB l n && validB [(⟨rem x2.x1 12, rem x2.x2 12, rem x2.x3 3⟩ : Pin)] n then (putL l (⟨rem x2.x1 12, rem x2.x2 12, rem x2.x3 3⟩ : Pin), (0 : Int)) else ([], 180)) = q at *
  have hre := restr_len es l
  have hil := insertL_len l a
  have hdl := deleteL_len l a
  rw [same1 _ _ hq, Option.bind_some, if_pos (by simp), if_pos rfl, restr2 _ _ (by omega) (by simp -implicitDefEqProofs only; omega), Option.bind_some, restr1 _ _ (by omega) (by simp -implicitDefEqProofs only; omega), Option.bind_some, sameE1 _ _ (by simp -implicitDefEqProofs only; omega), Option.bind_some]
  rw [decide_eq_true rfl, Option.bind_some, if_neg (by simp), insert2 _ _ (by omega) hsm, Option.bind_some, insert1 _ _ (by omega) hsm, Option.bind_some, rins_eq, same1 _ _ (by omega), Option.bind_some, if_pos (by simp)]
  rw [delete2 _ _ (by omega) hsm (by omega), Option.bind_some, delete1 _ _ (by omega) hsm, Option.bind_some, rdel_eq, same1 _ _ (by omega), Option.bind_some, if_pos (by simp)]
  rfl

theorem puts1 (x0 : List Arr3U8) (x1 : Arr3U8) (x2 : UInt8) : law18_PinPuts x0 x1 x2 = some true := by
  unfold law18_PinPuts
  have hr := n_range x2 (m := 9) (by omega)
  rw [sanity1, Option.bind_some, chk_pos (by omega)]
  generalize hn : 1 + rem (x2.toNat : Int) 9 = n at *
  obtain ⟨l, hl, hv, hlen⟩ := made1 x0 (n := n) (by omega) (by omega)
  have hp := valid_pin x1 (n := n) (by omega) (by omega)
  have hpg := pin_good x1 (n := n) (by omega)
  rw [hl, Option.bind_some, pin1 _ (by omega) (by omega), Option.bind_some]
  generalize pinOf x1 n = p at *
  have hpl := putL_len l p
  have hpv := put_valid hv hp
  have hpp := put_put l hpg.2.1
  rw [put2 _ _ _ (by omega), hv, hp, Option.bind_some]
  simp -implicitDefEqProofs only [Bool.and_self, if_true]
  rw [put2 _ _ _ (by omega), hpv, hp, Option.bind_some, hpp]
  simp -implicitDefEqProofs only [Bool.and_self, if_true]
  have hm : p ∈ putL l p := mem_put.2 (.inl rfl)
  rw [valid1 _ _ (by omega), hpv, Option.bind_some, if_pos rfl, has1 _ _ (by omega), Option.bind_some, if_pos (by simpa using hm), same1 _ _ (by omega), Option.bind_some, decide_eq_true rfl, Option.bind_some, if_neg (by simp)]
  have h := loop_all (f := law18_PinPuts_L1 l p (putL l p, 0)) (fun k => (1 + (((l.take k).filter fun q => !ov p q).length : Int), (k : Int))) l.length (.inr (1 + ((l.filter fun q => !ov p q).length : Int))) (by omega) (fun k hk => by
    unfold law18_PinPuts_L1
    simp -implicitDefEqProofs only
    have hfl := List.length_filter_le (fun q => !ov p q) (l.take k)
    have htk : (l.take k).length = k := by simp; omega
    have hmem := at'_mem (l := l) (i := (k : Int)) (by omega) (by omega)
    rw [if_pos (by omega), chk_pos (by omega), ov1, Option.bind_some, ov_comm, take_at hk, List.filter_append, List.filter_cons]
    cases ho : ov p (at' l (k : Int))
    · have hin : at' l (k : Int) ∈ putL l p := mem_put.2 (.inr ⟨hmem, ho⟩)
      rw [if_neg (by simp), chk_pos (by omega), has1 _ _ (by omega), Option.bind_some, if_pos (by simpa using hin), Option.bind_some]
      simp -implicitDefEqProofs only
      rw [chk_pos (by omega)]
      simp; omega
    · rw [if_pos rfl, Option.bind_some]
      simp -implicitDefEqProofs only
      rw [chk_pos (by omega)]
      simp) (by unfold law18_PinPuts_L1; simp) (s := (1, 0)) (by simp)
  rw [h, Option.bind_some]
  simp -implicitDefEqProofs only
  have hlen2 := put_length l p
  rw [if_pos (by omega)]
  rfl

theorem rot_mem {l : List Pin} {w : Int} (hw : 0 ≤ w) (p : Pin) : p ∈ (List.range l.length).map (fun (i : Nat) => at' l (rem ((i : Int) + w) (l.length : Int))) ↔ p ∈ l := by
  rw [List.mem_map]
  constructor
  · rintro ⟨i, hi, rfl⟩
    rw [List.mem_range] at hi
    have := rem_range (a := (i : Int) + w) (n := (l.length : Int)) (by omega) (by omega)
    exact at'_mem this.1 this.2
  · intro hp
    obtain ⟨j, hj, rfl⟩ := List.getElem_of_mem hp
    have hn : (0 : Int) < (l.length : Int) := by omega
    -- i with (i + w) mod n = j
    refine ⟨(((j : Int) - w) % (l.length : Int)).toNat, ?_, ?_⟩
    · rw [List.mem_range]
      have h1 := Int.emod_nonneg ((j : Int) - w) (by omega : (l.length : Int) ≠ 0)
      have h2 := Int.emod_lt_of_pos ((j : Int) - w) hn
      omega
    · have h1 := Int.emod_nonneg ((j : Int) - w) (by omega : (l.length : Int) ≠ 0)
      have h3 : rem (((((j : Int) - w) % (l.length : Int)).toNat : Int) + w) (l.length : Int) = (j : Int) := by
        rw [Int.toNat_of_nonneg h1]
        show Int.tmod _ _ = _
        rw [Int.tmod_eq_emod_of_nonneg (by omega), Int.emod_add_emod, Int.sub_add_cancel]
        exact Int.emod_eq_of_lt (by omega) (by omega)
      rw [h3, at'_get hj]

theorem restricts1 (x0 : List Arr3U8) (x1 : List Arr3U8) (x2 : Arr2U8) : law18_PinRestricts x0 x1 x2 = some true := by
  unfold law18_PinRestricts
  have hr := n_range x2.x0 (m := 9) (by omega)
  rw [sanity1, Option.bind_some, chk_pos (by omega)]
  generalize hn : 1 + rem (x2.x0.toNat : Int) 9 = n at *
  obtain ⟨l, hl, hv, hlen⟩ := made1 x0 (n := n) (by omega) (by omega)
  obtain ⟨es, hes, heo, hel⟩ := lattice1 x1 (n := n) (by omega) (by omega)
  have hre : ∀ m, (restr es m).length ≤ es.length := fun m => restr_len es m
  have hw : (x2.x1.toNat : Int) ≤ 255 := by have := x2.x1.toNat_lt; omega
  rw [hl, Option.bind_some, hes, Option.bind_some, restr2 _ _ (by omega) (by simp -implicitDefEqProofs only; omega), Option.bind_some]
  simp -implicitDefEqProofs only
  have hone : restr es ((List.range l.length).map (fun (i : Nat) => at' l (rem ((i : Int) + (x2.x1.toNat : Int)) (l.length : Int)))) = restr es l :=
    restr_same es _ _ (fun p => (rot_mem (l := l) (w := (x2.x1.toNat : Int)) (by omega) p).symm)
  have h := loop_all (f := law18_PinRestricts_L1 x1 x2 l) (fun k => ((k : Int), n, restr es ((List.range k).map (fun (i : Nat) => at' l (rem ((i : Int) + (x2.x1.toNat : Int)) (l.length : Int)))))) l.length (n, restr es l) (by omega) (fun k hk => by
    unfold law18_PinRestricts_L1
    simp -implicitDefEqProofs only
    have hm := rem_range (a := (k : Int) + (x2.x1.toNat : Int)) (n := (l.length : Int)) (by omega) (by omega)
    have hre2 := hre ((List.range k).map (fun (i : Nat) => at' l (rem ((i : Int) + (x2.x1.toNat : Int)) (l.length : Int))))
    rw [if_pos (by omega), chk_pos (by omega), chk_pos (by omega), chk_pos hm, restr2 _ _ (by simp) (by simp -implicitDefEqProofs only; omega), Option.bind_some, chk_pos (by omega)]
    rw [List.range_succ, List.map_append, ← restr_app]
    rfl) (by unfold law18_PinRestricts_L1; simp [hone]) (s := (0, n, es)) (by simp [restr_nil])
  have hq : quo (l.length : Int) 2 = ((l.length / 2 : Nat) : Int) := by
    show Int.tdiv _ _ = _
    rw [Int.tdiv_eq_ediv_of_nonneg (by omega)]; omega
  have hre1 := hre l
  have hre3 := hre (l.take (l.length / 2))
  rw [h, Option.bind_some, hq]
  simp -implicitDefEqProofs only
  rw [chk_pos (by omega), chk_pos (by omega), sub_take, Int.toNat_natCast, restr2 _ _ (by simp; omega) (by simp -implicitDefEqProofs only; omega), Option.bind_some, restr2 _ _ (by omega) (by simp -implicitDefEqProofs only; omega), Option.bind_some]
  simp -implicitDefEqProofs only
  have hfew := restr_length es l (l.take (l.length / 2)) (fun p hp => List.mem_of_mem_take hp)
  rw [restr_restr, sameE1 _ _ (by simp -implicitDefEqProofs only; omega), decide_eq_true rfl, Option.bind_some, if_pos rfl, Option.bind_some, if_pos rfl, if_pos (by omega), restr2 _ _ (by simp) (by simp -implicitDefEqProofs only; omega), Option.bind_some]
  simp -implicitDefEqProofs only
  rw [restr_nil, sameE1 _ _ (by simp -implicitDefEqProofs only; omega), decide_eq_true rfl, Option.bind_some, if_pos rfl]
  rfl
end Go.Proofs.Ytdkancgcefklfaa
