/- Part 3 of the proof of RuleStandard: contracts of the functions that the law reaches (walked over the translation), and plain lemmas; no condition of its own beyond those that each theorem states. -/
import Derived.Maps.RangeWalk
import Derived.Maps.OwnOps
import Derived.Maps.OwnSet
import Derived.MapKept
import Derived.RangeFuncRecord
import Derived.Sort.KeysCollected
import Derived.RangeFuncNested
import Derived.RangeFuncBound
import Derived.RangeFuncCalls
import Derived.RangeFuncLeaves
import Derived.RangeFuncBox
import Derived.Lib.SplitLaws
import Derived.Lib.IndexMore
import Derived.Shelf.Strings.Cut
import Derived.Shelf.Strings.Split
import Derived.Shelf.Strings.SplitShaped
import Derived.Shelf.Strings.Search2
import Derived.Shelf.Sort.Plain
import Derived.Shelf.Slices.Clone
import Derived.Shelf.Slices.CompactS
import Derived.Shelf.Slices.Cells
import Derived.Shelf.AbstractIn
import Derived.Shelf.RegionOpen
import Derived.OwnWalkIn
import Derived.TacticsInMore
import Derived.LoopNIn
import Derived.LoopIn
import Derived.Laws.EntriesVeiled
import Derived.Sort.CutIn
import Derived.Sort.AtCallIn
import Derived.Maps.OwnIn
import Derived.Shelf.SlIter.Nil
import Derived.Shelf.SortM.Plain
import Derived.Shelf.SortM.SortNone
import Derived.Ground.GgzProg
import Derived.Ground.SlgmProg
import Derived.Test.YtblcgcibkikgeaaGreatDoorCStd2
section
namespace Go.Proofs.YtblcgcibkikgeaaGreatDoor.I
open Go.RowKit Go.Proofs.YtblcgcibkikgeaaGreatDoorW.PrintWords Go.Proofs.YtblcgcibkikgeaaGreatDoorW.PrintLast Go.Proofs.YtblcgcibkikgeaaGreatDoorW.PrintMore Go.Proofs.YtblcgcibkikgeaaGreatDoor.K Go.Proofs.YtblcgcibkikgeaaGreatDoor.G1
attribute [local go_sem] max2_int min2_int max_two min_two max_three min_three max_four min_four
set_option linter.unusedVariables false
set_option linter.unusedSimpArgs false
def integer_add.f (k : Nat) (a0_0 : Bool) (l0_1 : List Int) (a1_0 : Bool) (l1_1 : List Int) : Option (Bool × List Int) := if (a0_0 == a1_0) = true then ((integer_magnitude_plus.f l0_1 l1_1).bind fun t143 => (some (a0_0, t143))) else ((integer_magnitude_compare.f k l0_1 l1_1).bind fun t146 => (if t146 < 0 then ((integer_magnitude_minus.f k l1_1 l0_1).bind fun t147 => (some (a1_0, t147))) else ((integer_magnitude_minus.f k l0_1 l1_1).bind fun t150 => (some (a0_0, t150)))))
def integer_add.T2 : Bool × List (List Nat × List Nat) := (true, [([], []), ([0], [0]), ([], []), ([2], [2]), ([], []), ([4], [4]), ([3, 5], [3, 5]), ([1, 6], [1, 6]), ([7, 6, 0, 1, 2, 3, 4, 5, 6, 7], [7])])
def integer_add.B2 : List Nat := [0, 1, 0, 4, 0, 16, 60, 127, 255]
theorem integer_add.tab2 : rtab .any (opsOf Tryz.f144 2) = integer_add.T2 := by kernel_rfl
theorem integer_add.bits2 : waitsOk integer_add.T2.2 integer_add.B2 = true := by kernel_rfl
def integer_add.T5 : Bool × List (List Nat × List Nat) := (true, [([], []), ([0], [0]), ([], []), ([2], [2]), ([], []), ([4], [4]), ([3, 5], [3, 5]), ([1, 6], [1, 6]), ([7, 6, 0, 1, 2, 3, 4, 5, 6, 7], [7])])
def integer_add.B5 : List Nat := [0, 1, 0, 4, 0, 16, 60, 127, 255]
theorem integer_add.tab5 : rtab .any (opsOf Tryz.f144 5) = integer_add.T5 := by kernel_rfl
theorem integer_add.bits5 : waitsOk integer_add.T5.2 integer_add.B5 = true := by kernel_rfl
set_option maxHeartbeats 8000000 in
set_option maxRecDepth 100000 in
theorem integer_add.calls (k : Nat) (a0_0 : Bool) (A0_1 : Option Addr) (c0_1 : Nat) (l0_1 : List Int) (a1_0 : Bool) (A1_1 : Option Addr) (c1_1 : Nat) (l1_1 : List Int) (r1 : Bool) (r2 : List Int) (w : World) (hr0_1 : Kd.C (Kd.int .u64) w A0_1 l0_1.length l0_1) (hc0_1 : l0_1.length ≤ c0_1) (hr1_1 : Kd.C (Kd.int .u64) w A1_1 l1_1.length l1_1) (hc1_1 : l1_1.length ≤ c1_1) (h : integer_add.f k a0_0 l0_1 a1_0 l1_1 = some (r1, r2)) :
    Calls Tryz.prog 144 #[.agg #[.bool a0_0, .slice A0_1 l0_1.length c0_1], .agg #[.bool a1_0, .slice A1_1 l1_1.length c1_1]] w fun e w' => ∃ v1_ : Value, e = .returned (.agg #[.bool r1, v1_]) ∧ Kd.V (Kd.int .u64) 198 w' w.heap.size (fun k_ => (w.heap.size ≤ k_)) v1_ r2 ∧ Below w.heap.size w w' := by
  have hu183 := Tryz.underlying183
  have HR0_1 := Aside0.mk hr0_1
  have HC0_1 := Aside0.mk hc0_1
  clear hr0_1 hc0_1
  have HR1_1 := Aside0.mk hr1_1
  have HC1_1 := Aside0.mk hc1_1
  clear hr1_1 hc1_1
  have HB := Aside0.mk (Below.refl w.heap.size w)
  have H : (if (a0_0 == a1_0) = true then ((integer_magnitude_plus.f l0_1 l1_1).bind fun t143 => (some (a0_0, t143))) else ((integer_magnitude_compare.f k l0_1 l1_1).bind fun t146 => (if t146 < 0 then ((integer_magnitude_minus.f k l1_1 l0_1).bind fun t147 => (some (a1_0, t147))) else ((integer_magnitude_minus.f k l0_1 l1_1).bind fun t150 => (some (a0_0, t150)))))) = some (r1, r2) := h
  clear h
  by_cases c3 : (a0_0 == a1_0) = true
  · rw [if_pos c3] at H
    have c3b0 : (a0_0 == a1_0) = true := c3
    (try (have c3b1 : decide (a0_0 = a1_0) = true := by simpa using c3))
    (try (have c3b2 : (a0_0 == a1_0) = true := by simpa using c3))
    clear c3
    replace H := Option.bind_eq_some_iff.mp H
    obtain ⟨t143, A40, H⟩ := H
    replace H : (some (a0_0, t143)) = some (r1, r2) := H
    have A4 := Aside0.mk A40
    clear A40
    simp only [Option.some.injEq, Prod.mk.injEq] at H
    obtain ⟨rfl, rfl⟩ := H
    go_enter Tryz.func144, Tryz.ntmps144
    try go_wp2_with (first | ((with_reducible refine gate_dst (N := 2) rfl ?_); refine box_event ?hg (N := 2) ?hd (cs := #[.bool a0_0, .slice A0_1 l0_1.length c0_1]) (t := 183) ?hr ?_; (case hd => rfl); (case hg => rfl); (case hr => first | (go_simp; done) | (go_simp; rfl)); intro gb140 hg w5 hbox hb; have n0_ := Aside0.mk (below_step (by repeat (first | (with_reducible first | exact HB.out | apply below_alloc | apply pw_below_drewN | apply below_drew1) | exact HB.out)) hb); have n1_ := Aside0.mk (hbox); have n2_ := Aside0.mk ((by rw [hg]; exact (below_size (by repeat (first | (with_reducible first | exact HB.out | apply below_alloc | apply pw_below_drewN | apply below_drew1) | exact HB.out))) : w.heap.size ≤ gb140)); have n3_ := Aside0.mk ((by rw [hg]; exact (below_size (by repeat (first | (with_reducible first | exact HB.out | apply below_alloc | apply pw_below_drewN | apply below_drew1) | exact HB.out))) : w.heap.size ≤ gb140)); clear HB; have HB := n0_; have BK140 := n1_; have GW140 := n2_; have GE140 := n3_; clear n0_ n1_ n2_ n3_; clear hb hbox hg) | ((with_reducible refine gate_dst (N := 3) rfl ?_); refine box_event ?hg (N := 3) ?hd (cs := #[.bool a1_0, .slice A1_1 l1_1.length c1_1]) (t := 183) ?hr ?_; (case hd => rfl); (case hg => rfl); (case hr => first | (go_simp; done) | (go_simp; rfl)); intro gb141 hg w6 hbox hb; have n0_ := Aside0.mk (blk_below (g := gb140) (o := .cells #[.bool a0_0, .slice A0_1 l0_1.length c0_1] 183 (0, 0)) (by (with_reducible repeat (first | refine blk_drewN ?_ _ | refine blk_drew ?_ | refine blk_alloc ?_ _)); exact BK140.out) hb); have n1_ := Aside0.mk (below_step (by repeat (first | (with_reducible first | exact HB.out | apply below_alloc | apply pw_below_drewN | apply below_drew1 | refine below_set ?_ GE140.out) | exact HB.out)) hb); have n2_ := Aside0.mk (hbox); have n3_ := Aside0.mk ((by rw [hg]; exact (below_size (by repeat (first | (with_reducible first | exact HB.out | apply below_alloc | apply pw_below_drewN | apply below_drew1 | refine below_set ?_ GE140.out) | exact HB.out))) : w.heap.size ≤ gb141)); have n4_ := Aside0.mk ((by rw [hg]; exact (below_size (by repeat (first | (with_reducible first | exact HB.out | apply below_alloc | apply pw_below_drewN | apply below_drew1 | refine below_set ?_ GE140.out) | exact HB.out))) : w.heap.size ≤ gb141)); have n5_ := Aside0.mk ((by rw [hg]; exact Nat.ne_of_lt (blk_lt (g := gb140) (o := .cells #[.bool a0_0, .slice A0_1 l0_1.length c0_1] 183 (0, 0)) (by (with_reducible repeat (first | refine blk_drewN ?_ _ | refine blk_drew ?_ | refine blk_alloc ?_ _)); exact BK140.out)) : gb140 ≠ gb141)); have n6_ := Aside0.mk ((by rw [hg]; exact Nat.ne_of_gt (blk_lt (g := gb140) (o := .cells #[.bool a0_0, .slice A0_1 l0_1.length c0_1] 183 (0, 0)) (by (with_reducible repeat (first | refine blk_drewN ?_ _ | refine blk_drew ?_ | refine blk_alloc ?_ _)); exact BK140.out)) : gb141 ≠ gb140)); clear BK140; clear HB; have BK140 := n0_; have HB := n1_; have BK141 := n2_; have GW141 := n3_; have GE141 := n4_; have NB140_141 := n5_; have NB141_140 := n6_; clear n0_ n1_ n2_ n3_ n4_ n5_ n6_; clear hb hbox hg) | ((with_reducible refine gate_dst (N := 4) rfl ?_); refine box_event ?hg (N := 4) ?hd (cs := #[.bool false, .slice none 0 0]) (t := 183) ?hr ?_; (case hd => rfl); (case hg => rfl); (case hr => first | (go_simp; done) | (go_simp; rfl)); intro gb142 hg w7 hbox hb; have n0_ := Aside0.mk (blk_below (g := gb140) (o := .cells #[.bool a0_0, .slice A0_1 l0_1.length c0_1] 183 (0, 0)) (by (with_reducible repeat (first | refine blk_drewN ?_ _ | refine blk_drew ?_ | refine blk_alloc ?_ _)); exact BK140.out) hb); have n1_ := Aside0.mk (blk_below (g := gb141) (o := .cells #[.bool a1_0, .slice A1_1 l1_1.length c1_1] 183 (0, 0)) (by (with_reducible repeat (first | refine blk_drewN ?_ _ | refine blk_drew ?_ | refine blk_alloc ?_ _)); exact BK141.out) hb); have n2_ := Aside0.mk (below_step (by repeat (first | (with_reducible first | exact HB.out | apply below_alloc | apply pw_below_drewN | apply below_drew1 | refine below_set ?_ GE140.out | refine below_set ?_ GE141.out) | exact HB.out)) hb); have n3_ := Aside0.mk (hbox); have n4_ := Aside0.mk ((by rw [hg]; exact (below_size (by repeat (first | (with_reducible first | exact HB.out | apply below_alloc | apply pw_below_drewN | apply below_drew1 | refine below_set ?_ GE140.out | refine below_set ?_ GE141.out) | exact HB.out))) : w.heap.size ≤ gb142)); have n5_ := Aside0.mk ((by rw [hg]; exact (below_size (by repeat (first | (with_reducible first | exact HB.out | apply below_alloc | apply pw_below_drewN | apply below_drew1 | refine below_set ?_ GE140.out | refine below_set ?_ GE141.out) | exact HB.out))) : w.heap.size ≤ gb142)); have n6_ := Aside0.mk ((by rw [hg]; exact Nat.ne_of_lt (blk_lt (g := gb140) (o := .cells #[.bool a0_0, .slice A0_1 l0_1.length c0_1] 183 (0, 0)) (by (with_reducible repeat (first | refine blk_drewN ?_ _ | refine blk_drew ?_ | refine blk_alloc ?_ _)); exact BK140.out)) : gb140 ≠ gb142)); have n7_ := Aside0.mk ((by rw [hg]; exact Nat.ne_of_gt (blk_lt (g := gb140) (o := .cells #[.bool a0_0, .slice A0_1 l0_1.length c0_1] 183 (0, 0)) (by (with_reducible repeat (first | refine blk_drewN ?_ _ | refine blk_drew ?_ | refine blk_alloc ?_ _)); exact BK140.out)) : gb142 ≠ gb140)); have n8_ := Aside0.mk ((by rw [hg]; exact Nat.ne_of_lt (blk_lt (g := gb141) (o := .cells #[.bool a1_0, .slice A1_1 l1_1.length c1_1] 183 (0, 0)) (by (with_reducible repeat (first | refine blk_drewN ?_ _ | refine blk_drew ?_ | refine blk_alloc ?_ _)); exact BK141.out)) : gb141 ≠ gb142)); have n9_ := Aside0.mk ((by rw [hg]; exact Nat.ne_of_gt (blk_lt (g := gb141) (o := .cells #[.bool a1_0, .slice A1_1 l1_1.length c1_1] 183 (0, 0)) (by (with_reducible repeat (first | refine blk_drewN ?_ _ | refine blk_drew ?_ | refine blk_alloc ?_ _)); exact BK141.out)) : gb142 ≠ gb141)); clear BK140; clear BK141; clear HB; have BK140 := n0_; have BK141 := n1_; have HB := n2_; have BK142 := n3_; have GW142 := n4_; have GE142 := n5_; have NB140_142 := n6_; have NB142_140 := n7_; have NB141_142 := n8_; have NB142_141 := n9_; clear n0_ n1_ n2_ n3_ n4_ n5_ n6_ n7_ n8_ n9_; clear hb hbox hg; have hnb8 := NB140_141.out; have hnc8 := NB141_140.out; have hnb9 := NB140_142.out; have hnc9 := NB142_140.out; have hcz10_0 : w7.cell? ⟨gb140, 0, none⟩ = some (.bool a0_0) := (blk_cell BK140.out 0).trans rfl; have hcz10_1 : w7.cell? ⟨gb140, 1, none⟩ = some (.slice A0_1 l0_1.length c0_1) := (blk_cell BK140.out 1).trans rfl; have hfz10_0 := blk_frozen BK140.out 0; have hfz10_1 := blk_frozen BK140.out 1; have hnb11 := NB141_142.out; have hnc11 := NB142_141.out; have hcz12_0 : w7.cell? ⟨gb141, 0, none⟩ = some (.bool a1_0) := (blk_cell BK141.out 0).trans rfl; have hcz12_1 : w7.cell? ⟨gb141, 1, none⟩ = some (.slice A1_1 l1_1.length c1_1) := (blk_cell BK141.out 1).trans rfl; have hfz12_0 := blk_frozen BK141.out 0; have hfz12_1 := blk_frozen BK141.out 1))
    have n0_ := Aside0.mk (blk_drew BK140.out)
    have n1_ := Aside0.mk (blk_drew BK141.out)
    have n2_ := Aside0.mk (blk_drew BK142.out)
    have n3_ := Aside0.mk (below_drew1 HB.out)
    clear BK140
    clear BK141
    clear BK142
    clear HB
    have BK140 := n0_
    have BK141 := n1_
    have BK142 := n2_
    have HB := n3_
    clear n0_ n1_ n2_ n3_
    refine start_ (n := 9) (S := fun w' => w'.cell? ⟨gb140, 0, none⟩ = some (.bool a0_0) ∧ w'.cell? ⟨gb140, 1, none⟩ = some (.slice A0_1 l0_1.length c0_1) ∧ w'.cell? ⟨gb141, 0, none⟩ = some (.bool a1_0) ∧ w'.cell? ⟨gb141, 1, none⟩ = some (.slice A1_1 l1_1.length c1_1)) (ds := []) #[false, false, false, false, false, false, false, false, false] (by kernel_rfl) rfl rfl ⟨(blk_cell BK140.out 0).trans rfl, (blk_cell BK140.out 1).trans rfl, (blk_cell BK141.out 0).trans rfl, (blk_cell BK141.out 1).trans rfl⟩ (fun hHeld => ?_); refine with_tabW integer_add.tab2 integer_add.bits2 (fun HT_ HW_ => ?_)
    generalize w7.drew = w13 at BK140 BK141 BK142 HB hHeld ⊢
    refine pure_ (i := 0) (N := some 10) (v := ?_) (a' := ?_) #[true, false, false, false, false, false, false, false, false] rfl rfl (any_of HT_.out (by kernel_rfl)) (fun _ _ _ h => h) (Or.inl ⟨by rfl, ?_⟩) ?_ ?_
    rotate_left
    · intro w'
      go_simp
      with_reducible rfl
    rotate_left
    · simp only [Act.put, List.setIfInBounds_toArray, List.set_cons_zero, List.set_cons_succ, i64_w, i32_w]
      rfl
    refine pure_ (i := 2) (N := some 12) (v := ?_) (a' := ?_) #[true, false, true, false, false, false, false, false, false] rfl rfl (any_of HT_.out (by kernel_rfl)) (fun _ _ _ h => h) (Or.inl ⟨by rfl, ?_⟩) ?_ ?_
    rotate_left
    · intro w'
      go_simp
      with_reducible rfl
    rotate_left
    · simp only [Act.put, List.setIfInBounds_toArray, List.set_cons_zero, List.set_cons_succ, i64_w, i32_w]
      rfl
    refine pure_ (i := 4) (N := some 14) (v := ?_) (a' := ?_) #[true, false, true, false, true, false, false, false, false] rfl rfl (any_of HT_.out (by kernel_rfl)) (fun _ _ _ h => h) (Or.inl ⟨by rfl, ?_⟩) ?_ ?_
    rotate_left
    · intro w'
      go_simp
      with_reducible rfl
    rotate_left
    · simp only [Act.put, List.setIfInBounds_toArray, List.set_cons_zero, List.set_cons_succ, i64_w, i32_w]
      rfl
    refine take_ (i := 1) (N := some 11) (v := ?_) (a' := ?_) #[true, true, true, false, true, false, false, false, false] rfl rfl (take_ofW HT_.out HW_.out (by kernel_rfl)) (fun _ _ _ h => h) (Or.inl ⟨by rfl, ?_⟩) hHeld ?_ ?_
    rotate_left
    · rintro w' ⟨s0, s1, s2, s3⟩
      go_simp
      with_reducible rfl
    rotate_left
    · simp only [Act.put, List.setIfInBounds_toArray, List.set_cons_zero, List.set_cons_succ, i64_w, i32_w]
      rfl
    refine take_ (i := 3) (N := some 13) (v := ?_) (a' := ?_) #[true, true, true, true, true, false, false, false, false] rfl rfl (take_ofW HT_.out HW_.out (by kernel_rfl)) (fun _ _ _ h => h) (Or.inl ⟨by rfl, ?_⟩) hHeld ?_ ?_
    rotate_left
    · rintro w' ⟨s0, s1, s2, s3⟩
      go_simp
      with_reducible rfl
    rotate_left
    · simp only [Act.put, List.setIfInBounds_toArray, List.set_cons_zero, List.set_cons_succ, i64_w, i32_w]
      rfl
    refine take_ (i := 5) (N := some 15) (v := ?_) (a' := ?_) #[true, true, true, true, true, true, false, false, false] rfl rfl (take_ofW HT_.out HW_.out (by kernel_rfl)) (fun _ _ _ h => h) (Or.inl ⟨by rfl, ?_⟩) hHeld ?_ ?_
    rotate_left
    · rintro w' ⟨s0, s1, s2, s3⟩
      go_simp
      with_reducible rfl
    rotate_left
    · simp only [Act.put, List.setIfInBounds_toArray, List.set_cons_zero, List.set_cons_succ, i64_w, i32_w]
      rfl
    refine one_ (i := 6) (N := some 16) #[true, true, true, true, true, true, true, false, false] rfl rfl (one_of HT_.out (by kernel_rfl)) (by decide) (fun K hK => ?_)
    refine goes_ Tryz.func197 (by kernel_rfl) rfl #[.slice A0_1 l0_1.length c0_1, .slice A1_1 l1_1.length c1_1] (by rfl) rfl rfl (by (try simp only [List.map_toArray, List.map_cons, List.map_nil]); first | done | rfl | (simp only [List.length_drop, List.length_take]; rfl)) ?_
    with_reducible refine (integer_magnitude_plus.calls _ _ l0_1 _ _ l1_1 t143 _ ?side1 ?side2 ?side3 ?side4 A4.out).mono ?_
    (case side1 => repeat (first | exact (Kd.C_below HR0_1.out HB.out) | (with_reducible refine Kd.C_alloc ?_ _) | (with_reducible refine Kd.C_drewN ?_ _) | (with_reducible refine Kd.C_drew ?_)))
    (case side2 => exact HC0_1.out)
    (case side3 => repeat (first | exact (Kd.C_below HR1_1.out HB.out) | (with_reducible refine Kd.C_alloc ?_ _) | (with_reducible refine Kd.C_drewN ?_ _) | (with_reducible refine Kd.C_drew ?_)))
    (case side4 => exact HC1_1.out)
    rintro e w14 ⟨v144, rfl, ho0, hb⟩
    refine ⟨_, rfl, ?_⟩
    have n0_ := Aside0.mk (Kd.R_lower (Kd.R_newM (M := fun k_ => (w.heap.size ≤ k_)) ho0 (below_size (by repeat (first | (with_reducible first | exact HB.out | apply below_alloc | apply pw_below_drewN | apply below_drew1 | refine below_set ?_ GE140.out | refine below_set ?_ GE141.out | refine below_set ?_ GE142.out) | exact HB.out))) (fun k_ h_ => h_)) (below_size (by repeat (first | (with_reducible first | exact HB.out | apply below_alloc | apply pw_below_drewN | apply below_drew1 | refine below_set ?_ GE140.out | refine below_set ?_ GE141.out | refine below_set ?_ GE142.out) | exact HB.out))))
    have n1_ := Aside0.mk (blk_below (g := gb140) (o := .cells #[.bool a0_0, .slice A0_1 l0_1.length c0_1] 183 (0, 0)) (by (with_reducible repeat (first | refine blk_drewN ?_ _ | refine blk_drew ?_ | refine blk_alloc ?_ _)); exact BK140.out) hb)
    have n2_ := Aside0.mk (blk_below (g := gb141) (o := .cells #[.bool a1_0, .slice A1_1 l1_1.length c1_1] 183 (0, 0)) (by (with_reducible repeat (first | refine blk_drewN ?_ _ | refine blk_drew ?_ | refine blk_alloc ?_ _)); exact BK141.out) hb)
    have n3_ := Aside0.mk (blk_below (g := gb142) (o := .cells #[.bool false, .slice none 0 0] 183 (0, 0)) (by (with_reducible repeat (first | refine blk_drewN ?_ _ | refine blk_drew ?_ | refine blk_alloc ?_ _)); exact BK142.out) hb)
    have n4_ := Aside0.mk (below_step (by repeat (first | (with_reducible first | exact HB.out | apply below_alloc | apply pw_below_drewN | apply below_drew1 | refine below_set ?_ GE140.out | refine below_set ?_ GE141.out | refine below_set ?_ GE142.out) | exact HB.out)) hb)
    clear BK140
    clear BK141
    clear BK142
    clear HB
    have HO145 := n0_
    have BK140 := n1_
    have BK141 := n2_
    have BK142 := n3_
    have HB := n4_
    clear n0_ n1_ n2_ n3_ n4_
    (try clear hb)
    (try clear hb2)
    (try clear hk)
    (try clear hi)
    (try clear ho0)
    obtain ⟨Ao15, co15, eo15⟩ := Kd.R_slice HO145.out
    (first | subst eo15 | (injection eo15 with f1_ f2_ f3_; have f4_ := f1_.symm; have f5_ := f3_.symm; clear f1_ f2_ f3_; subst f4_; subst f5_))
    refine hK.out _ _ ⟨(blk_cell BK140.out 0).trans rfl, (blk_cell BK140.out 1).trans rfl, (blk_cell BK141.out 0).trans rfl, (blk_cell BK141.out 1).trans rfl⟩ (fun hHeld => ?_)
    clear hK K
    refine norm_ (a' := ?_) ?_ ?_
    rotate_left
    · show Act.put _ (some 16) _ = _
      simp only [Act.put, List.setIfInBounds_toArray, List.set_cons_zero, List.set_cons_succ, i64_w, i32_w]
      rfl
    refine pure_ (i := 7) (N := some 17) (v := ?_) (a' := ?_) #[true, true, true, true, true, true, true, true, false] rfl rfl (any_of HT_.out (by kernel_rfl)) (fun _ _ _ h => h) (Or.inl ⟨by rfl, ?_⟩) ?_ ?_
    rotate_left
    · intro w'
      go_simp
      with_reducible rfl
    rotate_left
    · simp only [Act.put, List.setIfInBounds_toArray, List.set_cons_zero, List.set_cons_succ, i64_w, i32_w]
      rfl
    refine one_ (i := 8) (N := none) #[true, true, true, true, true, true, true, true, true] rfl rfl (one_of HT_.out (by kernel_rfl)) (by decide) (fun K hK => ?_)
    have hs16 : w14.cell? ⟨gb142, 0, none⟩ = some (.bool false) := (blk_cell BK142.out 0).trans rfl
    have hfs16 := blk_frozen BK142.out 0
    have hns16_0 := NB140_142.out
    have hns16_1 := NB141_142.out
    have hms16_0 := NB142_140.out
    have hms16_1 := NB142_141.out
    have hs17 : w14.cell? ⟨gb142, 1, none⟩ = some (.slice none 0 0) := (blk_cell BK142.out 1).trans rfl
    have hfs17 := blk_frozen BK142.out 1
    have hns17_0 := NB140_142.out
    have hns17_1 := NB141_142.out
    have hms17_0 := NB142_140.out
    have hms17_1 := NB142_141.out
    refine skip_ (w1 := ?_) (by rfl) rfl ?_ ?_
    rotate_left
    · go_simp
      rfl
    refine hK.out _ _ ⟨((cell_far (p := ⟨gb142, _, none⟩) NB140_142.out _).trans (((cell_far (p := ⟨gb142, _, none⟩) NB140_142.out _).trans (hHeld.1)))), ((cell_far (p := ⟨gb142, _, none⟩) NB140_142.out _).trans (((cell_far (p := ⟨gb142, _, none⟩) NB140_142.out _).trans (hHeld.2.1)))), ((cell_far (p := ⟨gb142, _, none⟩) NB141_142.out _).trans (((cell_far (p := ⟨gb142, _, none⟩) NB141_142.out _).trans (hHeld.2.2.1)))), ((cell_far (p := ⟨gb142, _, none⟩) NB141_142.out _).trans (((cell_far (p := ⟨gb142, _, none⟩) NB141_142.out _).trans (hHeld.2.2.2))))⟩ (fun hHeld => ?_)
    clear hK K
    refine done_ (done_of HT_.out (by kernel_rfl)) ?_
    try go_wp2
    refine bodyPost_ret (results_cell_row rfl _ _ gb142 183 #[.bool a0_0, .slice Ao15 t143.length co15] (0, 0) _ rfl (by (with_reducible repeat (first | refine blk_drewN ?_ _ | refine blk_drew ?_ | refine blk_alloc ?_ _)); refine blk_put (cs := #[.bool a0_0, .slice none 0 0]) ?_ 1 _ rfl; (with_reducible repeat (first | refine blk_drewN ?_ _ | refine blk_drew ?_ | refine blk_alloc ?_ _)); refine blk_put (cs := #[.bool false, .slice none 0 0]) ?_ 0 _ rfl; (with_reducible repeat (first | refine blk_drewN ?_ _ | refine blk_drew ?_ | refine blk_alloc ?_ _)); exact BK142.out) Tryz.underlying183 rfl (by kernel_rfl)) rfl ?_
    exact ⟨_, by first | rfl | (simp [errW_none, errW_some] <;> rfl) | (simp [*, errW_none, errW_some] <;> rfl), Kd.R_V (by (with_reducible repeat (first | apply Kd.R_alloc | apply Kd.R_drewN | apply Kd.R_drew)); exact Kd.R_mono (Kd.R_far (p := ⟨gb142, 1, none⟩) (Kd.R_far (p := ⟨gb142, 0, none⟩) (Kd.R_types HO145.out BK142.out (by decide)) (fun _ hk => hk.2) (.bool a0_0)) (fun _ hk => hk.2) (.slice Ao15 t143.length co15)) (fun _ hk => hk.1.1)), by repeat (first | (with_reducible first | exact HB.out | apply below_alloc | apply pw_below_drewN | apply below_drew1 | refine below_set ?_ GE140.out | refine below_set ?_ GE141.out | refine below_set ?_ GE142.out) | exact HB.out)⟩
  · rw [if_neg c3] at H
    have c3b0 : (a0_0 == a1_0) = false := by simpa using c3
    (try (have c3b1 : decide (a0_0 = a1_0) = false := by simpa using c3))
    (try (have c3b2 : (a0_0 == a1_0) = false := by simpa using c3))
    (try (have c3b3 : ¬ (a0_0 = a1_0) := by simpa using c3))
    clear c3
    replace H := Option.bind_eq_some_iff.mp H
    obtain ⟨t146, A180, H⟩ := H
    replace H : (if t146 < 0 then ((integer_magnitude_minus.f k l1_1 l0_1).bind fun t147 => (some (a1_0, t147))) else ((integer_magnitude_minus.f k l0_1 l1_1).bind fun t150 => (some (a0_0, t150)))) = some (r1, r2) := H
    have A18 := Aside0.mk A180
    clear A180
    by_cases c19 : t146 < 0
    · rw [if_pos c19] at H
      have c19b0 : decide (t146 < 0) = true := decide_eq_true c19
      clear c19
      replace H := Option.bind_eq_some_iff.mp H
      obtain ⟨t147, A200, H⟩ := H
      replace H : (some (a1_0, t147)) = some (r1, r2) := H
      have A20 := Aside0.mk A200
      clear A200
      simp only [Option.some.injEq, Prod.mk.injEq] at H
      obtain ⟨rfl, rfl⟩ := H
      go_enter Tryz.func144, Tryz.ntmps144
      try go_wp2_with (first | ((with_reducible refine gate_dst (N := 2) rfl ?_); refine box_event ?hg (N := 2) ?hd (cs := #[.bool a0_0, .slice A0_1 l0_1.length c0_1]) (t := 183) ?hr ?_; (case hd => rfl); (case hg => rfl); (case hr => first | (go_simp; done) | (go_simp; rfl)); intro gb140 hg w21 hbox hb; have n0_ := Aside0.mk (below_step (by repeat (first | (with_reducible first | exact HB.out | apply below_alloc | apply pw_below_drewN | apply below_drew1) | exact HB.out)) hb); have n1_ := Aside0.mk (hbox); have n2_ := Aside0.mk ((by rw [hg]; exact (below_size (by repeat (first | (with_reducible first | exact HB.out | apply below_alloc | apply pw_below_drewN | apply below_drew1) | exact HB.out))) : w.heap.size ≤ gb140)); have n3_ := Aside0.mk ((by rw [hg]; exact (below_size (by repeat (first | (with_reducible first | exact HB.out | apply below_alloc | apply pw_below_drewN | apply below_drew1) | exact HB.out))) : w.heap.size ≤ gb140)); clear HB; have HB := n0_; have BK140 := n1_; have GW140 := n2_; have GE140 := n3_; clear n0_ n1_ n2_ n3_; clear hb hbox hg) | ((with_reducible refine gate_dst (N := 3) rfl ?_); refine box_event ?hg (N := 3) ?hd (cs := #[.bool a1_0, .slice A1_1 l1_1.length c1_1]) (t := 183) ?hr ?_; (case hd => rfl); (case hg => rfl); (case hr => first | (go_simp; done) | (go_simp; rfl)); intro gb141 hg w22 hbox hb; have n0_ := Aside0.mk (blk_below (g := gb140) (o := .cells #[.bool a0_0, .slice A0_1 l0_1.length c0_1] 183 (0, 0)) (by (with_reducible repeat (first | refine blk_drewN ?_ _ | refine blk_drew ?_ | refine blk_alloc ?_ _)); exact BK140.out) hb); have n1_ := Aside0.mk (below_step (by repeat (first | (with_reducible first | exact HB.out | apply below_alloc | apply pw_below_drewN | apply below_drew1 | refine below_set ?_ GE140.out) | exact HB.out)) hb); have n2_ := Aside0.mk (hbox); have n3_ := Aside0.mk ((by rw [hg]; exact (below_size (by repeat (first | (with_reducible first | exact HB.out | apply below_alloc | apply pw_below_drewN | apply below_drew1 | refine below_set ?_ GE140.out) | exact HB.out))) : w.heap.size ≤ gb141)); have n4_ := Aside0.mk ((by rw [hg]; exact (below_size (by repeat (first | (with_reducible first | exact HB.out | apply below_alloc | apply pw_below_drewN | apply below_drew1 | refine below_set ?_ GE140.out) | exact HB.out))) : w.heap.size ≤ gb141)); have n5_ := Aside0.mk ((by rw [hg]; exact Nat.ne_of_lt (blk_lt (g := gb140) (o := .cells #[.bool a0_0, .slice A0_1 l0_1.length c0_1] 183 (0, 0)) (by (with_reducible repeat (first | refine blk_drewN ?_ _ | refine blk_drew ?_ | refine blk_alloc ?_ _)); exact BK140.out)) : gb140 ≠ gb141)); have n6_ := Aside0.mk ((by rw [hg]; exact Nat.ne_of_gt (blk_lt (g := gb140) (o := .cells #[.bool a0_0, .slice A0_1 l0_1.length c0_1] 183 (0, 0)) (by (with_reducible repeat (first | refine blk_drewN ?_ _ | refine blk_drew ?_ | refine blk_alloc ?_ _)); exact BK140.out)) : gb141 ≠ gb140)); clear BK140; clear HB; have BK140 := n0_; have HB := n1_; have BK141 := n2_; have GW141 := n3_; have GE141 := n4_; have NB140_141 := n5_; have NB141_140 := n6_; clear n0_ n1_ n2_ n3_ n4_ n5_ n6_; clear hb hbox hg) | ((with_reducible refine gate_dst (N := 4) rfl ?_); refine box_event ?hg (N := 4) ?hd (cs := #[.bool false, .slice none 0 0]) (t := 183) ?hr ?_; (case hd => rfl); (case hg => rfl); (case hr => first | (go_simp; done) | (go_simp; rfl)); intro gb142 hg w23 hbox hb; have n0_ := Aside0.mk (blk_below (g := gb140) (o := .cells #[.bool a0_0, .slice A0_1 l0_1.length c0_1] 183 (0, 0)) (by (with_reducible repeat (first | refine blk_drewN ?_ _ | refine blk_drew ?_ | refine blk_alloc ?_ _)); exact BK140.out) hb); have n1_ := Aside0.mk (blk_below (g := gb141) (o := .cells #[.bool a1_0, .slice A1_1 l1_1.length c1_1] 183 (0, 0)) (by (with_reducible repeat (first | refine blk_drewN ?_ _ | refine blk_drew ?_ | refine blk_alloc ?_ _)); exact BK141.out) hb); have n2_ := Aside0.mk (below_step (by repeat (first | (with_reducible first | exact HB.out | apply below_alloc | apply pw_below_drewN | apply below_drew1 | refine below_set ?_ GE140.out | refine below_set ?_ GE141.out) | exact HB.out)) hb); have n3_ := Aside0.mk (hbox); have n4_ := Aside0.mk ((by rw [hg]; exact (below_size (by repeat (first | (with_reducible first | exact HB.out | apply below_alloc | apply pw_below_drewN | apply below_drew1 | refine below_set ?_ GE140.out | refine below_set ?_ GE141.out) | exact HB.out))) : w.heap.size ≤ gb142)); have n5_ := Aside0.mk ((by rw [hg]; exact (below_size (by repeat (first | (with_reducible first | exact HB.out | apply below_alloc | apply pw_below_drewN | apply below_drew1 | refine below_set ?_ GE140.out | refine below_set ?_ GE141.out) | exact HB.out))) : w.heap.size ≤ gb142)); have n6_ := Aside0.mk ((by rw [hg]; exact Nat.ne_of_lt (blk_lt (g := gb140) (o := .cells #[.bool a0_0, .slice A0_1 l0_1.length c0_1] 183 (0, 0)) (by (with_reducible repeat (first | refine blk_drewN ?_ _ | refine blk_drew ?_ | refine blk_alloc ?_ _)); exact BK140.out)) : gb140 ≠ gb142)); have n7_ := Aside0.mk ((by rw [hg]; exact Nat.ne_of_gt (blk_lt (g := gb140) (o := .cells #[.bool a0_0, .slice A0_1 l0_1.length c0_1] 183 (0, 0)) (by (with_reducible repeat (first | refine blk_drewN ?_ _ | refine blk_drew ?_ | refine blk_alloc ?_ _)); exact BK140.out)) : gb142 ≠ gb140)); have n8_ := Aside0.mk ((by rw [hg]; exact Nat.ne_of_lt (blk_lt (g := gb141) (o := .cells #[.bool a1_0, .slice A1_1 l1_1.length c1_1] 183 (0, 0)) (by (with_reducible repeat (first | refine blk_drewN ?_ _ | refine blk_drew ?_ | refine blk_alloc ?_ _)); exact BK141.out)) : gb141 ≠ gb142)); have n9_ := Aside0.mk ((by rw [hg]; exact Nat.ne_of_gt (blk_lt (g := gb141) (o := .cells #[.bool a1_0, .slice A1_1 l1_1.length c1_1] 183 (0, 0)) (by (with_reducible repeat (first | refine blk_drewN ?_ _ | refine blk_drew ?_ | refine blk_alloc ?_ _)); exact BK141.out)) : gb142 ≠ gb141)); clear BK140; clear BK141; clear HB; have BK140 := n0_; have BK141 := n1_; have HB := n2_; have BK142 := n3_; have GW142 := n4_; have GE142 := n5_; have NB140_142 := n6_; have NB142_140 := n7_; have NB141_142 := n8_; have NB142_141 := n9_; clear n0_ n1_ n2_ n3_ n4_ n5_ n6_ n7_ n8_ n9_; clear hb hbox hg; have hnb24 := NB140_141.out; have hnc24 := NB141_140.out; have hnb25 := NB140_142.out; have hnc25 := NB142_140.out; have hcz26_0 : w23.cell? ⟨gb140, 0, none⟩ = some (.bool a0_0) := (blk_cell BK140.out 0).trans rfl; have hcz26_1 : w23.cell? ⟨gb140, 1, none⟩ = some (.slice A0_1 l0_1.length c0_1) := (blk_cell BK140.out 1).trans rfl; have hfz26_0 := blk_frozen BK140.out 0; have hfz26_1 := blk_frozen BK140.out 1; have hnb27 := NB141_142.out; have hnc27 := NB142_141.out; have hcz28_0 : w23.cell? ⟨gb141, 0, none⟩ = some (.bool a1_0) := (blk_cell BK141.out 0).trans rfl; have hcz28_1 : w23.cell? ⟨gb141, 1, none⟩ = some (.slice A1_1 l1_1.length c1_1) := (blk_cell BK141.out 1).trans rfl; have hfz28_0 := blk_frozen BK141.out 0; have hfz28_1 := blk_frozen BK141.out 1) | ((with_reducible refine gate_callee (f := 187) rfl ?_); refine goesL_ (some 22) rfl rfl Tryz.func187 (by kernel_rfl) rfl #[.slice A0_1 l0_1.length c0_1, .slice A1_1 l1_1.length c1_1] rfl (by (try simp only [List.map_toArray, List.map_cons, List.map_nil]); first | done | rfl | (simp only [List.length_drop, List.length_take]; rfl)) ?_; (with_reducible refine (integer_magnitude_compare.calls k _ _ l0_1 _ _ l1_1 t146 _ ?side1 ?side2 ?side3 ?side4 A18.out).mono ?_); (case side1 => repeat (first | exact (Kd.C_below HR0_1.out HB.out) | (with_reducible refine Kd.C_alloc ?_ _) | (with_reducible refine Kd.C_drewN ?_ _) | (with_reducible refine Kd.C_drew ?_))); (case side2 => exact HC0_1.out); (case side3 => repeat (first | exact (Kd.C_below HR1_1.out HB.out) | (with_reducible refine Kd.C_alloc ?_ _) | (with_reducible refine Kd.C_drewN ?_ _) | (with_reducible refine Kd.C_drew ?_))); (case side4 => exact HC1_1.out); rintro e w' ⟨rfl, ⟨nd, rfl⟩⟩; refine ⟨_, rfl, ?_⟩; (try (rw [drewN_self w23]; generalize hq_ : World.drewN w23 _ = w23; have n0_ : Aside0 (w23.heap[gb140]? = some (.cells #[.bool a0_0, .slice A0_1 l0_1.length c0_1] 183 (0, 0))) := ⟨by rw [← hq_]; exact (by (with_reducible repeat (first | refine blk_drewN ?_ _ | refine blk_drew ?_ | refine blk_alloc ?_ _)); exact BK140.out)⟩; have n1_ : Aside0 (w23.heap[gb141]? = some (.cells #[.bool a1_0, .slice A1_1 l1_1.length c1_1] 183 (0, 0))) := ⟨by rw [← hq_]; exact (by (with_reducible repeat (first | refine blk_drewN ?_ _ | refine blk_drew ?_ | refine blk_alloc ?_ _)); exact BK141.out)⟩; have n2_ : Aside0 (w23.heap[gb142]? = some (.cells #[.bool false, .slice none 0 0] 183 (0, 0))) := ⟨by rw [← hq_]; exact (by (with_reducible repeat (first | refine blk_drewN ?_ _ | refine blk_drew ?_ | refine blk_alloc ?_ _)); exact BK142.out)⟩; have n3_ : Aside0 (Below w.heap.size w w23) := ⟨by rw [← hq_]; exact (by repeat (first | (with_reducible first | exact HB.out | apply below_alloc | apply pw_below_drewN | apply below_drew1 | refine below_set ?_ GE140.out | refine below_set ?_ GE141.out | refine below_set ?_ GE142.out) | exact HB.out))⟩; clear BK140 BK141 BK142 HB hq_; have BK140 := n0_; have BK141 := n1_; have BK142 := n2_; have HB := n3_; clear n0_ n1_ n2_ n3_; have hcz26_0 : w23.cell? ⟨gb140, 0, none⟩ = some (.bool a0_0) := (blk_cell BK140.out 0).trans rfl; have hcz26_1 : w23.cell? ⟨gb140, 1, none⟩ = some (.slice A0_1 l0_1.length c0_1) := (blk_cell BK140.out 1).trans rfl; have hfz26_0 := blk_frozen BK140.out 0; have hfz26_1 := blk_frozen BK140.out 1; have hcz28_0 : w23.cell? ⟨gb141, 0, none⟩ = some (.bool a1_0) := (blk_cell BK141.out 0).trans rfl; have hcz28_1 : w23.cell? ⟨gb141, 1, none⟩ = some (.slice A1_1 l1_1.length c1_1) := (blk_cell BK141.out 1).trans rfl; have hfz28_0 := blk_frozen BK141.out 0; have hfz28_1 := blk_frozen BK141.out 1))))
      have n0_ : Aside0 (((((w23.setCell ⟨gb140, 0, none⟩ (.bool a1_0)).setCell ⟨gb140, 1, none⟩ (.slice A1_1 l1_1.length c1_1)).setCell ⟨gb141, 0, none⟩ (.bool a0_0)).setCell ⟨gb141, 1, none⟩ (.slice A0_1 l0_1.length c0_1)).heap[gb140]? = some (.cells #[.bool a1_0, .slice A1_1 l1_1.length c1_1] 183 (0, 0))) := ⟨by (with_reducible repeat (first | refine blk_drewN ?_ _ | refine blk_drew ?_ | refine blk_alloc ?_ _)); refine blk_far ?_ NB140_141.out _; (with_reducible repeat (first | refine blk_drewN ?_ _ | refine blk_drew ?_ | refine blk_alloc ?_ _)); refine blk_far ?_ NB140_141.out _; (with_reducible repeat (first | refine blk_drewN ?_ _ | refine blk_drew ?_ | refine blk_alloc ?_ _)); refine blk_put (cs := #[.bool a1_0, .slice A0_1 l0_1.length c0_1]) ?_ 1 _ rfl; (with_reducible repeat (first | refine blk_drewN ?_ _ | refine blk_drew ?_ | refine blk_alloc ?_ _)); refine blk_put (cs := #[.bool a0_0, .slice A0_1 l0_1.length c0_1]) ?_ 0 _ rfl; (with_reducible repeat (first | refine blk_drewN ?_ _ | refine blk_drew ?_ | refine blk_alloc ?_ _)); exact BK140.out⟩
      have n1_ : Aside0 (((((w23.setCell ⟨gb140, 0, none⟩ (.bool a1_0)).setCell ⟨gb140, 1, none⟩ (.slice A1_1 l1_1.length c1_1)).setCell ⟨gb141, 0, none⟩ (.bool a0_0)).setCell ⟨gb141, 1, none⟩ (.slice A0_1 l0_1.length c0_1)).heap[gb141]? = some (.cells #[.bool a0_0, .slice A0_1 l0_1.length c0_1] 183 (0, 0))) := ⟨by (with_reducible repeat (first | refine blk_drewN ?_ _ | refine blk_drew ?_ | refine blk_alloc ?_ _)); refine blk_put (cs := #[.bool a0_0, .slice A1_1 l1_1.length c1_1]) ?_ 1 _ rfl; (with_reducible repeat (first | refine blk_drewN ?_ _ | refine blk_drew ?_ | refine blk_alloc ?_ _)); refine blk_put (cs := #[.bool a1_0, .slice A1_1 l1_1.length c1_1]) ?_ 0 _ rfl; (with_reducible repeat (first | refine blk_drewN ?_ _ | refine blk_drew ?_ | refine blk_alloc ?_ _)); refine blk_far ?_ NB141_140.out _; (with_reducible repeat (first | refine blk_drewN ?_ _ | refine blk_drew ?_ | refine blk_alloc ?_ _)); refine blk_far ?_ NB141_140.out _; (with_reducible repeat (first | refine blk_drewN ?_ _ | refine blk_drew ?_ | refine blk_alloc ?_ _)); exact BK141.out⟩
      have n2_ : Aside0 (((((w23.setCell ⟨gb140, 0, none⟩ (.bool a1_0)).setCell ⟨gb140, 1, none⟩ (.slice A1_1 l1_1.length c1_1)).setCell ⟨gb141, 0, none⟩ (.bool a0_0)).setCell ⟨gb141, 1, none⟩ (.slice A0_1 l0_1.length c0_1)).heap[gb142]? = some (.cells #[.bool false, .slice none 0 0] 183 (0, 0))) := ⟨by (with_reducible repeat (first | refine blk_drewN ?_ _ | refine blk_drew ?_ | refine blk_alloc ?_ _)); refine blk_far ?_ NB142_141.out _; (with_reducible repeat (first | refine blk_drewN ?_ _ | refine blk_drew ?_ | refine blk_alloc ?_ _)); refine blk_far ?_ NB142_141.out _; (with_reducible repeat (first | refine blk_drewN ?_ _ | refine blk_drew ?_ | refine blk_alloc ?_ _)); refine blk_far ?_ NB142_140.out _; (with_reducible repeat (first | refine blk_drewN ?_ _ | refine blk_drew ?_ | refine blk_alloc ?_ _)); refine blk_far ?_ NB142_140.out _; (with_reducible repeat (first | refine blk_drewN ?_ _ | refine blk_drew ?_ | refine blk_alloc ?_ _)); exact BK142.out⟩
      have n3_ : Aside0 (Below w.heap.size w ((((w23.setCell ⟨gb140, 0, none⟩ (.bool a1_0)).setCell ⟨gb140, 1, none⟩ (.slice A1_1 l1_1.length c1_1)).setCell ⟨gb141, 0, none⟩ (.bool a0_0)).setCell ⟨gb141, 1, none⟩ (.slice A0_1 l0_1.length c0_1))) := ⟨by repeat (first | (with_reducible first | exact HB.out | apply below_alloc | apply pw_below_drewN | apply below_drew1 | refine below_set ?_ GE140.out | refine below_set ?_ GE141.out | refine below_set ?_ GE142.out) | exact HB.out)⟩
      (try clear BK140)
      (try clear BK141)
      (try clear BK142)
      (try clear HB)
      generalize ((((w23.setCell ⟨gb140, 0, none⟩ (.bool a1_0)).setCell ⟨gb140, 1, none⟩ (.slice A1_1 l1_1.length c1_1)).setCell ⟨gb141, 0, none⟩ (.bool a0_0)).setCell ⟨gb141, 1, none⟩ (.slice A0_1 l0_1.length c0_1)) = w29 at n0_ n1_ n2_ n3_ ⊢
      have BK140 := n0_
      have BK141 := n1_
      have BK142 := n2_
      have HB := n3_
      clear n0_ n1_ n2_ n3_
      have n0_ := Aside0.mk (blk_drew BK140.out)
      have n1_ := Aside0.mk (blk_drew BK141.out)
      have n2_ := Aside0.mk (blk_drew BK142.out)
      have n3_ := Aside0.mk (below_drew1 HB.out)
      clear BK140
      clear BK141
      clear BK142
      clear HB
      have BK140 := n0_
      have BK141 := n1_
      have BK142 := n2_
      have HB := n3_
      clear n0_ n1_ n2_ n3_
      refine start_ (n := 9) (S := fun w' => w'.cell? ⟨gb140, 0, none⟩ = some (.bool a1_0) ∧ w'.cell? ⟨gb140, 1, none⟩ = some (.slice A1_1 l1_1.length c1_1) ∧ w'.cell? ⟨gb141, 0, none⟩ = some (.bool a0_0) ∧ w'.cell? ⟨gb141, 1, none⟩ = some (.slice A0_1 l0_1.length c0_1)) (ds := []) #[false, false, false, false, false, false, false, false, false] (by kernel_rfl) rfl rfl ⟨(blk_cell BK140.out 0).trans rfl, (blk_cell BK140.out 1).trans rfl, (blk_cell BK141.out 0).trans rfl, (blk_cell BK141.out 1).trans rfl⟩ (fun hHeld => ?_); refine with_tabW integer_add.tab5 integer_add.bits5 (fun HT_ HW_ => ?_)
      generalize w29.drew = w30 at BK140 BK141 BK142 HB hHeld ⊢
      refine pure_ (i := 0) (N := some 26) (v := ?_) (a' := ?_) #[true, false, false, false, false, false, false, false, false] rfl rfl (any_of HT_.out (by kernel_rfl)) (fun _ _ _ h => h) (Or.inl ⟨by rfl, ?_⟩) ?_ ?_
      rotate_left
      · intro w'
        go_simp
        with_reducible rfl
      rotate_left
      · simp only [Act.put, List.setIfInBounds_toArray, List.set_cons_zero, List.set_cons_succ, i64_w, i32_w]
        rfl
      refine pure_ (i := 2) (N := some 28) (v := ?_) (a' := ?_) #[true, false, true, false, false, false, false, false, false] rfl rfl (any_of HT_.out (by kernel_rfl)) (fun _ _ _ h => h) (Or.inl ⟨by rfl, ?_⟩) ?_ ?_
      rotate_left
      · intro w'
        go_simp
        with_reducible rfl
      rotate_left
      · simp only [Act.put, List.setIfInBounds_toArray, List.set_cons_zero, List.set_cons_succ, i64_w, i32_w]
        rfl
      refine pure_ (i := 4) (N := some 30) (v := ?_) (a' := ?_) #[true, false, true, false, true, false, false, false, false] rfl rfl (any_of HT_.out (by kernel_rfl)) (fun _ _ _ h => h) (Or.inl ⟨by rfl, ?_⟩) ?_ ?_
      rotate_left
      · intro w'
        go_simp
        with_reducible rfl
      rotate_left
      · simp only [Act.put, List.setIfInBounds_toArray, List.set_cons_zero, List.set_cons_succ, i64_w, i32_w]
        rfl
      refine take_ (i := 1) (N := some 27) (v := ?_) (a' := ?_) #[true, true, true, false, true, false, false, false, false] rfl rfl (take_ofW HT_.out HW_.out (by kernel_rfl)) (fun _ _ _ h => h) (Or.inl ⟨by rfl, ?_⟩) hHeld ?_ ?_
      rotate_left
      · rintro w' ⟨s0, s1, s2, s3⟩
        go_simp
        with_reducible rfl
      rotate_left
      · simp only [Act.put, List.setIfInBounds_toArray, List.set_cons_zero, List.set_cons_succ, i64_w, i32_w]
        rfl
      refine take_ (i := 3) (N := some 29) (v := ?_) (a' := ?_) #[true, true, true, true, true, false, false, false, false] rfl rfl (take_ofW HT_.out HW_.out (by kernel_rfl)) (fun _ _ _ h => h) (Or.inl ⟨by rfl, ?_⟩) hHeld ?_ ?_
      rotate_left
      · rintro w' ⟨s0, s1, s2, s3⟩
        go_simp
        with_reducible rfl
      rotate_left
      · simp only [Act.put, List.setIfInBounds_toArray, List.set_cons_zero, List.set_cons_succ, i64_w, i32_w]
        rfl
      refine take_ (i := 5) (N := some 31) (v := ?_) (a' := ?_) #[true, true, true, true, true, true, false, false, false] rfl rfl (take_ofW HT_.out HW_.out (by kernel_rfl)) (fun _ _ _ h => h) (Or.inl ⟨by rfl, ?_⟩) hHeld ?_ ?_
      rotate_left
      · rintro w' ⟨s0, s1, s2, s3⟩
        go_simp
        with_reducible rfl
      rotate_left
      · simp only [Act.put, List.setIfInBounds_toArray, List.set_cons_zero, List.set_cons_succ, i64_w, i32_w]
        rfl
      refine one_ (i := 6) (N := some 32) #[true, true, true, true, true, true, true, false, false] rfl rfl (one_of HT_.out (by kernel_rfl)) (by decide) (fun K hK => ?_)
      refine goes_ Tryz.func198 (by kernel_rfl) rfl #[.slice A1_1 l1_1.length c1_1, .slice A0_1 l0_1.length c0_1] (by rfl) rfl rfl (by (try simp only [List.map_toArray, List.map_cons, List.map_nil]); first | done | rfl | (simp only [List.length_drop, List.length_take]; rfl)) ?_
      with_reducible refine (integer_magnitude_minus.calls k _ _ l1_1 _ _ l0_1 t147 _ ?side1 ?side2 ?side3 ?side4 A20.out).mono ?_
      (case side1 => repeat (first | exact (Kd.C_below HR1_1.out HB.out) | (with_reducible refine Kd.C_alloc ?_ _) | (with_reducible refine Kd.C_drewN ?_ _) | (with_reducible refine Kd.C_drew ?_)))
      (case side2 => exact HC1_1.out)
      (case side3 => repeat (first | exact (Kd.C_below HR0_1.out HB.out) | (with_reducible refine Kd.C_alloc ?_ _) | (with_reducible refine Kd.C_drewN ?_ _) | (with_reducible refine Kd.C_drew ?_)))
      (case side4 => exact HC0_1.out)
      rintro e w31 ⟨v148, rfl, ho0, hb⟩
      refine ⟨_, rfl, ?_⟩
      have n0_ := Aside0.mk (Kd.V_lower (Kd.V_mono (ok' := fun k_ => (w.heap.size ≤ k_) ∧ k_ ≠ gb140 ∧ k_ ≠ gb141 ∧ k_ ≠ gb142) ho0 (fun k_ hk_ => ⟨(Nat.le_trans (below_size (by repeat (first | (with_reducible first | exact HB.out | apply below_alloc | apply pw_below_drewN | apply below_drew1 | refine below_set ?_ GE140.out | refine below_set ?_ GE141.out | refine below_set ?_ GE142.out) | exact HB.out))) hk_), (Kd.freshB (g := gb140) (o := .cells #[.bool a1_0, .slice A1_1 l1_1.length c1_1] 183 (0, 0)) (by (with_reducible repeat (first | refine blk_drewN ?_ _ | refine blk_drew ?_ | refine blk_alloc ?_ _)); exact BK140.out) k_ hk_), (Kd.freshB (g := gb141) (o := .cells #[.bool a0_0, .slice A0_1 l0_1.length c0_1] 183 (0, 0)) (by (with_reducible repeat (first | refine blk_drewN ?_ _ | refine blk_drew ?_ | refine blk_alloc ?_ _)); exact BK141.out) k_ hk_), (Kd.freshB (g := gb142) (o := .cells #[.bool false, .slice none 0 0] 183 (0, 0)) (by (with_reducible repeat (first | refine blk_drewN ?_ _ | refine blk_drew ?_ | refine blk_alloc ?_ _)); exact BK142.out) k_ hk_)⟩)) (below_size (by repeat (first | (with_reducible first | exact HB.out | apply below_alloc | apply pw_below_drewN | apply below_drew1 | refine below_set ?_ GE140.out | refine below_set ?_ GE141.out | refine below_set ?_ GE142.out) | exact HB.out))))
      have n1_ := Aside0.mk (blk_below (g := gb140) (o := .cells #[.bool a1_0, .slice A1_1 l1_1.length c1_1] 183 (0, 0)) (by (with_reducible repeat (first | refine blk_drewN ?_ _ | refine blk_drew ?_ | refine blk_alloc ?_ _)); exact BK140.out) hb)
      have n2_ := Aside0.mk (blk_below (g := gb141) (o := .cells #[.bool a0_0, .slice A0_1 l0_1.length c0_1] 183 (0, 0)) (by (with_reducible repeat (first | refine blk_drewN ?_ _ | refine blk_drew ?_ | refine blk_alloc ?_ _)); exact BK141.out) hb)
      have n3_ := Aside0.mk (blk_below (g := gb142) (o := .cells #[.bool false, .slice none 0 0] 183 (0, 0)) (by (with_reducible repeat (first | refine blk_drewN ?_ _ | refine blk_drew ?_ | refine blk_alloc ?_ _)); exact BK142.out) hb)
      have n4_ := Aside0.mk (below_step (by repeat (first | (with_reducible first | exact HB.out | apply below_alloc | apply pw_below_drewN | apply below_drew1 | refine below_set ?_ GE140.out | refine below_set ?_ GE141.out | refine below_set ?_ GE142.out) | exact HB.out)) hb)
      clear BK140
      clear BK141
      clear BK142
      clear HB
      have HO149 := n0_
      have BK140 := n1_
      have BK141 := n2_
      have BK142 := n3_
      have HB := n4_
      clear n0_ n1_ n2_ n3_ n4_
      (try clear hb)
      (try clear hb2)
      (try clear hk)
      (try clear hi)
      (try clear ho0)
      obtain ⟨Ao32, co32, eo32⟩ := Kd.V_slice HO149.out
      (first | subst eo32 | (injection eo32 with f1_ f2_ f3_; have f4_ := f1_.symm; have f5_ := f3_.symm; clear f1_ f2_ f3_; subst f4_; subst f5_))
      refine hK.out _ _ ⟨(blk_cell BK140.out 0).trans rfl, (blk_cell BK140.out 1).trans rfl, (blk_cell BK141.out 0).trans rfl, (blk_cell BK141.out 1).trans rfl⟩ (fun hHeld => ?_)
      clear hK K
      refine norm_ (a' := ?_) ?_ ?_
      rotate_left
      · show Act.put _ (some 32) _ = _
        simp only [Act.put, List.setIfInBounds_toArray, List.set_cons_zero, List.set_cons_succ, i64_w, i32_w]
        rfl
      refine pure_ (i := 7) (N := some 33) (v := ?_) (a' := ?_) #[true, true, true, true, true, true, true, true, false] rfl rfl (any_of HT_.out (by kernel_rfl)) (fun _ _ _ h => h) (Or.inl ⟨by rfl, ?_⟩) ?_ ?_
      rotate_left
      · intro w'
        go_simp
        with_reducible rfl
      rotate_left
      · simp only [Act.put, List.setIfInBounds_toArray, List.set_cons_zero, List.set_cons_succ, i64_w, i32_w]
        rfl
      refine one_ (i := 8) (N := none) #[true, true, true, true, true, true, true, true, true] rfl rfl (one_of HT_.out (by kernel_rfl)) (by decide) (fun K hK => ?_)
      have hs33 : w31.cell? ⟨gb142, 0, none⟩ = some (.bool false) := (blk_cell BK142.out 0).trans rfl
      have hfs33 := blk_frozen BK142.out 0
      have hns33_0 := NB140_142.out
      have hns33_1 := NB141_142.out
      have hms33_0 := NB142_140.out
      have hms33_1 := NB142_141.out
      have hs34 : w31.cell? ⟨gb142, 1, none⟩ = some (.slice none 0 0) := (blk_cell BK142.out 1).trans rfl
      have hfs34 := blk_frozen BK142.out 1
      have hns34_0 := NB140_142.out
      have hns34_1 := NB141_142.out
      have hms34_0 := NB142_140.out
      have hms34_1 := NB142_141.out
      refine skip_ (w1 := ?_) (by rfl) rfl ?_ ?_
      rotate_left
      · go_simp
        rfl
      refine hK.out _ _ ⟨((cell_far (p := ⟨gb142, _, none⟩) NB140_142.out _).trans (((cell_far (p := ⟨gb142, _, none⟩) NB140_142.out _).trans (hHeld.1)))), ((cell_far (p := ⟨gb142, _, none⟩) NB140_142.out _).trans (((cell_far (p := ⟨gb142, _, none⟩) NB140_142.out _).trans (hHeld.2.1)))), ((cell_far (p := ⟨gb142, _, none⟩) NB141_142.out _).trans (((cell_far (p := ⟨gb142, _, none⟩) NB141_142.out _).trans (hHeld.2.2.1)))), ((cell_far (p := ⟨gb142, _, none⟩) NB141_142.out _).trans (((cell_far (p := ⟨gb142, _, none⟩) NB141_142.out _).trans (hHeld.2.2.2))))⟩ (fun hHeld => ?_)
      clear hK K
      refine done_ (done_of HT_.out (by kernel_rfl)) ?_
      try go_wp2
      refine bodyPost_ret (results_cell_row rfl _ _ gb142 183 #[.bool a1_0, .slice Ao32 t147.length co32] (0, 0) _ rfl (by (with_reducible repeat (first | refine blk_drewN ?_ _ | refine blk_drew ?_ | refine blk_alloc ?_ _)); refine blk_put (cs := #[.bool a1_0, .slice none 0 0]) ?_ 1 _ rfl; (with_reducible repeat (first | refine blk_drewN ?_ _ | refine blk_drew ?_ | refine blk_alloc ?_ _)); refine blk_put (cs := #[.bool false, .slice none 0 0]) ?_ 0 _ rfl; (with_reducible repeat (first | refine blk_drewN ?_ _ | refine blk_drew ?_ | refine blk_alloc ?_ _)); exact BK142.out) Tryz.underlying183 rfl (by kernel_rfl)) rfl ?_
      exact ⟨_, by first | rfl | (simp [errW_none, errW_some] <;> rfl) | (simp [*, errW_none, errW_some] <;> rfl), by (with_reducible repeat (first | apply Kd.V_alloc | apply Kd.V_drewN | apply Kd.V_drew)); exact Kd.V_mono (Kd.V_far (p := ⟨gb142, 1, none⟩) (Kd.V_far (p := ⟨gb142, 0, none⟩) (Kd.V_mono HO149.out (fun k_ hk => (⟨hk, hk.2.2.2⟩ : _ ∧ k_ ≠ gb142))) (fun _ hk => hk.2) (.bool a1_0)) (fun _ hk => hk.2) (.slice Ao32 t147.length co32)) (fun _ hk => hk.1.1), by repeat (first | (with_reducible first | exact HB.out | apply below_alloc | apply pw_below_drewN | apply below_drew1 | refine below_set ?_ GE140.out | refine below_set ?_ GE141.out | refine below_set ?_ GE142.out) | exact HB.out)⟩
    · rw [if_neg c19] at H
      have c19b0 : decide (t146 < 0) = false := decide_eq_false c19
      clear c19
      replace H := Option.bind_eq_some_iff.mp H
      obtain ⟨t150, A350, H⟩ := H
      replace H : (some (a0_0, t150)) = some (r1, r2) := H
      have A35 := Aside0.mk A350
      clear A350
      simp only [Option.some.injEq, Prod.mk.injEq] at H
      obtain ⟨rfl, rfl⟩ := H
      go_enter Tryz.func144, Tryz.ntmps144
      try go_wp2_with (first | ((with_reducible refine gate_dst (N := 2) rfl ?_); refine box_event ?hg (N := 2) ?hd (cs := #[.bool a0_0, .slice A0_1 l0_1.length c0_1]) (t := 183) ?hr ?_; (case hd => rfl); (case hg => rfl); (case hr => first | (go_simp; done) | (go_simp; rfl)); intro gb140 hg w36 hbox hb; have n0_ := Aside0.mk (below_step (by repeat (first | (with_reducible first | exact HB.out | apply below_alloc | apply pw_below_drewN | apply below_drew1) | exact HB.out)) hb); have n1_ := Aside0.mk (hbox); have n2_ := Aside0.mk ((by rw [hg]; exact (below_size (by repeat (first | (with_reducible first | exact HB.out | apply below_alloc | apply pw_below_drewN | apply below_drew1) | exact HB.out))) : w.heap.size ≤ gb140)); have n3_ := Aside0.mk ((by rw [hg]; exact (below_size (by repeat (first | (with_reducible first | exact HB.out | apply below_alloc | apply pw_below_drewN | apply below_drew1) | exact HB.out))) : w.heap.size ≤ gb140)); clear HB; have HB := n0_; have BK140 := n1_; have GW140 := n2_; have GE140 := n3_; clear n0_ n1_ n2_ n3_; clear hb hbox hg) | ((with_reducible refine gate_dst (N := 3) rfl ?_); refine box_event ?hg (N := 3) ?hd (cs := #[.bool a1_0, .slice A1_1 l1_1.length c1_1]) (t := 183) ?hr ?_; (case hd => rfl); (case hg => rfl); (case hr => first | (go_simp; done) | (go_simp; rfl)); intro gb141 hg w37 hbox hb; have n0_ := Aside0.mk (blk_below (g := gb140) (o := .cells #[.bool a0_0, .slice A0_1 l0_1.length c0_1] 183 (0, 0)) (by (with_reducible repeat (first | refine blk_drewN ?_ _ | refine blk_drew ?_ | refine blk_alloc ?_ _)); exact BK140.out) hb); have n1_ := Aside0.mk (below_step (by repeat (first | (with_reducible first | exact HB.out | apply below_alloc | apply pw_below_drewN | apply below_drew1 | refine below_set ?_ GE140.out) | exact HB.out)) hb); have n2_ := Aside0.mk (hbox); have n3_ := Aside0.mk ((by rw [hg]; exact (below_size (by repeat (first | (with_reducible first | exact HB.out | apply below_alloc | apply pw_below_drewN | apply below_drew1 | refine below_set ?_ GE140.out) | exact HB.out))) : w.heap.size ≤ gb141)); have n4_ := Aside0.mk ((by rw [hg]; exact (below_size (by repeat (first | (with_reducible first | exact HB.out | apply below_alloc | apply pw_below_drewN | apply below_drew1 | refine below_set ?_ GE140.out) | exact HB.out))) : w.heap.size ≤ gb141)); have n5_ := Aside0.mk ((by rw [hg]; exact Nat.ne_of_lt (blk_lt (g := gb140) (o := .cells #[.bool a0_0, .slice A0_1 l0_1.length c0_1] 183 (0, 0)) (by (with_reducible repeat (first | refine blk_drewN ?_ _ | refine blk_drew ?_ | refine blk_alloc ?_ _)); exact BK140.out)) : gb140 ≠ gb141)); have n6_ := Aside0.mk ((by rw [hg]; exact Nat.ne_of_gt (blk_lt (g := gb140) (o := .cells #[.bool a0_0, .slice A0_1 l0_1.length c0_1] 183 (0, 0)) (by (with_reducible repeat (first | refine blk_drewN ?_ _ | refine blk_drew ?_ | refine blk_alloc ?_ _)); exact BK140.out)) : gb141 ≠ gb140)); clear BK140; clear HB; have BK140 := n0_; have HB := n1_; have BK141 := n2_; have GW141 := n3_; have GE141 := n4_; have NB140_141 := n5_; have NB141_140 := n6_; clear n0_ n1_ n2_ n3_ n4_ n5_ n6_; clear hb hbox hg) | ((with_reducible refine gate_dst (N := 4) rfl ?_); refine box_event ?hg (N := 4) ?hd (cs := #[.bool false, .slice none 0 0]) (t := 183) ?hr ?_; (case hd => rfl); (case hg => rfl); (case hr => first | (go_simp; done) | (go_simp; rfl)); intro gb142 hg w38 hbox hb; have n0_ := Aside0.mk (blk_below (g := gb140) (o := .cells #[.bool a0_0, .slice A0_1 l0_1.length c0_1] 183 (0, 0)) (by (with_reducible repeat (first | refine blk_drewN ?_ _ | refine blk_drew ?_ | refine blk_alloc ?_ _)); exact BK140.out) hb); have n1_ := Aside0.mk (blk_below (g := gb141) (o := .cells #[.bool a1_0, .slice A1_1 l1_1.length c1_1] 183 (0, 0)) (by (with_reducible repeat (first | refine blk_drewN ?_ _ | refine blk_drew ?_ | refine blk_alloc ?_ _)); exact BK141.out) hb); have n2_ := Aside0.mk (below_step (by repeat (first | (with_reducible first | exact HB.out | apply below_alloc | apply pw_below_drewN | apply below_drew1 | refine below_set ?_ GE140.out | refine below_set ?_ GE141.out) | exact HB.out)) hb); have n3_ := Aside0.mk (hbox); have n4_ := Aside0.mk ((by rw [hg]; exact (below_size (by repeat (first | (with_reducible first | exact HB.out | apply below_alloc | apply pw_below_drewN | apply below_drew1 | refine below_set ?_ GE140.out | refine below_set ?_ GE141.out) | exact HB.out))) : w.heap.size ≤ gb142)); have n5_ := Aside0.mk ((by rw [hg]; exact (below_size (by repeat (first | (with_reducible first | exact HB.out | apply below_alloc | apply pw_below_drewN | apply below_drew1 | refine below_set ?_ GE140.out | refine below_set ?_ GE141.out) | exact HB.out))) : w.heap.size ≤ gb142)); have n6_ := Aside0.mk ((by rw [hg]; exact Nat.ne_of_lt (blk_lt (g := gb140) (o := .cells #[.bool a0_0, .slice A0_1 l0_1.length c0_1] 183 (0, 0)) (by (with_reducible repeat (first | refine blk_drewN ?_ _ | refine blk_drew ?_ | refine blk_alloc ?_ _)); exact BK140.out)) : gb140 ≠ gb142)); have n7_ := Aside0.mk ((by rw [hg]; exact Nat.ne_of_gt (blk_lt (g := gb140) (o := .cells #[.bool a0_0, .slice A0_1 l0_1.length c0_1] 183 (0, 0)) (by (with_reducible repeat (first | refine blk_drewN ?_ _ | refine blk_drew ?_ | refine blk_alloc ?_ _)); exact BK140.out)) : gb142 ≠ gb140)); have n8_ := Aside0.mk ((by rw [hg]; exact Nat.ne_of_lt (blk_lt (g := gb141) (o := .cells #[.bool a1_0, .slice A1_1 l1_1.length c1_1] 183 (0, 0)) (by (with_reducible repeat (first | refine blk_drewN ?_ _ | refine blk_drew ?_ | refine blk_alloc ?_ _)); exact BK141.out)) : gb141 ≠ gb142)); have n9_ := Aside0.mk ((by rw [hg]; exact Nat.ne_of_gt (blk_lt (g := gb141) (o := .cells #[.bool a1_0, .slice A1_1 l1_1.length c1_1] 183 (0, 0)) (by (with_reducible repeat (first | refine blk_drewN ?_ _ | refine blk_drew ?_ | refine blk_alloc ?_ _)); exact BK141.out)) : gb142 ≠ gb141)); clear BK140; clear BK141; clear HB; have BK140 := n0_; have BK141 := n1_; have HB := n2_; have BK142 := n3_; have GW142 := n4_; have GE142 := n5_; have NB140_142 := n6_; have NB142_140 := n7_; have NB141_142 := n8_; have NB142_141 := n9_; clear n0_ n1_ n2_ n3_ n4_ n5_ n6_ n7_ n8_ n9_; clear hb hbox hg; have hnb39 := NB140_141.out; have hnc39 := NB141_140.out; have hnb40 := NB140_142.out; have hnc40 := NB142_140.out; have hcz41_0 : w38.cell? ⟨gb140, 0, none⟩ = some (.bool a0_0) := (blk_cell BK140.out 0).trans rfl; have hcz41_1 : w38.cell? ⟨gb140, 1, none⟩ = some (.slice A0_1 l0_1.length c0_1) := (blk_cell BK140.out 1).trans rfl; have hfz41_0 := blk_frozen BK140.out 0; have hfz41_1 := blk_frozen BK140.out 1; have hnb42 := NB141_142.out; have hnc42 := NB142_141.out; have hcz43_0 : w38.cell? ⟨gb141, 0, none⟩ = some (.bool a1_0) := (blk_cell BK141.out 0).trans rfl; have hcz43_1 : w38.cell? ⟨gb141, 1, none⟩ = some (.slice A1_1 l1_1.length c1_1) := (blk_cell BK141.out 1).trans rfl; have hfz43_0 := blk_frozen BK141.out 0; have hfz43_1 := blk_frozen BK141.out 1) | ((with_reducible refine gate_callee (f := 187) rfl ?_); refine goesL_ (some 22) rfl rfl Tryz.func187 (by kernel_rfl) rfl #[.slice A0_1 l0_1.length c0_1, .slice A1_1 l1_1.length c1_1] rfl (by (try simp only [List.map_toArray, List.map_cons, List.map_nil]); first | done | rfl | (simp only [List.length_drop, List.length_take]; rfl)) ?_; (with_reducible refine (integer_magnitude_compare.calls k _ _ l0_1 _ _ l1_1 t146 _ ?side1 ?side2 ?side3 ?side4 A18.out).mono ?_); (case side1 => repeat (first | exact (Kd.C_below HR0_1.out HB.out) | (with_reducible refine Kd.C_alloc ?_ _) | (with_reducible refine Kd.C_drewN ?_ _) | (with_reducible refine Kd.C_drew ?_))); (case side2 => exact HC0_1.out); (case side3 => repeat (first | exact (Kd.C_below HR1_1.out HB.out) | (with_reducible refine Kd.C_alloc ?_ _) | (with_reducible refine Kd.C_drewN ?_ _) | (with_reducible refine Kd.C_drew ?_))); (case side4 => exact HC1_1.out); rintro e w' ⟨rfl, ⟨nd, rfl⟩⟩; refine ⟨_, rfl, ?_⟩; (try (rw [drewN_self w38]; generalize hq_ : World.drewN w38 _ = w38; have n0_ : Aside0 (w38.heap[gb140]? = some (.cells #[.bool a0_0, .slice A0_1 l0_1.length c0_1] 183 (0, 0))) := ⟨by rw [← hq_]; exact (by (with_reducible repeat (first | refine blk_drewN ?_ _ | refine blk_drew ?_ | refine blk_alloc ?_ _)); exact BK140.out)⟩; have n1_ : Aside0 (w38.heap[gb141]? = some (.cells #[.bool a1_0, .slice A1_1 l1_1.length c1_1] 183 (0, 0))) := ⟨by rw [← hq_]; exact (by (with_reducible repeat (first | refine blk_drewN ?_ _ | refine blk_drew ?_ | refine blk_alloc ?_ _)); exact BK141.out)⟩; have n2_ : Aside0 (w38.heap[gb142]? = some (.cells #[.bool false, .slice none 0 0] 183 (0, 0))) := ⟨by rw [← hq_]; exact (by (with_reducible repeat (first | refine blk_drewN ?_ _ | refine blk_drew ?_ | refine blk_alloc ?_ _)); exact BK142.out)⟩; have n3_ : Aside0 (Below w.heap.size w w38) := ⟨by rw [← hq_]; exact (by repeat (first | (with_reducible first | exact HB.out | apply below_alloc | apply pw_below_drewN | apply below_drew1 | refine below_set ?_ GE140.out | refine below_set ?_ GE141.out | refine below_set ?_ GE142.out) | exact HB.out))⟩; clear BK140 BK141 BK142 HB hq_; have BK140 := n0_; have BK141 := n1_; have BK142 := n2_; have HB := n3_; clear n0_ n1_ n2_ n3_; have hcz41_0 : w38.cell? ⟨gb140, 0, none⟩ = some (.bool a0_0) := (blk_cell BK140.out 0).trans rfl; have hcz41_1 : w38.cell? ⟨gb140, 1, none⟩ = some (.slice A0_1 l0_1.length c0_1) := (blk_cell BK140.out 1).trans rfl; have hfz41_0 := blk_frozen BK140.out 0; have hfz41_1 := blk_frozen BK140.out 1; have hcz43_0 : w38.cell? ⟨gb141, 0, none⟩ = some (.bool a1_0) := (blk_cell BK141.out 0).trans rfl; have hcz43_1 : w38.cell? ⟨gb141, 1, none⟩ = some (.slice A1_1 l1_1.length c1_1) := (blk_cell BK141.out 1).trans rfl; have hfz43_0 := blk_frozen BK141.out 0; have hfz43_1 := blk_frozen BK141.out 1))))
      have n0_ := Aside0.mk (blk_drew BK140.out)
      have n1_ := Aside0.mk (blk_drew BK141.out)
      have n2_ := Aside0.mk (blk_drew BK142.out)
      have n3_ := Aside0.mk (below_drew1 HB.out)
      clear BK140
      clear BK141
      clear BK142
      clear HB
      have BK140 := n0_
      have BK141 := n1_
      have BK142 := n2_
      have HB := n3_
      clear n0_ n1_ n2_ n3_
      refine start_ (n := 9) (S := fun w' => w'.cell? ⟨gb140, 0, none⟩ = some (.bool a0_0) ∧ w'.cell? ⟨gb140, 1, none⟩ = some (.slice A0_1 l0_1.length c0_1) ∧ w'.cell? ⟨gb141, 0, none⟩ = some (.bool a1_0) ∧ w'.cell? ⟨gb141, 1, none⟩ = some (.slice A1_1 l1_1.length c1_1)) (ds := []) #[false, false, false, false, false, false, false, false, false] (by kernel_rfl) rfl rfl ⟨(blk_cell BK140.out 0).trans rfl, (blk_cell BK140.out 1).trans rfl, (blk_cell BK141.out 0).trans rfl, (blk_cell BK141.out 1).trans rfl⟩ (fun hHeld => ?_); refine with_tabW integer_add.tab5 integer_add.bits5 (fun HT_ HW_ => ?_)
      generalize w38.drew = w44 at BK140 BK141 BK142 HB hHeld ⊢
      refine pure_ (i := 0) (N := some 26) (v := ?_) (a' := ?_) #[true, false, false, false, false, false, false, false, false] rfl rfl (any_of HT_.out (by kernel_rfl)) (fun _ _ _ h => h) (Or.inl ⟨by rfl, ?_⟩) ?_ ?_
      rotate_left
      · intro w'
        go_simp
        with_reducible rfl
      rotate_left
      · simp only [Act.put, List.setIfInBounds_toArray, List.set_cons_zero, List.set_cons_succ, i64_w, i32_w]
        rfl
      refine pure_ (i := 2) (N := some 28) (v := ?_) (a' := ?_) #[true, false, true, false, false, false, false, false, false] rfl rfl (any_of HT_.out (by kernel_rfl)) (fun _ _ _ h => h) (Or.inl ⟨by rfl, ?_⟩) ?_ ?_
      rotate_left
      · intro w'
        go_simp
        with_reducible rfl
      rotate_left
      · simp only [Act.put, List.setIfInBounds_toArray, List.set_cons_zero, List.set_cons_succ, i64_w, i32_w]
        rfl
      refine pure_ (i := 4) (N := some 30) (v := ?_) (a' := ?_) #[true, false, true, false, true, false, false, false, false] rfl rfl (any_of HT_.out (by kernel_rfl)) (fun _ _ _ h => h) (Or.inl ⟨by rfl, ?_⟩) ?_ ?_
      rotate_left
      · intro w'
        go_simp
        with_reducible rfl
      rotate_left
      · simp only [Act.put, List.setIfInBounds_toArray, List.set_cons_zero, List.set_cons_succ, i64_w, i32_w]
        rfl
      refine take_ (i := 1) (N := some 27) (v := ?_) (a' := ?_) #[true, true, true, false, true, false, false, false, false] rfl rfl (take_ofW HT_.out HW_.out (by kernel_rfl)) (fun _ _ _ h => h) (Or.inl ⟨by rfl, ?_⟩) hHeld ?_ ?_
      rotate_left
      · rintro w' ⟨s0, s1, s2, s3⟩
        go_simp
        with_reducible rfl
      rotate_left
      · simp only [Act.put, List.setIfInBounds_toArray, List.set_cons_zero, List.set_cons_succ, i64_w, i32_w]
        rfl
      refine take_ (i := 3) (N := some 29) (v := ?_) (a' := ?_) #[true, true, true, true, true, false, false, false, false] rfl rfl (take_ofW HT_.out HW_.out (by kernel_rfl)) (fun _ _ _ h => h) (Or.inl ⟨by rfl, ?_⟩) hHeld ?_ ?_
      rotate_left
      · rintro w' ⟨s0, s1, s2, s3⟩
        go_simp
        with_reducible rfl
      rotate_left
      · simp only [Act.put, List.setIfInBounds_toArray, List.set_cons_zero, List.set_cons_succ, i64_w, i32_w]
        rfl
      refine take_ (i := 5) (N := some 31) (v := ?_) (a' := ?_) #[true, true, true, true, true, true, false, false, false] rfl rfl (take_ofW HT_.out HW_.out (by kernel_rfl)) (fun _ _ _ h => h) (Or.inl ⟨by rfl, ?_⟩) hHeld ?_ ?_
      rotate_left
      · rintro w' ⟨s0, s1, s2, s3⟩
        go_simp
        with_reducible rfl
      rotate_left
      · simp only [Act.put, List.setIfInBounds_toArray, List.set_cons_zero, List.set_cons_succ, i64_w, i32_w]
        rfl
      refine one_ (i := 6) (N := some 32) #[true, true, true, true, true, true, true, false, false] rfl rfl (one_of HT_.out (by kernel_rfl)) (by decide) (fun K hK => ?_)
      refine goes_ Tryz.func198 (by kernel_rfl) rfl #[.slice A0_1 l0_1.length c0_1, .slice A1_1 l1_1.length c1_1] (by rfl) rfl rfl (by (try simp only [List.map_toArray, List.map_cons, List.map_nil]); first | done | rfl | (simp only [List.length_drop, List.length_take]; rfl)) ?_
      with_reducible refine (integer_magnitude_minus.calls k _ _ l0_1 _ _ l1_1 t150 _ ?side1 ?side2 ?side3 ?side4 A35.out).mono ?_
      (case side1 => repeat (first | exact (Kd.C_below HR0_1.out HB.out) | (with_reducible refine Kd.C_alloc ?_ _) | (with_reducible refine Kd.C_drewN ?_ _) | (with_reducible refine Kd.C_drew ?_)))
      (case side2 => exact HC0_1.out)
      (case side3 => repeat (first | exact (Kd.C_below HR1_1.out HB.out) | (with_reducible refine Kd.C_alloc ?_ _) | (with_reducible refine Kd.C_drewN ?_ _) | (with_reducible refine Kd.C_drew ?_)))
      (case side4 => exact HC1_1.out)
      rintro e w45 ⟨v151, rfl, ho0, hb⟩
      refine ⟨_, rfl, ?_⟩
      have n0_ := Aside0.mk (Kd.V_lower (Kd.V_mono (ok' := fun k_ => (w.heap.size ≤ k_) ∧ k_ ≠ gb140 ∧ k_ ≠ gb141 ∧ k_ ≠ gb142) ho0 (fun k_ hk_ => ⟨(Nat.le_trans (below_size (by repeat (first | (with_reducible first | exact HB.out | apply below_alloc | apply pw_below_drewN | apply below_drew1 | refine below_set ?_ GE140.out | refine below_set ?_ GE141.out | refine below_set ?_ GE142.out) | exact HB.out))) hk_), (Kd.freshB (g := gb140) (o := .cells #[.bool a0_0, .slice A0_1 l0_1.length c0_1] 183 (0, 0)) (by (with_reducible repeat (first | refine blk_drewN ?_ _ | refine blk_drew ?_ | refine blk_alloc ?_ _)); exact BK140.out) k_ hk_), (Kd.freshB (g := gb141) (o := .cells #[.bool a1_0, .slice A1_1 l1_1.length c1_1] 183 (0, 0)) (by (with_reducible repeat (first | refine blk_drewN ?_ _ | refine blk_drew ?_ | refine blk_alloc ?_ _)); exact BK141.out) k_ hk_), (Kd.freshB (g := gb142) (o := .cells #[.bool false, .slice none 0 0] 183 (0, 0)) (by (with_reducible repeat (first | refine blk_drewN ?_ _ | refine blk_drew ?_ | refine blk_alloc ?_ _)); exact BK142.out) k_ hk_)⟩)) (below_size (by repeat (first | (with_reducible first | exact HB.out | apply below_alloc | apply pw_below_drewN | apply below_drew1 | refine below_set ?_ GE140.out | refine below_set ?_ GE141.out | refine below_set ?_ GE142.out) | exact HB.out))))
      have n1_ := Aside0.mk (blk_below (g := gb140) (o := .cells #[.bool a0_0, .slice A0_1 l0_1.length c0_1] 183 (0, 0)) (by (with_reducible repeat (first | refine blk_drewN ?_ _ | refine blk_drew ?_ | refine blk_alloc ?_ _)); exact BK140.out) hb)
      have n2_ := Aside0.mk (blk_below (g := gb141) (o := .cells #[.bool a1_0, .slice A1_1 l1_1.length c1_1] 183 (0, 0)) (by (with_reducible repeat (first | refine blk_drewN ?_ _ | refine blk_drew ?_ | refine blk_alloc ?_ _)); exact BK141.out) hb)
      have n3_ := Aside0.mk (blk_below (g := gb142) (o := .cells #[.bool false, .slice none 0 0] 183 (0, 0)) (by (with_reducible repeat (first | refine blk_drewN ?_ _ | refine blk_drew ?_ | refine blk_alloc ?_ _)); exact BK142.out) hb)
      have n4_ := Aside0.mk (below_step (by repeat (first | (with_reducible first | exact HB.out | apply below_alloc | apply pw_below_drewN | apply below_drew1 | refine below_set ?_ GE140.out | refine below_set ?_ GE141.out | refine below_set ?_ GE142.out) | exact HB.out)) hb)
      clear BK140
      clear BK141
      clear BK142
      clear HB
      have HO152 := n0_
      have BK140 := n1_
      have BK141 := n2_
      have BK142 := n3_
      have HB := n4_
      clear n0_ n1_ n2_ n3_ n4_
      (try clear hb)
      (try clear hb2)
      (try clear hk)
      (try clear hi)
      (try clear ho0)
      obtain ⟨Ao46, co46, eo46⟩ := Kd.V_slice HO152.out
      (first | subst eo46 | (injection eo46 with f1_ f2_ f3_; have f4_ := f1_.symm; have f5_ := f3_.symm; clear f1_ f2_ f3_; subst f4_; subst f5_))
      refine hK.out _ _ ⟨(blk_cell BK140.out 0).trans rfl, (blk_cell BK140.out 1).trans rfl, (blk_cell BK141.out 0).trans rfl, (blk_cell BK141.out 1).trans rfl⟩ (fun hHeld => ?_)
      clear hK K
      refine norm_ (a' := ?_) ?_ ?_
      rotate_left
      · show Act.put _ (some 32) _ = _
        simp only [Act.put, List.setIfInBounds_toArray, List.set_cons_zero, List.set_cons_succ, i64_w, i32_w]
        rfl
      refine pure_ (i := 7) (N := some 33) (v := ?_) (a' := ?_) #[true, true, true, true, true, true, true, true, false] rfl rfl (any_of HT_.out (by kernel_rfl)) (fun _ _ _ h => h) (Or.inl ⟨by rfl, ?_⟩) ?_ ?_
      rotate_left
      · intro w'
        go_simp
        with_reducible rfl
      rotate_left
      · simp only [Act.put, List.setIfInBounds_toArray, List.set_cons_zero, List.set_cons_succ, i64_w, i32_w]
        rfl
      refine one_ (i := 8) (N := none) #[true, true, true, true, true, true, true, true, true] rfl rfl (one_of HT_.out (by kernel_rfl)) (by decide) (fun K hK => ?_)
      have hs47 : w45.cell? ⟨gb142, 0, none⟩ = some (.bool false) := (blk_cell BK142.out 0).trans rfl
      have hfs47 := blk_frozen BK142.out 0
      have hns47_0 := NB140_142.out
      have hns47_1 := NB141_142.out
      have hms47_0 := NB142_140.out
      have hms47_1 := NB142_141.out
      have hs48 : w45.cell? ⟨gb142, 1, none⟩ = some (.slice none 0 0) := (blk_cell BK142.out 1).trans rfl
      have hfs48 := blk_frozen BK142.out 1
      have hns48_0 := NB140_142.out
      have hns48_1 := NB141_142.out
      have hms48_0 := NB142_140.out
      have hms48_1 := NB142_141.out
      refine skip_ (w1 := ?_) (by rfl) rfl ?_ ?_
      rotate_left
      · go_simp
        rfl
      refine hK.out _ _ ⟨((cell_far (p := ⟨gb142, _, none⟩) NB140_142.out _).trans (((cell_far (p := ⟨gb142, _, none⟩) NB140_142.out _).trans (hHeld.1)))), ((cell_far (p := ⟨gb142, _, none⟩) NB140_142.out _).trans (((cell_far (p := ⟨gb142, _, none⟩) NB140_142.out _).trans (hHeld.2.1)))), ((cell_far (p := ⟨gb142, _, none⟩) NB141_142.out _).trans (((cell_far (p := ⟨gb142, _, none⟩) NB141_142.out _).trans (hHeld.2.2.1)))), ((cell_far (p := ⟨gb142, _, none⟩) NB141_142.out _).trans (((cell_far (p := ⟨gb142, _, none⟩) NB141_142.out _).trans (hHeld.2.2.2))))⟩ (fun hHeld => ?_)
      clear hK K
      refine done_ (done_of HT_.out (by kernel_rfl)) ?_
      try go_wp2
      refine bodyPost_ret (results_cell_row rfl _ _ gb142 183 #[.bool a0_0, .slice Ao46 t150.length co46] (0, 0) _ rfl (by (with_reducible repeat (first | refine blk_drewN ?_ _ | refine blk_drew ?_ | refine blk_alloc ?_ _)); refine blk_put (cs := #[.bool a0_0, .slice none 0 0]) ?_ 1 _ rfl; (with_reducible repeat (first | refine blk_drewN ?_ _ | refine blk_drew ?_ | refine blk_alloc ?_ _)); refine blk_put (cs := #[.bool false, .slice none 0 0]) ?_ 0 _ rfl; (with_reducible repeat (first | refine blk_drewN ?_ _ | refine blk_drew ?_ | refine blk_alloc ?_ _)); exact BK142.out) Tryz.underlying183 rfl (by kernel_rfl)) rfl ?_
      exact ⟨_, by first | rfl | (simp [errW_none, errW_some] <;> rfl) | (simp [*, errW_none, errW_some] <;> rfl), by (with_reducible repeat (first | apply Kd.V_alloc | apply Kd.V_drewN | apply Kd.V_drew)); exact Kd.V_mono (Kd.V_far (p := ⟨gb142, 1, none⟩) (Kd.V_far (p := ⟨gb142, 0, none⟩) (Kd.V_mono HO152.out (fun k_ hk => (⟨hk, hk.2.2.2⟩ : _ ∧ k_ ≠ gb142))) (fun _ hk => hk.2) (.bool a0_0)) (fun _ hk => hk.2) (.slice Ao46 t150.length co46)) (fun _ hk => hk.1.1), by repeat (first | (with_reducible first | exact HB.out | apply below_alloc | apply pw_below_drewN | apply below_drew1 | refine below_set ?_ GE140.out | refine below_set ?_ GE141.out | refine below_set ?_ GE142.out) | exact HB.out)⟩
end Go.Proofs.YtblcgcibkikgeaaGreatDoor.I
end
section
namespace Go.Proofs.YtblcgcibkikgeaaGreatDoor.I
open Go.RowKit Go.Proofs.YtblcgcibkikgeaaGreatDoorW.PrintWords Go.Proofs.YtblcgcibkikgeaaGreatDoorW.PrintLast Go.Proofs.YtblcgcibkikgeaaGreatDoorW.PrintMore Go.Proofs.YtblcgcibkikgeaaGreatDoor.K Go.Proofs.YtblcgcibkikgeaaGreatDoor.G1
attribute [local go_sem] max2_int min2_int max_two min_two max_three min_three max_four min_four
set_option linter.unusedVariables false
set_option linter.unusedSimpArgs false
def integer_Add.f (k : Nat) (a0 : ByteArray) (a1 : ByteArray) : Option (ByteArray) := (integer_read.f k a0).bind fun bt153 => ((integer_read.f k a1).bind fun bt157 => ((integer_add.f k bt153.1 bt153.2 bt157.1 bt157.2).bind fun bt161 => ((integer_number_text.f bt161.1 bt161.2).bind fun t165 => (some t165))))
set_option maxHeartbeats 8000000 in
set_option maxRecDepth 100000 in
theorem integer_Add.calls (k : Nat) (a0 : ByteArray) (a1 : ByteArray) (r : ByteArray) (w : World) (hL : Laid w) (h : integer_Add.f k a0 a1 = some r) :
    Calls Tryz.prog 99 #[.string a0, .string a1] w fun e w' => e = .returned (.string r) ∧ Below w.heap.size w w' := by
  have HL := Aside0.mk hL
  clear hL
  have HB := Aside0.mk (Below.refl w.heap.size w)
  have H : ((integer_read.f k a0).bind fun bt153 => ((integer_read.f k a1).bind fun bt157 => ((integer_add.f k bt153.1 bt153.2 bt157.1 bt157.2).bind fun bt161 => ((integer_number_text.f bt161.1 bt161.2).bind fun t165 => (some t165))))) = some r := h
  clear h
  replace H := Option.bind_eq_some_iff.mp H
  obtain ⟨⟨t153, t154⟩, A30, H⟩ := H
  replace H : ((integer_read.f k a1).bind fun bt157 => ((integer_add.f k t153 t154 bt157.1 bt157.2).bind fun bt161 => ((integer_number_text.f bt161.1 bt161.2).bind fun t165 => (some t165)))) = some r := H
  have A3 := Aside0.mk A30
  clear A30
  replace H := Option.bind_eq_some_iff.mp H
  obtain ⟨⟨t157, t158⟩, A40, H⟩ := H
  replace H : ((integer_add.f k t153 t154 t157 t158).bind fun bt161 => ((integer_number_text.f bt161.1 bt161.2).bind fun t165 => (some t165))) = some r := H
  have A4 := Aside0.mk A40
  clear A40
  replace H := Option.bind_eq_some_iff.mp H
  obtain ⟨⟨t161, t162⟩, A50, H⟩ := H
  replace H : ((integer_number_text.f t161 t162).bind fun t165 => (some t165)) = some r := H
  have A5 := Aside0.mk A50
  clear A50
  replace H := Option.bind_eq_some_iff.mp H
  obtain ⟨t165, A60, H⟩ := H
  replace H : (some t165) = some r := H
  have A6 := Aside0.mk A60
  clear A60
  obtain rfl := Option.some.inj H
  go_enter Tryz.func99, Tryz.ntmps99
  go_wp2_with (first | ((with_reducible refine gate_callee (f := 142) rfl ?_); refine goesL_ (some 6) rfl rfl Tryz.func142 (by kernel_rfl) rfl #[.string a0] rfl (by (try simp only [List.map_toArray, List.map_cons, List.map_nil]); first | done | rfl | (simp only [List.length_drop, List.length_take]; rfl)) ?_; (with_reducible refine (integer_read.calls k a0 t153 t154 _ A3.out).mono ?_); rintro e w7 ⟨v155, rfl, ho0, hb⟩; refine ⟨_, rfl, ?_⟩; have n0_ := Aside0.mk (Kd.R_lower ho0 (below_size (by repeat (first | (with_reducible first | exact HB.out | apply below_alloc | apply pw_below_drewN | apply below_drew1) | exact HB.out)))); have n1_ := Aside0.mk (below_step (by repeat (first | (with_reducible first | exact HB.out | apply below_alloc | apply pw_below_drewN | apply below_drew1) | exact HB.out)) hb); clear HB; have HO156 := n0_; have HB := n1_; clear n0_ n1_; (try clear hb); (try clear hb2); (try clear hk); (try clear hi); (try clear ho0)) | ((with_reducible refine gate_callee (f := 142) rfl ?_); refine goesL_ (some 8) rfl rfl Tryz.func142 (by kernel_rfl) rfl #[.string a1] rfl (by (try simp only [List.map_toArray, List.map_cons, List.map_nil]); first | done | rfl | (simp only [List.length_drop, List.length_take]; rfl)) ?_; (with_reducible refine (integer_read.calls k a1 t157 t158 _ A4.out).mono ?_); rintro e w8 ⟨v159, rfl, ho0, hb⟩; refine ⟨_, rfl, ?_⟩; have n0_ := Aside0.mk (Kd.R_elder' (by (with_reducible repeat (first | apply Kd.R_alloc | apply Kd.R_drewN | apply Kd.R_drew)); exact HO156.out) (Kd.R_base ho0) hb); have n1_ := Aside0.mk (Kd.R_lower (Kd.R_new' ho0 (Kd.R_lt (by (with_reducible repeat (first | apply Kd.R_alloc | apply Kd.R_drewN | apply Kd.R_drew)); exact HO156.out))) (below_size (by repeat (first | (with_reducible first | exact HB.out | apply below_alloc | apply pw_below_drewN | apply below_drew1) | exact HB.out)))); have n2_ := Aside0.mk (below_step (by repeat (first | (with_reducible first | exact HB.out | apply below_alloc | apply pw_below_drewN | apply below_drew1) | exact HB.out)) hb); clear HO156; clear HB; have HO156 := n0_; have HO160 := n1_; have HB := n2_; clear n0_ n1_ n2_; (try clear hb); (try clear hb2); (try clear hk); (try clear hi); (try clear ho0); obtain ⟨Ao9, co9, eo9⟩ := Kd.R_slice HO156.out; subst eo9; obtain ⟨Ao10, co10, eo10⟩ := Kd.R_slice HO160.out; subst eo10) | ((with_reducible refine gate_callee (f := 144) rfl ?_); refine goesL_ (some 9) rfl rfl Tryz.func144 (by kernel_rfl) rfl #[.agg #[.bool t153, .slice Ao9 t154.length co9], .agg #[.bool t157, .slice Ao10 t158.length co10]] rfl (by (try simp only [List.map_toArray, List.map_cons, List.map_nil]); first | done | rfl | (simp only [List.length_drop, List.length_take]; rfl)) ?_; (with_reducible refine (integer_add.calls k t153 _ _ t154 t157 _ _ t158 t161 t162 _ ?side1 ?side2 ?side3 ?side4 A5.out).mono ?_); (case side1 => repeat (first | exact (Kd.R_reads' HO156.out).2.2 | (with_reducible refine Kd.C_alloc ?_ _) | (with_reducible refine Kd.C_drewN ?_ _) | (with_reducible refine Kd.C_drew ?_))); (case side2 => exact (Kd.R_reads' HO156.out).2.1); (case side3 => repeat (first | exact (Kd.R_reads' HO160.out).2.2 | (with_reducible refine Kd.C_alloc ?_ _) | (with_reducible refine Kd.C_drewN ?_ _) | (with_reducible refine Kd.C_drew ?_))); (case side4 => exact (Kd.R_reads' HO160.out).2.1); rintro e w11 ⟨v163, rfl, ho0, hb⟩; refine ⟨_, rfl, ?_⟩; have n0_ := Aside0.mk (Kd.R_below (by (with_reducible repeat (first | apply Kd.R_alloc | apply Kd.R_drewN | apply Kd.R_drew)); exact HO156.out) hb); have n1_ := Aside0.mk (Kd.R_below (by (with_reducible repeat (first | apply Kd.R_alloc | apply Kd.R_drewN | apply Kd.R_drew)); exact HO160.out) hb); have n2_ := Aside0.mk (Kd.V_lower (Kd.V_mono (ok' := fun k_ => some k_ ≠ (.slice Ao9 t154.length co9 : Value).ownBlock ∧ some k_ ≠ (.slice Ao10 t158.length co10 : Value).ownBlock) ho0 (fun k_ hk_ => ⟨(Kd.fresh' (Kd.R_lt (by (with_reducible repeat (first | apply Kd.R_alloc | apply Kd.R_drewN | apply Kd.R_drew)); exact HO156.out)) k_ hk_), (Kd.fresh' (Kd.R_lt (by (with_reducible repeat (first | apply Kd.R_alloc | apply Kd.R_drewN | apply Kd.R_drew)); exact HO160.out)) k_ hk_)⟩)) (below_size (by repeat (first | (with_reducible first | exact HB.out | apply below_alloc | apply pw_below_drewN | apply below_drew1) | exact HB.out)))); have n3_ := Aside0.mk (below_step (by repeat (first | (with_reducible first | exact HB.out | apply below_alloc | apply pw_below_drewN | apply below_drew1) | exact HB.out)) hb); clear HO156; clear HO160; clear HB; have HO156 := n0_; have HO160 := n1_; have HO164 := n2_; have HB := n3_; clear n0_ n1_ n2_ n3_; (try clear hb); (try clear hb2); (try clear hk); (try clear hi); (try clear ho0); obtain ⟨Ao12, co12, eo12⟩ := Kd.V_slice HO164.out; subst eo12) | ((with_reducible refine gate_callee (f := 143) rfl ?_); refine goesL_ (some 10) rfl rfl Tryz.func143 (by kernel_rfl) rfl #[.agg #[.bool t161, .slice Ao12 t162.length co12]] rfl (by (try simp only [List.map_toArray, List.map_cons, List.map_nil]); first | done | rfl | (simp only [List.length_drop, List.length_take]; rfl)) ?_; (with_reducible refine (integer_number_text.calls t161 _ _ t162 t165 _ (HL.out.below (by repeat (first | (with_reducible first | exact HB.out | apply below_alloc | apply pw_below_drewN | apply below_drew1) | exact HB.out | refine below_set ?_ (Aside0.out (by assumption))))) ?side1 ?side2 A6.out).mono ?_); (case side1 => repeat (first | exact (Kd.V_reads' HO164.out).2.2 | (with_reducible refine Kd.C_alloc ?_ _) | (with_reducible refine Kd.C_drewN ?_ _) | (with_reducible refine Kd.C_drew ?_))); (case side2 => exact (Kd.V_reads' HO164.out).2.1); rintro e w13 ⟨rfl, hb⟩; refine ⟨_, rfl, ?_⟩; have n0_ := Aside0.mk (Kd.R_below (by (with_reducible repeat (first | apply Kd.R_alloc | apply Kd.R_drewN | apply Kd.R_drew)); exact HO156.out) hb); have n1_ := Aside0.mk (Kd.R_below (by (with_reducible repeat (first | apply Kd.R_alloc | apply Kd.R_drewN | apply Kd.R_drew)); exact HO160.out) hb); have n2_ := Aside0.mk (Kd.V_below (by (with_reducible repeat (first | apply Kd.V_alloc | apply Kd.V_drewN | apply Kd.V_drew)); exact HO164.out) hb); have n3_ := Aside0.mk (below_step (by repeat (first | (with_reducible first | exact HB.out | apply below_alloc | apply pw_below_drewN | apply below_drew1) | exact HB.out)) hb); clear HO156; clear HO160; clear HO164; clear HB; have HO156 := n0_; have HO160 := n1_; have HO164 := n2_; have HB := n3_; clear n0_ n1_ n2_ n3_; (try clear hb); (try clear hb2); (try clear hk); (try clear hi)))
  go_ret
  exact ⟨by first | rfl | (simp [errW_none, errW_some] <;> rfl) | (simp [*, errW_none, errW_some] <;> rfl), by repeat (first | (with_reducible first | exact HB.out | apply below_alloc | apply pw_below_drewN | apply below_drew1) | exact HB.out)⟩
end Go.Proofs.YtblcgcibkikgeaaGreatDoor.I
end
section
namespace Go.Proofs.YtblcgcibkikgeaaGreatDoor.I
open Go.RowKit Go.Proofs.YtblcgcibkikgeaaGreatDoorW.PrintWords Go.Proofs.YtblcgcibkikgeaaGreatDoorW.PrintLast Go.Proofs.YtblcgcibkikgeaaGreatDoorW.PrintMore Go.Proofs.YtblcgcibkikgeaaGreatDoor.K Go.Proofs.YtblcgcibkikgeaaGreatDoor.G1
attribute [local go_sem] max2_int min2_int max_two min_two max_three min_three max_four min_four
set_option linter.unusedVariables false
set_option linter.unusedSimpArgs false
def integer_Neg.f (k : Nat) (a0 : ByteArray) : Option (ByteArray) := (integer_read.f k a0).bind fun bt166 => ((integer_number_text.f (!bt166.1) bt166.2).bind fun t171 => (some t171))
set_option maxHeartbeats 8000000 in
set_option maxRecDepth 100000 in
theorem integer_Neg.calls (k : Nat) (a0 : ByteArray) (r : ByteArray) (w : World) (hL : Laid w) (h : integer_Neg.f k a0 = some r) :
    Calls Tryz.prog 98 #[.string a0] w fun e w' => e = .returned (.string r) ∧ Below w.heap.size w w' := by
  have hu183 := Tryz.underlying183
  have HL := Aside0.mk hL
  clear hL
  have HB := Aside0.mk (Below.refl w.heap.size w)
  have H : ((integer_read.f k a0).bind fun bt166 => ((integer_number_text.f (!bt166.1) bt166.2).bind fun t171 => (some t171))) = some r := h
  clear h
  replace H := Option.bind_eq_some_iff.mp H
  obtain ⟨⟨t166, t167⟩, A20, H⟩ := H
  replace H : ((integer_number_text.f (!t166) t167).bind fun t171 => (some t171)) = some r := H
  have A2 := Aside0.mk A20
  clear A20
  replace H := Option.bind_eq_some_iff.mp H
  obtain ⟨t171, A30, H⟩ := H
  replace H : (some t171) = some r := H
  have A3 := Aside0.mk A30
  clear A30
  obtain rfl := Option.some.inj H
  go_enter Tryz.func98, Tryz.ntmps98
  go_wp2_with (first | ((with_reducible refine gate_callee (f := 142) rfl ?_); refine goesL_ (some 5) rfl rfl Tryz.func142 (by kernel_rfl) rfl #[.string a0] rfl (by (try simp only [List.map_toArray, List.map_cons, List.map_nil]); first | done | rfl | (simp only [List.length_drop, List.length_take]; rfl)) ?_; (with_reducible refine (integer_read.calls k a0 t166 t167 _ A2.out).mono ?_); rintro e w4 ⟨v168, rfl, ho0, hb⟩; refine ⟨_, rfl, ?_⟩; have n0_ := Aside0.mk (Kd.R_lower ho0 (below_size (by repeat (first | (with_reducible first | exact HB.out | apply below_alloc | apply pw_below_drewN | apply below_drew1) | exact HB.out)))); have n1_ := Aside0.mk (below_step (by repeat (first | (with_reducible first | exact HB.out | apply below_alloc | apply pw_below_drewN | apply below_drew1) | exact HB.out)) hb); clear HB; have HO169 := n0_; have HB := n1_; clear n0_ n1_; (try clear hb); (try clear hb2); (try clear hk); (try clear hi); (try clear ho0)) | ((with_reducible refine gate_dst (N := 3) rfl ?_); refine box_event ?hg (N := 3) ?hd (cs := #[.bool false, .slice none 0 0]) (t := 183) ?hr ?_; (case hd => rfl); (case hg => rfl); (case hr => first | (go_simp; done) | (go_simp; rfl)); intro gb170 hg w5 hbox hb; have n0_ := Aside0.mk (Kd.R_below (by (with_reducible repeat (first | apply Kd.R_alloc | apply Kd.R_drewN | apply Kd.R_drew)); exact HO169.out) hb); have n1_ := Aside0.mk (below_step (by repeat (first | (with_reducible first | exact HB.out | apply below_alloc | apply pw_below_drewN | apply below_drew1) | exact HB.out)) hb); have n2_ := Aside0.mk (hbox); have n3_ := Aside0.mk ((by rw [hg]; exact (below_size (by repeat (first | (with_reducible first | exact HB.out | apply below_alloc | apply pw_below_drewN | apply below_drew1) | exact HB.out))) : w.heap.size ≤ gb170)); have n4_ := Aside0.mk ((by rw [hg]; exact (below_size (by repeat (first | (with_reducible first | exact HB.out | apply below_alloc | apply pw_below_drewN | apply below_drew1) | exact HB.out))) : w.heap.size ≤ gb170)); clear HO169; clear HB; have HO169 := n0_; have HB := n1_; have BK170 := n2_; have GW170 := n3_; have GE170 := n4_; clear n0_ n1_ n2_ n3_ n4_; clear hb hbox hg; have hcz6_0 : w5.cell? ⟨gb170, 0, none⟩ = some (.bool false) := (blk_cell BK170.out 0).trans rfl; have hcz6_1 : w5.cell? ⟨gb170, 1, none⟩ = some (.slice none 0 0) := (blk_cell BK170.out 1).trans rfl; have hfz6_0 := blk_frozen BK170.out 0; have hfz6_1 := blk_frozen BK170.out 1; obtain ⟨Ao7, co7, eo7⟩ := Kd.R_slice HO169.out; subst eo7) | ((with_reducible refine gate_callee (f := 143) rfl ?_); refine goesL_ (some 11) rfl rfl Tryz.func143 (by kernel_rfl) rfl #[.agg #[.bool (!t166), .slice Ao7 t167.length co7]] rfl (by (try simp only [List.map_toArray, List.map_cons, List.map_nil]); first | done | rfl | (simp only [List.length_drop, List.length_take]; rfl)) ?_; (with_reducible refine (integer_number_text.calls (!t166) _ _ t167 t171 _ (HL.out.below (by repeat (first | (with_reducible first | exact HB.out | apply below_alloc | apply pw_below_drewN | apply below_drew1) | exact HB.out | refine below_set ?_ (Aside0.out (by assumption))))) ?side1 ?side2 A3.out).mono ?_); (case side1 => refine (Kd.R_reads' (e := 198) (base := w.heap.size) (ok := fun k_ => True) (n := t167.length) (c := co7) ?_).2.2; exact (by (with_reducible repeat (first | apply Kd.R_alloc | apply Kd.R_drewN | apply Kd.R_drew)); exact (Kd.R_mono (Kd.R_far (p := ⟨gb170, 0, none⟩) (Kd.R_far (p := ⟨gb170, 1, none⟩) (Kd.R_far (p := ⟨gb170, 0, none⟩) (Kd.R_types HO169.out BK170.out (by decide)) (fun _ hk => hk.2) (.bool t166)) (fun _ hk => hk.2) (.slice Ao7 t167.length co7)) (fun _ hk => hk.2) (.bool (!t166))) (fun _ h_ => h_.1)))); (case side2 => exact (Kd.R_reads' HO169.out).2.1); rintro e w8 ⟨rfl, hb⟩; refine ⟨_, rfl, ?_⟩; have n0_ := Aside0.mk (Kd.R_below (by (with_reducible repeat (first | apply Kd.R_alloc | apply Kd.R_drewN | apply Kd.R_drew)); exact (Kd.R_mono (Kd.R_far (p := ⟨gb170, 0, none⟩) (Kd.R_far (p := ⟨gb170, 1, none⟩) (Kd.R_far (p := ⟨gb170, 0, none⟩) (Kd.R_types HO169.out BK170.out (by decide)) (fun _ hk => hk.2) (.bool t166)) (fun _ hk => hk.2) (.slice Ao7 t167.length co7)) (fun _ hk => hk.2) (.bool (!t166))) (fun _ h_ => h_.1))) hb); have n1_ := Aside0.mk (blk_below (g := gb170) (o := .cells #[.bool (!t166), .slice Ao7 t167.length co7] 183 (0, 0)) (by (with_reducible repeat (first | refine blk_drewN ?_ _ | refine blk_drew ?_ | refine blk_alloc ?_ _)); refine blk_put (cs := #[.bool t166, .slice Ao7 t167.length co7]) ?_ 0 _ rfl; (with_reducible repeat (first | refine blk_drewN ?_ _ | refine blk_drew ?_ | refine blk_alloc ?_ _)); refine blk_put (cs := #[.bool t166, .slice none 0 0]) ?_ 1 _ rfl; (with_reducible repeat (first | refine blk_drewN ?_ _ | refine blk_drew ?_ | refine blk_alloc ?_ _)); refine blk_put (cs := #[.bool false, .slice none 0 0]) ?_ 0 _ rfl; (with_reducible repeat (first | refine blk_drewN ?_ _ | refine blk_drew ?_ | refine blk_alloc ?_ _)); exact BK170.out) hb); have n2_ := Aside0.mk (below_step (by repeat (first | (with_reducible first | exact HB.out | apply below_alloc | apply pw_below_drewN | apply below_drew1 | refine below_set ?_ GE170.out) | exact HB.out)) hb); clear HO169; clear BK170; clear HB; have HO169 := n0_; have BK170 := n1_; have HB := n2_; clear n0_ n1_ n2_; (try clear hb); (try clear hb2); (try clear hk); (try clear hi)))
  go_ret
  exact ⟨by first | rfl | (simp [errW_none, errW_some] <;> rfl) | (simp [*, errW_none, errW_some] <;> rfl), by repeat (first | (with_reducible first | exact HB.out | apply below_alloc | apply pw_below_drewN | apply below_drew1 | refine below_set ?_ GE170.out) | exact HB.out)⟩
end Go.Proofs.YtblcgcibkikgeaaGreatDoor.I
end
section
namespace Go.Proofs.YtblcgcibkikgeaaGreatDoor.I
open Go.RowKit Go.Proofs.YtblcgcibkikgeaaGreatDoorW.PrintWords Go.Proofs.YtblcgcibkikgeaaGreatDoorW.PrintLast Go.Proofs.YtblcgcibkikgeaaGreatDoorW.PrintMore Go.Proofs.YtblcgcibkikgeaaGreatDoor.K Go.Proofs.YtblcgcibkikgeaaGreatDoor.G1
attribute [local go_sem] max2_int min2_int max_two min_two max_three min_three max_four min_four
set_option linter.unusedVariables false
set_option linter.unusedSimpArgs false
end Go.Proofs.YtblcgcibkikgeaaGreatDoor.I
end
section
namespace Go.Proofs.YtblcgcibkikgeaaGreatDoor.I
open Go.RowKit Go.Proofs.YtblcgcibkikgeaaGreatDoorW.PrintWords Go.Proofs.YtblcgcibkikgeaaGreatDoorW.PrintLast Go.Proofs.YtblcgcibkikgeaaGreatDoorW.PrintMore Go.Proofs.YtblcgcibkikgeaaGreatDoor.K Go.Proofs.YtblcgcibkikgeaaGreatDoor.G1
attribute [local go_sem] max2_int min2_int max_two min_two max_three min_three max_four min_four
set_option linter.unusedVariables false
set_option linter.unusedSimpArgs false
end Go.Proofs.YtblcgcibkikgeaaGreatDoor.I
end
section
namespace Go.Proofs.YtblcgcibkikgeaaGreatDoor.I
open Go.RowKit Go.Proofs.YtblcgcibkikgeaaGreatDoorW.PrintWords Go.Proofs.YtblcgcibkikgeaaGreatDoorW.PrintLast Go.Proofs.YtblcgcibkikgeaaGreatDoorW.PrintMore Go.Proofs.YtblcgcibkikgeaaGreatDoor.K Go.Proofs.YtblcgcibkikgeaaGreatDoor.G1
attribute [local go_sem] max2_int min2_int max_two min_two max_three min_three max_four min_four
set_option linter.unusedVariables false
set_option linter.unusedSimpArgs false
end Go.Proofs.YtblcgcibkikgeaaGreatDoor.I
end
section
namespace Go.Proofs.YtblcgcibkikgeaaGreatDoor.I
open Go.RowKit Go.Proofs.YtblcgcibkikgeaaGreatDoorW.PrintWords Go.Proofs.YtblcgcibkikgeaaGreatDoorW.PrintLast Go.Proofs.YtblcgcibkikgeaaGreatDoorW.PrintMore Go.Proofs.YtblcgcibkikgeaaGreatDoor.K Go.Proofs.YtblcgcibkikgeaaGreatDoor.G1
attribute [local go_sem] max2_int min2_int max_two min_two max_three min_three max_four min_four
set_option linter.unusedVariables false
set_option linter.unusedSimpArgs false
def integer_Canonical.f (a0 : ByteArray) : Option (ByteArray) := (integer_digits.f a0).bind fun bt209 => (if bt209.2 = true then (if 1 + bt209.1.size ≤ 9223372036854775807 then (some ((⟨#[45]⟩ : ByteArray) ++ bt209.1)) else (none)) else (some bt209.1))
set_option maxHeartbeats 8000000 in
set_option maxRecDepth 100000 in
theorem integer_Canonical.calls (a0 : ByteArray) (r : ByteArray) (w : World) (h : integer_Canonical.f a0 = some r) :
    Calls Tryz.prog 96 #[.string a0] w fun e w' => e = .returned (.string r) ∧ Below w.heap.size w w' := by
  have HB := Aside0.mk (Below.refl w.heap.size w)
  have H : ((integer_digits.f a0).bind fun bt209 => (if bt209.2 = true then (if 1 + bt209.1.size ≤ 9223372036854775807 then (some ((⟨#[45]⟩ : ByteArray) ++ bt209.1)) else (none)) else (some bt209.1))) = some r := h
  clear h
  replace H := Option.bind_eq_some_iff.mp H
  obtain ⟨⟨t209, t210⟩, A20, H⟩ := H
  replace H : (if t210 = true then (if 1 + t209.size ≤ 9223372036854775807 then (some ((⟨#[45]⟩ : ByteArray) ++ t209)) else (none)) else (some t209)) = some r := H
  have A2 := Aside0.mk A20
  clear A20
  by_cases c3 : t210 = true
  · subst c3
    have H1 : (if 1 + t209.size ≤ 9223372036854775807 then (some ((⟨#[45]⟩ : ByteArray) ++ t209)) else (none)) = some r := by rw [if_pos rfl] at H; exact H
    clear H
    have H := H1
    clear H1
    by_cases c4 : 1 + t209.size ≤ 9223372036854775807
    · rw [if_pos c4] at H
      have c4b0 := eq_true c4
      have c4b1 : decide (1 + t209.size ≤ 9223372036854775807) = true := decide_eq_true c4
      try have c4b2 : (9223372036854775807 < 1 + t209.size) = False := eq_false (Nat.not_lt.2 c4)
      obtain rfl := Option.some.inj H
      go_enter Tryz.func96, Tryz.ntmps96
      go_wp2_with (first | ((with_reducible refine gate_callee (f := 139) rfl ?_); refine goesL_ (some 7) rfl rfl Tryz.func139 (by kernel_rfl) rfl #[.string a0] rfl (by (try simp only [List.map_toArray, List.map_cons, List.map_nil]); first | done | rfl | (simp only [List.length_drop, List.length_take]; rfl)) ?_; (with_reducible refine (integer_digits.calls a0 t209 true _ A2.out).mono ?_); rintro e w5 ⟨rfl, hb⟩; refine ⟨_, rfl, ?_⟩; have n0_ := Aside0.mk (below_step (by repeat (first | (with_reducible first | exact HB.out | apply below_alloc | apply pw_below_drewN | apply below_drew1) | exact HB.out)) hb); clear HB; have HB := n0_; clear n0_; (try clear hb); (try clear hb2); (try clear hk); (try clear hi)))
      go_ret
      exact ⟨by first | rfl | (simp [errW_none, errW_some] <;> rfl) | (simp [*, errW_none, errW_some] <;> rfl), by repeat (first | (with_reducible first | exact HB.out | apply below_alloc | apply pw_below_drewN | apply below_drew1) | exact HB.out)⟩
    · rw [if_neg c4] at H
      exact absurd H (by simp)
  · replace c3 := Bool.eq_false_iff.mpr c3
    subst c3
    have H1 : (some t209) = some r := by rw [if_neg (show ¬ (false = true) by decide)] at H; exact H
    clear H
    have H := H1
    clear H1
    obtain rfl := Option.some.inj H
    go_enter Tryz.func96, Tryz.ntmps96
    go_wp2_with (first | ((with_reducible refine gate_callee (f := 139) rfl ?_); refine goesL_ (some 7) rfl rfl Tryz.func139 (by kernel_rfl) rfl #[.string a0] rfl (by (try simp only [List.map_toArray, List.map_cons, List.map_nil]); first | done | rfl | (simp only [List.length_drop, List.length_take]; rfl)) ?_; (with_reducible refine (integer_digits.calls a0 t209 false _ A2.out).mono ?_); rintro e w6 ⟨rfl, hb⟩; refine ⟨_, rfl, ?_⟩; have n0_ := Aside0.mk (below_step (by repeat (first | (with_reducible first | exact HB.out | apply below_alloc | apply pw_below_drewN | apply below_drew1) | exact HB.out)) hb); clear HB; have HB := n0_; clear n0_; (try clear hb); (try clear hb2); (try clear hk); (try clear hi)))
    go_ret
    exact ⟨by first | rfl | (simp [errW_none, errW_some] <;> rfl) | (simp [*, errW_none, errW_some] <;> rfl), by repeat (first | (with_reducible first | exact HB.out | apply below_alloc | apply pw_below_drewN | apply below_drew1) | exact HB.out)⟩
end Go.Proofs.YtblcgcibkikgeaaGreatDoor.I
end
section
namespace Go.Proofs.YtblcgcibkikgeaaGreatDoor.I
open Go.RowKit Go.Proofs.YtblcgcibkikgeaaGreatDoorW.PrintWords Go.Proofs.YtblcgcibkikgeaaGreatDoorW.PrintLast Go.Proofs.YtblcgcibkikgeaaGreatDoorW.PrintMore Go.Proofs.YtblcgcibkikgeaaGreatDoor.K Go.Proofs.YtblcgcibkikgeaaGreatDoor.G1
attribute [local go_sem] max2_int min2_int max_two min_two max_three min_three max_four min_four
set_option linter.unusedVariables false
set_option linter.unusedSimpArgs false
def integer_Check.f (a0 : ByteArray) : Option (Int) := (integer_Canonical.f a0).bind fun t211 => (if a0.toList = t211.toList then (some 0) else (some 1))
set_option maxHeartbeats 8000000 in
set_option maxRecDepth 100000 in
theorem integer_Check.calls (a0 : ByteArray) (r : Int) (w : World) (h : integer_Check.f a0 = some r) :
    Calls Tryz.prog 44 #[.string a0] w fun e w' => e = .returned (.int .i64 r) ∧ Below w.heap.size w w' := by
  have HB := Aside0.mk (Below.refl w.heap.size w)
  have H : ((integer_Canonical.f a0).bind fun t211 => (if a0.toList = t211.toList then (some 0) else (some 1))) = some r := h
  clear h
  replace H := Option.bind_eq_some_iff.mp H
  obtain ⟨t211, A20, H⟩ := H
  replace H : (if a0.toList = t211.toList then (some 0) else (some 1)) = some r := H
  have A2 := Aside0.mk A20
  clear A20
  by_cases c3 : a0.toList = t211.toList
  · rw [if_pos c3] at H
    have c3b0 : (a0.toList == t211.toList) = true := beq_iff_eq.mpr c3
    have c3b1 : (a0.toList != t211.toList) = false := bne_eq_false_iff_eq.mpr c3
    clear c3
    obtain rfl := Option.some.inj H
    go_enter Tryz.func44, Tryz.ntmps44
    go_wp2_with (first | ((with_reducible refine gate_callee (f := 96) rfl ?_); refine goesL_ (some 5) rfl rfl Tryz.func96 (by kernel_rfl) rfl #[.string a0] rfl (by (try simp only [List.map_toArray, List.map_cons, List.map_nil]); first | done | rfl | (simp only [List.length_drop, List.length_take]; rfl)) ?_; (with_reducible refine (integer_Canonical.calls a0 t211 _ A2.out).mono ?_); rintro e w4 ⟨rfl, hb⟩; refine ⟨_, rfl, ?_⟩; have n0_ := Aside0.mk (below_step (by repeat (first | (with_reducible first | exact HB.out | apply below_alloc | apply pw_below_drewN | apply below_drew1) | exact HB.out)) hb); clear HB; have HB := n0_; clear n0_; (try clear hb); (try clear hb2); (try clear hk); (try clear hi)))
    go_ret
    exact ⟨by first | rfl | (simp [errW_none, errW_some] <;> rfl) | (simp [*, errW_none, errW_some] <;> rfl), by repeat (first | (with_reducible first | exact HB.out | apply below_alloc | apply pw_below_drewN | apply below_drew1) | exact HB.out)⟩
  · rw [if_neg c3] at H
    have c3b0 : (a0.toList == t211.toList) = false := beq_eq_false_iff_ne.mpr c3
    have c3b1 : (a0.toList != t211.toList) = true := bne_iff_ne.mpr c3
    obtain rfl := Option.some.inj H
    go_enter Tryz.func44, Tryz.ntmps44
    go_wp2_with (first | ((with_reducible refine gate_callee (f := 96) rfl ?_); refine goesL_ (some 5) rfl rfl Tryz.func96 (by kernel_rfl) rfl #[.string a0] rfl (by (try simp only [List.map_toArray, List.map_cons, List.map_nil]); first | done | rfl | (simp only [List.length_drop, List.length_take]; rfl)) ?_; (with_reducible refine (integer_Canonical.calls a0 t211 _ A2.out).mono ?_); rintro e w5 ⟨rfl, hb⟩; refine ⟨_, rfl, ?_⟩; have n0_ := Aside0.mk (below_step (by repeat (first | (with_reducible first | exact HB.out | apply below_alloc | apply pw_below_drewN | apply below_drew1) | exact HB.out)) hb); clear HB; have HB := n0_; clear n0_; (try clear hb); (try clear hb2); (try clear hk); (try clear hi)))
    go_ret
    exact ⟨by first | rfl | (simp [errW_none, errW_some] <;> rfl) | (simp [*, errW_none, errW_some] <;> rfl), by repeat (first | (with_reducible first | exact HB.out | apply below_alloc | apply pw_below_drewN | apply below_drew1) | exact HB.out)⟩
end Go.Proofs.YtblcgcibkikgeaaGreatDoor.I
end
section
namespace Go.Proofs.YtblcgcibkikgeaaGreatDoor.I
open Go.RowKit Go.Proofs.YtblcgcibkikgeaaGreatDoorW.PrintWords Go.Proofs.YtblcgcibkikgeaaGreatDoorW.PrintLast Go.Proofs.YtblcgcibkikgeaaGreatDoorW.PrintMore Go.Proofs.YtblcgcibkikgeaaGreatDoor.K Go.Proofs.YtblcgcibkikgeaaGreatDoor.G1
attribute [local go_sem] max2_int min2_int max_two min_two max_three min_three max_four min_four
set_option linter.unusedVariables false
set_option linter.unusedSimpArgs false
def integer_Print.f (a0 : ByteArray) : Option (ByteArray) := (integer_Canonical.f a0).bind fun t212 => (if t212.toList = ([] : List UInt8) then (some (⟨#[48]⟩ : ByteArray)) else (some t212))
set_option maxHeartbeats 8000000 in
set_option maxRecDepth 100000 in
theorem integer_Print.calls (a0 : ByteArray) (r : ByteArray) (w : World) (h : integer_Print.f a0 = some r) :
    Calls Tryz.prog 134 #[.string a0] w fun e w' => e = .returned (.string r) ∧ Below w.heap.size w w' := by
  have HB := Aside0.mk (Below.refl w.heap.size w)
  have H : ((integer_Canonical.f a0).bind fun t212 => (if t212.toList = ([] : List UInt8) then (some (⟨#[48]⟩ : ByteArray)) else (some t212))) = some r := h
  clear h
  replace H := Option.bind_eq_some_iff.mp H
  obtain ⟨t212, A20, H⟩ := H
  replace H : (if t212.toList = ([] : List UInt8) then (some (⟨#[48]⟩ : ByteArray)) else (some t212)) = some r := H
  have A2 := Aside0.mk A20
  clear A20
  by_cases c3 : t212.toList = ([] : List UInt8)
  · rw [if_pos c3] at H
    have c3b0 : (t212.toList == ([] : List UInt8)) = true := beq_iff_eq.mpr c3
    have c3b1 : (t212.toList != ([] : List UInt8)) = false := bne_eq_false_iff_eq.mpr c3
    clear c3
    obtain rfl := Option.some.inj H
    go_enter Tryz.func134, Tryz.ntmps134
    go_wp2_with (first | ((with_reducible refine gate_callee (f := 96) rfl ?_); refine goesL_ (some 5) rfl rfl Tryz.func96 (by kernel_rfl) rfl #[.string a0] rfl (by (try simp only [List.map_toArray, List.map_cons, List.map_nil]); first | done | rfl | (simp only [List.length_drop, List.length_take]; rfl)) ?_; (with_reducible refine (integer_Canonical.calls a0 t212 _ A2.out).mono ?_); rintro e w4 ⟨rfl, hb⟩; refine ⟨_, rfl, ?_⟩; have n0_ := Aside0.mk (below_step (by repeat (first | (with_reducible first | exact HB.out | apply below_alloc | apply pw_below_drewN | apply below_drew1) | exact HB.out)) hb); clear HB; have HB := n0_; clear n0_; (try clear hb); (try clear hb2); (try clear hk); (try clear hi)))
    go_ret
    exact ⟨by first | rfl | (simp [errW_none, errW_some] <;> rfl) | (simp [*, errW_none, errW_some] <;> rfl), by repeat (first | (with_reducible first | exact HB.out | apply below_alloc | apply pw_below_drewN | apply below_drew1) | exact HB.out)⟩
  · rw [if_neg c3] at H
    have c3b0 : (t212.toList == ([] : List UInt8)) = false := beq_eq_false_iff_ne.mpr c3
    have c3b1 : (t212.toList != ([] : List UInt8)) = true := bne_iff_ne.mpr c3
    obtain rfl := Option.some.inj H
    go_enter Tryz.func134, Tryz.ntmps134
    go_wp2_with (first | ((with_reducible refine gate_callee (f := 96) rfl ?_); refine goesL_ (some 5) rfl rfl Tryz.func96 (by kernel_rfl) rfl #[.string a0] rfl (by (try simp only [List.map_toArray, List.map_cons, List.map_nil]); first | done | rfl | (simp only [List.length_drop, List.length_take]; rfl)) ?_; (with_reducible refine (integer_Canonical.calls a0 t212 _ A2.out).mono ?_); rintro e w5 ⟨rfl, hb⟩; refine ⟨_, rfl, ?_⟩; have n0_ := Aside0.mk (below_step (by repeat (first | (with_reducible first | exact HB.out | apply below_alloc | apply pw_below_drewN | apply below_drew1) | exact HB.out)) hb); clear HB; have HB := n0_; clear n0_; (try clear hb); (try clear hb2); (try clear hk); (try clear hi)))
    go_ret
    exact ⟨by first | rfl | (simp [errW_none, errW_some] <;> rfl) | (simp [*, errW_none, errW_some] <;> rfl), by repeat (first | (with_reducible first | exact HB.out | apply below_alloc | apply pw_below_drewN | apply below_drew1) | exact HB.out)⟩
end Go.Proofs.YtblcgcibkikgeaaGreatDoor.I
end
section
namespace Go.Proofs.YtblcgcibkikgeaaGreatDoor.I
open Go.RowKit Go.Proofs.YtblcgcibkikgeaaGreatDoorW.PrintWords Go.Proofs.YtblcgcibkikgeaaGreatDoorW.PrintLast Go.Proofs.YtblcgcibkikgeaaGreatDoorW.PrintMore Go.Proofs.YtblcgcibkikgeaaGreatDoor.K Go.Proofs.YtblcgcibkikgeaaGreatDoor.G1
attribute [local go_sem] max2_int min2_int max_two min_two max_three min_three max_four min_four
set_option linter.unusedVariables false
set_option linter.unusedSimpArgs false
def integer_Parse.f (a0 : ByteArray) : Option (ByteArray × Int) := if (a0.size : Int) > 65536 then (some ((⟨#[]⟩ : ByteArray), 4)) else ((integer_Print.f a0).bind fun t213 => (if t213.toList = a0.toList then ((integer_Canonical.f a0).bind fun t214 => (some (t214, 0))) else (some ((⟨#[]⟩ : ByteArray), 3))))
set_option maxHeartbeats 8000000 in
set_option maxRecDepth 100000 in
theorem integer_Parse.calls (a0 : ByteArray) (r1 : ByteArray) (r2 : Int) (w : World) (h : integer_Parse.f a0 = some (r1, r2)) :
    Calls Tryz.prog 178 #[.string a0] w fun e w' => e = .returned (.tuple #[.string r1, .int .i64 r2]) ∧ Below w.heap.size w w' := by
  have HB := Aside0.mk (Below.refl w.heap.size w)
  have H : (if (a0.size : Int) > 65536 then (some ((⟨#[]⟩ : ByteArray), 4)) else ((integer_Print.f a0).bind fun t213 => (if t213.toList = a0.toList then ((integer_Canonical.f a0).bind fun t214 => (some (t214, 0))) else (some ((⟨#[]⟩ : ByteArray), 3))))) = some (r1, r2) := h
  clear h
  by_cases c2 : (a0.size : Int) > 65536
  · rw [if_pos c2] at H
    have c2b0 : decide (65536 < (a0.size : Int)) = true := decide_eq_true c2
    have c2b1 : decide (65536 < a0.size) = true := decide_eq_true (by omega)
    clear c2
    simp only [Option.some.injEq, Prod.mk.injEq] at H
    obtain ⟨rfl, rfl⟩ := H
    go_enter Tryz.func178, Tryz.ntmps178
    go_wp2
    go_ret2
    exact ⟨by first | rfl | (simp [errW_none, errW_some] <;> rfl) | (simp [*, errW_none, errW_some] <;> rfl), by repeat (first | (with_reducible first | exact HB.out | apply below_alloc | apply pw_below_drewN | apply below_drew1) | exact HB.out)⟩
  · rw [if_neg c2] at H
    have c2b0 : decide (65536 < (a0.size : Int)) = false := decide_eq_false c2
    have c2b1 : decide (65536 < a0.size) = false := decide_eq_false (by omega)
    clear c2
    replace H := Option.bind_eq_some_iff.mp H
    obtain ⟨t213, A30, H⟩ := H
    replace H : (if t213.toList = a0.toList then ((integer_Canonical.f a0).bind fun t214 => (some (t214, 0))) else (some ((⟨#[]⟩ : ByteArray), 3))) = some (r1, r2) := H
    have A3 := Aside0.mk A30
    clear A30
    by_cases c4 : t213.toList = a0.toList
    · rw [if_pos c4] at H
      have c4b0 : (t213.toList == a0.toList) = true := beq_iff_eq.mpr c4
      have c4b1 : (t213.toList != a0.toList) = false := bne_eq_false_iff_eq.mpr c4
      clear c4
      replace H := Option.bind_eq_some_iff.mp H
      obtain ⟨t214, A50, H⟩ := H
      replace H : (some (t214, 0)) = some (r1, r2) := H
      have A5 := Aside0.mk A50
      clear A50
      simp only [Option.some.injEq, Prod.mk.injEq] at H
      obtain ⟨rfl, rfl⟩ := H
      go_enter Tryz.func178, Tryz.ntmps178
      go_wp2_with (first | ((with_reducible refine gate_callee (f := 134) rfl ?_); refine goesL_ (some 8) rfl rfl Tryz.func134 (by kernel_rfl) rfl #[.string a0] rfl (by (try simp only [List.map_toArray, List.map_cons, List.map_nil]); first | done | rfl | (simp only [List.length_drop, List.length_take]; rfl)) ?_; (with_reducible refine (integer_Print.calls a0 t213 _ A3.out).mono ?_); rintro e w6 ⟨rfl, hb⟩; refine ⟨_, rfl, ?_⟩; have n0_ := Aside0.mk (below_step (by repeat (first | (with_reducible first | exact HB.out | apply below_alloc | apply pw_below_drewN | apply below_drew1) | exact HB.out)) hb); clear HB; have HB := n0_; clear n0_; (try clear hb); (try clear hb2); (try clear hk); (try clear hi)) | ((with_reducible refine gate_callee (f := 96) rfl ?_); refine goesL_ (some 12) rfl rfl Tryz.func96 (by kernel_rfl) rfl #[.string a0] rfl (by (try simp only [List.map_toArray, List.map_cons, List.map_nil]); first | done | rfl | (simp only [List.length_drop, List.length_take]; rfl)) ?_; (with_reducible refine (integer_Canonical.calls a0 t214 _ A5.out).mono ?_); rintro e w7 ⟨rfl, hb⟩; refine ⟨_, rfl, ?_⟩; have n0_ := Aside0.mk (below_step (by repeat (first | (with_reducible first | exact HB.out | apply below_alloc | apply pw_below_drewN | apply below_drew1) | exact HB.out)) hb); clear HB; have HB := n0_; clear n0_; (try clear hb); (try clear hb2); (try clear hk); (try clear hi)))
      go_ret2
      exact ⟨by first | rfl | (simp [errW_none, errW_some] <;> rfl) | (simp [*, errW_none, errW_some] <;> rfl), by repeat (first | (with_reducible first | exact HB.out | apply below_alloc | apply pw_below_drewN | apply below_drew1) | exact HB.out)⟩
    · rw [if_neg c4] at H
      have c4b0 : (t213.toList == a0.toList) = false := beq_eq_false_iff_ne.mpr c4
      have c4b1 : (t213.toList != a0.toList) = true := bne_iff_ne.mpr c4
      simp only [Option.some.injEq, Prod.mk.injEq] at H
      obtain ⟨rfl, rfl⟩ := H
      go_enter Tryz.func178, Tryz.ntmps178
      go_wp2_with (first | ((with_reducible refine gate_callee (f := 134) rfl ?_); refine goesL_ (some 8) rfl rfl Tryz.func134 (by kernel_rfl) rfl #[.string a0] rfl (by (try simp only [List.map_toArray, List.map_cons, List.map_nil]); first | done | rfl | (simp only [List.length_drop, List.length_take]; rfl)) ?_; (with_reducible refine (integer_Print.calls a0 t213 _ A3.out).mono ?_); rintro e w8 ⟨rfl, hb⟩; refine ⟨_, rfl, ?_⟩; have n0_ := Aside0.mk (below_step (by repeat (first | (with_reducible first | exact HB.out | apply below_alloc | apply pw_below_drewN | apply below_drew1) | exact HB.out)) hb); clear HB; have HB := n0_; clear n0_; (try clear hb); (try clear hb2); (try clear hk); (try clear hi)))
      go_ret2
      exact ⟨by first | rfl | (simp [errW_none, errW_some] <;> rfl) | (simp [*, errW_none, errW_some] <;> rfl), by repeat (first | (with_reducible first | exact HB.out | apply below_alloc | apply pw_below_drewN | apply below_drew1) | exact HB.out)⟩
end Go.Proofs.YtblcgcibkikgeaaGreatDoor.I
end
section
namespace Go.Proofs.YtblcgcibkikgeaaGreatDoor.I
set_option linter.unusedVariables false
open Go.RowKit Go.Proofs.YtblcgcibkikgeaaGreatDoorW.PrintWords Go.Proofs.YtblcgcibkikgeaaGreatDoorW.PrintLast Go.Proofs.YtblcgcibkikgeaaGreatDoorW.PrintMore Go.Proofs.YtblcgcibkikgeaaGreatDoor.K Go.Proofs.YtblcgcibkikgeaaGreatDoor.G1 Go.Proofs.YtblcgcibkikgeaaGreatDoor.P
theorem w64 {n : Int} (h1 : -9223372036854775808 ≤ n) (h2 : n < 9223372036854775808) : wrap64 n = n := by unfold wrap64; omega
theorem u64w {n : Int} (h1 : 0 ≤ n) (h2 : n < 18446744073709551616) : IntKind.u64.wrap n = n := by
  unfold IntKind.wrap
  simp only [IntKind.bits, IntKind.signed, Bool.false_and, Bool.false_eq_true, if_false]
  have : (2 : Int) ^ 64 = 18446744073709551616 := by decide
  rw [this]; omega
theorem rd_nat (l : List Int) (i : Nat) : rd l (i : Int) = l.getD i 0 := by unfold rd; rw [Int.toNat_natCast]
theorem okG_get {l : List Int} (h : okG l) (i : Nat) : 0 ≤ l.getD i 0 ∧ l.getD i 0 < 1000000000 := by
  rw [List.getD_eq_getElem?_getD]
  rcases Nat.lt_or_ge i l.length with hi | hi
  · rw [List.getElem?_eq_getElem hi]; exact h _ (List.getElem_mem hi)
  · rw [List.getElem?_eq_none hi]; simp
theorem okG_set {l : List Int} (h : okG l) (i : Nat) {v : Int} (h0 : 0 ≤ v) (h1 : v < 1000000000) : okG (l.set i v) := by
  intro g hg
  rcases List.mem_or_eq_of_mem_set hg with hm | rfl
  · exact h g hm
  · exact ⟨h0, h1⟩
theorem gval_set {l : List Int} {i : Nat} (hi : i < l.length) (v : Int) : gval (l.set i v) = gval l + B9 i * (v - l.getD i 0) := by
  induction l generalizing i with
  | nil => simp at hi
  | cons a l ih =>
    cases i with
    | zero => simp [gval, B9_zero]; omega
    | succ i =>
      rw [List.set_cons_succ, gval, ih (by simpa using hi), gval, B9_succ]
      simp only [List.getD_cons_succ]
      grind
theorem getD_set {l : List Int} {i j : Nat} (v : Int) : (l.set i v).getD j 0 = if i = j ∧ i < l.length then v else l.getD j 0 := by
  rw [List.getD_eq_getElem?_getD, List.getD_eq_getElem?_getD, List.getElem?_set]
  split
  · rename_i h
    subst h
    split
    · rename_i h; simp [h]
    · rename_i h; rw [if_neg (by simp [h]), List.getElem?_eq_none (by omega)]
  · rename_i h; rw [if_neg (by simp [h])]
theorem tv_succ (l : List Int) (i : Nat) : gval (l.take (i + 1)) = gval (l.take i) + B9 i * l.getD i 0 := by
  rcases Nat.lt_or_ge i l.length with hi | hi
  · rw [List.take_succ_eq_append_getElem hi, gval_append, List.length_take, Nat.min_eq_left (by omega), List.getD_eq_getElem?_getD, List.getElem?_eq_getElem hi]
    simp [gval]
  · rw [List.take_of_length_le (by omega), List.take_of_length_le hi, List.getD_eq_getElem?_getD, List.getElem?_eq_none hi]
    simp
theorem okG_take {l : List Int} (h : okG l) (i : Nat) : okG (l.take i) := fun g hg => h g (List.mem_of_mem_take hg)
theorem cut_f (l : List Int) (hl : l.length ≤ 1000000000000) (k : Nat) (hk : l.length < k) : integer_magnitude_cut.f k l = some (cutG l) := by
  unfold integer_magnitude_cut.f
  induction l using snocRec generalizing k with
  | h0 =>
    cases k with
    | zero => omega
    | succ k => simp [integer_magnitude_cut.l0, cutG_nil]
  | h1 l g ih =>
    cases k with
    | zero => omega
    | succ k =>
      simp only [List.length_append, List.length_cons, List.length_nil] at hl hk
      have e : wrap64 (((l ++ [g]).length : Int) - 1) = (l.length : Int) := by rw [w64] <;> simp <;> omega
      unfold integer_magnitude_cut.l0
      rw [e, if_pos (by simp), if_pos (by omega), if_pos (by simp; omega), rd_nat]
      have e2 : (l ++ [g]).getD l.length 0 = g := by simp
      rw [e2]
      split
      · rename_i hg
        rw [if_pos (by simp; omega), Int.toNat_natCast, List.take_left', hg, cutG_snoc_zero]
        · exact ih (by omega) k (by omega)
        · rfl
      · rename_i hg
        rw [cutG_snoc hg]
theorem read_l (bs : ByteArray) (ng : Bool) (hbs : bs.data.toList.all isDig = true) (hsz : bs.size ≤ 1000000000000) :
    ∀ (n : Nat) (acc : List Int) (j : Int) (k : Nat), (j = (n : Int) ∨ (n = 0 ∧ j ≤ 0)) → -9 ≤ j → n ≤ bs.size → n < k → acc.length + n ≤ 1000000000001 → integer_read.l0 k bs ng acc j = some (ng, acc ++ grp (bs.data.toList.take n)) := by
  intro n
  induction n using Nat.strongRecOn with
  | _ n ih =>
    intro acc j k hj hj9 hn hk hacc
    cases k with
    | zero => omega
    | succ k =>
    have hlen : bs.data.toList.length = bs.size := by rw [Array.length_toList]; rfl
    unfold integer_read.l0
    by_cases h0 : n = 0
    · subst h0
      rw [if_neg (by omega)]
      simp [grp_nil]
    · have hjn : j = (n : Int) := by omega
      subst hjn
      have hlo : mx 0 (wrap64 ((n : Int) - 9)) = ((n - 9 : Nat) : Int) := by
        rw [w64 (by omega) (by omega)]; unfold mx; split <;> omega
      rw [if_pos (by omega), hlo, if_pos (by omega), if_pos (by omega), if_pos (by omega), Int.toNat_natCast, Int.toNat_natCast]
      have hext : (bs.extract (n - 9) n).data.toList = (bs.data.toList.take n).drop (n - 9) := by
        rw [ByteArray.data_extract, Array.toList_extract]
        simp [List.take_drop]
      have hlt : (bs.data.toList.take n).length = n := by rw [List.length_take]; omega
      have hall : (bs.extract (n - 9) n).data.toList.all isDig = true := by
        rw [hext]
        rw [List.all_eq_true] at hbs ⊢
        intro x hx
        exact hbs x (List.mem_of_mem_take (List.mem_of_mem_drop hx))
      have hle : (bs.extract (n - 9) n).data.toList.length = n - (n - 9) := by rw [hext, List.length_drop, hlt]
      unfold strconv_ParseUint.f
      rw [if_pos ⟨rfl, rfl, hall, by omega, by omega⟩, Option.bind_some, if_pos (by omega)]
      have hw : wrap64 ((n : Int) - 9) = (n : Int) - 9 := w64 (by omega) (by omega)
      rw [hw, ih (n - 9) (by omega) _ _ k (by omega) (by omega) (by omega) (by omega) (by simp; omega)]
      have hne : bs.data.toList.take n ≠ [] := by intro e; rw [e] at hlt; simp at hlt; omega
      rw [grp_ne hne, hlt, hext, List.take_take, Nat.min_eq_left (by omega)]
      simp
theorem strip0_len (l : Bs) : (strip0 l).length ≤ l.length := by
  unfold strip0
  exact List.Sublist.length_le (List.dropWhile_sublist _)
theorem unsign_len (l : Bs) : (unsign l).2.length ≤ l.length := by
  unfold unsign; split <;> simp
theorem digs_len (l : Bs) : (digs l).1.length ≤ l.length := by
  unfold digs; split
  · exact Nat.le_trans (strip0_len _) (unsign_len l)
  · simp
theorem list_size (s : ByteArray) : s.data.toList.length = s.size := by rw [Array.length_toList]; rfl
theorem bsz_size (l : Bs) : (bsz l).size = l.length := by unfold bsz; show l.toArray.size = _; simp
theorem read_f (s : ByteArray) (hs : s.size ≤ 1000000000000) (k : Nat) (hk : s.size < k) :
    integer_read.f k s = some ((digs s.data.toList).2, grp (digs s.data.toList).1) := by
  unfold integer_read.f integer_digits.f
  rw [if_pos (by omega), Option.bind_some]
  have h1 := digs_len s.data.toList
  rw [list_size] at h1
  have h2 : (bsz (digs s.data.toList).1).data.toList = (digs s.data.toList).1 := bsz_list _
  rw [read_l _ _ (by rw [h2]; exact digs_all _) (by rw [bsz_size]; omega) (bsz (digs s.data.toList).1).size [] _ k (.inl rfl) (by omega) (Nat.le_refl _) (by rw [bsz_size]; omega) (by rw [bsz_size]; simp; omega)]
  rw [bsz_size, h2, List.take_length]
  rfl
def sv (b : Bool) (l : List Int) : Int := if b then -gval l else gval l
theorem read_facts (s : Bs) : okG (grp (digs s).1) ∧ normG (grp (digs s).1) ∧ sv (digs s).2 (grp (digs s).1) = ival s ∧ (grp (digs s).1).length ≤ s.length := by
  obtain ⟨h1, h2, h3, h4⟩ := grp_facts (digs s).1 (digs_all s)
  have := digs_len s
  refine ⟨h1, h3 (digs_noLead s), ?_, by omega⟩
  unfold sv ival
  rw [h2]
theorem cmp_l (l m : List Int) (hl : okG l) (hm : okG m) (hlen : l.length = m.length) (hsz : l.length ≤ 1000000000000) :
    ∀ (n : Nat) (k : Nat) (j : Int), (n : Int) = j + 1 → n ≤ l.length → n < k → gval (l.drop n) = gval (m.drop n) →
      ∃ t : Int, integer_magnitude_compare.l0 k l m j = some t ∧ -1 ≤ t ∧ t ≤ 1 ∧ (t < 0 ↔ gval l < gval m) ∧ (t = 0 ↔ gval l = gval m) := by
  intro n
  induction n with
  | zero =>
    intro k j hj hn hk hd
    cases k with
    | zero => omega
    | succ k =>
      unfold integer_magnitude_compare.l0
      rw [if_neg (by omega)]
      simp only [List.drop_zero] at hd
      exact ⟨0, rfl, by omega, by omega, by omega, by omega⟩
  | succ n ih =>
    intro k j hj hn hk hd
    cases k with
    | zero => omega
    | succ k =>
      obtain rfl : j = (n : Int) := by omega
      unfold integer_magnitude_compare.l0
      rw [if_pos (by omega), if_pos (by omega), if_pos (by omega), if_pos (by omega), rd_nat, rd_nat]
      have split_ : ∀ x : List Int, n < x.length → gval x = gval (x.take n) + B9 n * (x.getD n 0 + 1000000000 * gval (x.drop (n + 1))) := fun x hx => by
        have h1 : x = x.take n ++ x.drop n := (List.take_append_drop n x).symm
        have h2 : x.drop n = x.getD n 0 :: x.drop (n + 1) := by rw [List.drop_eq_getElem_cons hx, List.getD_eq_getElem?_getD, List.getElem?_eq_getElem hx]; rfl
        conv => lhs; rw [h1, gval_append, List.length_take, Nat.min_eq_left (by omega), h2, gval]
      have e1 := split_ l (by omega)
      have e2 := split_ m (by omega)
      rw [hd] at e1
      have d_ : ∀ u : List Int, n < u.length → gval (u.drop n) = u.getD n 0 + 1000000000 * gval (u.drop (n + 1)) := fun u hu => by
        have h2 : u.drop n = u.getD n 0 :: u.drop (n + 1) := by rw [List.drop_eq_getElem_cons hu, List.getD_eq_getElem?_getD, List.getElem?_eq_getElem hu]; rfl
        rw [h2, gval]
      have d1 := d_ l (by omega)
      have d2 := d_ m (by omega)
      rw [hd] at d1
      have t1 := gval_lt (okG_take hl n)
      have t2 := gval_lt (okG_take hm n)
      rw [List.length_take, Nat.min_eq_left (by omega)] at t1 t2
      have p1 := gval_nonneg (okG_take hl n)
      have p2 := gval_nonneg (okG_take hm n)
      have hb := B9_pos n
      generalize l.getD n 0 = x at e1 d1 ⊢
      generalize m.getD n 0 = y at e2 d2 ⊢
      generalize gval (m.drop (n + 1)) = z at e1 e2 d1 d2
      by_cases hxy : x < y
      · rw [if_pos hxy]
        have : B9 n * (x + 1 + 1000000000 * z) ≤ B9 n * (y + 1000000000 * z) := Int.mul_le_mul_of_nonneg_left (by omega) (by omega)
        have e3 : B9 n * (x + 1 + 1000000000 * z) = B9 n * (x + 1000000000 * z) + B9 n := by grind
        exact ⟨-1, rfl, by omega, by omega, by omega, by omega⟩
      · rw [if_neg hxy]
        by_cases hyx : x > y
        · rw [if_pos hyx]
          have : B9 n * (y + 1 + 1000000000 * z) ≤ B9 n * (x + 1000000000 * z) := Int.mul_le_mul_of_nonneg_left (by omega) (by omega)
          have e3 : B9 n * (y + 1 + 1000000000 * z) = B9 n * (y + 1000000000 * z) + B9 n := by grind
          exact ⟨1, rfl, by omega, by omega, by omega, by omega⟩
        · rw [if_neg hyx]
          obtain rfl : x = y := by omega
          have hw : wrap64 ((n : Int) - 1) = (n : Int) - 1 := w64 (by omega) (by omega)
          rw [hw]
          refine ih k _ (by omega) (by omega) (by omega) ?_
          omega
theorem cmp_f {l m : List Int} (hl : okG l) (hm : okG m) (nl : normG l) (nm : normG m) (h1 : l.length ≤ 1000000000000) (h2 : m.length ≤ 1000000000000) (k : Nat) (hk : l.length < k) :
    ∃ t : Int, integer_magnitude_compare.f k l m = some t ∧ -1000000000000 ≤ t ∧ t ≤ 1000000000000 ∧ (t < 0 ↔ gval l < gval m) ∧ (t = 0 ↔ gval l = gval m) := by
  unfold integer_magnitude_compare.f
  split
  · rename_i he
    have he : l.length = m.length := by omega
    have hw : wrap64 ((l.length : Int) - 1) = (l.length : Int) - 1 := w64 (by omega) (by omega)
    rw [hw]
    obtain ⟨t, e, a, b, c, d⟩ := cmp_l l m hl hm he h1 l.length k ((l.length : Int) - 1) (by omega) (Nat.le_refl _) hk (by rw [List.drop_length, he, List.drop_length])
    exact ⟨t, e, by omega, by omega, c, d⟩
  · rename_i he
    have hw : wrap64 ((l.length : Int) - (m.length : Int)) = (l.length : Int) - m.length := w64 (by omega) (by omega)
    rw [hw]
    refine ⟨_, rfl, by omega, by omega, ?_, ?_⟩
    · rcases Nat.lt_or_ge l.length m.length with h | h
      · have := gval_len hl hm nm h; omega
      · have := gval_len hm hl nl (by omega); omega
    · rcases Nat.lt_or_ge l.length m.length with h | h
      · have := gval_len hl hm nm h; omega
      · have := gval_len hm hl nl (by omega); omega
theorem alg1 (A B a c' c y L T : Int) (hv : A - c * B = L - T) : A + B * (a + 1000000000 * c' - (c + y) - a) - c' * (B * 1000000000) = L - (T + B * y) := by
  have e : B * (a + 1000000000 * c' - (c + y) - a) = c' * (B * 1000000000) - c * B - B * y := by
    rw [show a + 1000000000 * c' - (c + y) - a = 1000000000 * c' - c - y by omega, Int.mul_sub, Int.mul_sub, Int.mul_comm B c, Int.mul_comm B (1000000000 * c'), Int.mul_comm 1000000000 c', Int.mul_assoc, Int.mul_comm 1000000000 B]
  omega
theorem minus_l (l0 m : List Int) (hm : okG m) (hsz : l0.length ≤ 1000000000000) (hml : m.length ≤ l0.length) (hge : gval m ≤ gval l0) :
    ∀ (d i : Nat) (acc : List Int) (c : Int), i + d = l0.length → acc.length = l0.length → okG acc → 0 ≤ c → c ≤ 1 → gval acc - c * B9 i = gval l0 - gval (m.take i) →
      ∀ k, d + l0.length + 1 < k → ∃ r, integer_magnitude_minus.l0 k m acc c (l0.length : Int) (i : Int) = some (cutG r) ∧ r.length = l0.length ∧ okG r ∧ gval r = gval l0 - gval m := by
  intro d
  induction d with
  | zero =>
    intro i acc c hi ha ho h0 h1 hv k hk
    cases k with
    | zero => omega
    | succ k =>
    obtain rfl : i = l0.length := by omega
    unfold integer_magnitude_minus.l0
    rw [if_neg (by omega), cut_f acc (by omega) k (by omega)]
    rw [List.take_of_length_le hml] at hv
    have hb := gval_lt ho
    have hp := gval_nonneg ho
    rw [ha] at hb
    have hc : c = 0 := by
      rcases (by omega : c = 0 ∨ c = 1) with h | h
      · exact h
      · subst h; omega
    subst hc
    exact ⟨acc, rfl, ha, ho, by omega⟩
  | succ d ih =>
    intro i acc c hi ha ho h0 h1 hv k hk
    cases k with
    | zero => omega
    | succ k =>
    have HV := Aside0.mk hv
    clear hv
    have hx := okG_get ho i
    have hy := okG_get hm i
    have HW1 := Aside0.mk (show wrap64 ((i : Int) + 1) = ((i + 1 : Nat) : Int) by rw [w64] <;> omega)
    have hia : i < acc.length := by rw [ha, ← hi]; exact Nat.lt_add_of_pos_right (Nat.succ_pos d)
    have fin : ∀ (v : Int) (c' : Int), 0 ≤ v → v < 1000000000 → 0 ≤ c' → c' ≤ 1 → v = acc.getD i 0 + 1000000000 * c' - (c + m.getD i 0) →
        ∃ r, integer_magnitude_minus.l0 k m (acc.set i v) c' (l0.length : Int) ((i + 1 : Nat) : Int) = some (cutG r) ∧ r.length = l0.length ∧ okG r ∧ gval r = gval l0 - gval m := by
      intro v c' hv0 hv1 hc0 hc1 hve
      refine ih (i + 1) (acc.set i v) c' (by omega) (by rw [List.length_set]; exact ha) (okG_set ho i hv0 hv1) hc0 hc1 ?_ k (by omega)
      rw [gval_set hia, tv_succ m i, B9_succ, hve]
      exact alg1 _ _ _ _ _ _ _ _ HV.out
    have hset : ∀ (u v : Int), (acc.set i u).set i v = acc.set i v := fun u v => List.set_set ..
    have hrd : ∀ u : Int, (acc.set i u).getD i 0 = u := fun u => by rw [getD_set, if_pos ⟨rfl, hia⟩]
    unfold integer_magnitude_minus.l0
    rw [if_pos (by omega)]
    split
    · rename_i him
      rw [if_pos (by omega), if_pos (by omega), rd_nat, rd_nat, Int.toNat_natCast]
      rw [u64w (n := c + m.getD i 0) (by omega) (by omega)]
      split
      · rw [Option.bind_some, rd_nat, hset, hrd, u64w (n := acc.getD i 0 + 1000000000) (by omega) (by omega), u64w (by omega) (by omega), HW1.out]
        exact fin _ 1 (by omega) (by omega) (by omega) (by omega) (by omega)
      · rw [u64w (by omega) (by omega), HW1.out]
        exact fin _ 0 (by omega) (by omega) (by omega) (by omega) (by omega)
    · rename_i him
      have hy0 : m.getD i 0 = 0 := by rw [List.getD_eq_getElem?_getD, List.getElem?_eq_none (by omega)]; rfl
      rw [hy0] at fin
      rw [if_pos (by omega), if_pos (by omega), rd_nat, Int.toNat_natCast]
      split
      · rw [Option.bind_some, rd_nat, hset, hrd, u64w (n := acc.getD i 0 + 1000000000) (by omega) (by omega), u64w (by omega) (by omega), HW1.out]
        exact fin _ 1 (by omega) (by omega) (by omega) (by omega) (by omega)
      · rw [u64w (by omega) (by omega), HW1.out]
        exact fin _ 0 (by omega) (by omega) (by omega) (by omega) (by omega)
theorem len_le {l m : List Int} (hl : okG l) (hm : okG m) (nm : normG m) (h : gval m ≤ gval l) : m.length ≤ l.length := by
  rcases Nat.lt_or_ge l.length m.length with h1 | h1
  · have := gval_len hl hm nm h1; omega
  · exact h1
theorem minus_f {l m : List Int} (hl : okG l) (hm : okG m) (nm : normG m) (h1 : l.length ≤ 1000000000000) (h : gval m ≤ gval l) (k : Nat) (hk : 2 * l.length + 1 < k) :
    ∃ r, integer_magnitude_minus.f k l m = some r ∧ r.length ≤ l.length ∧ okG r ∧ gval r = gval l - gval m := by
  unfold integer_magnitude_minus.f integer_magnitude_uint64.f
  rw [if_pos h1, Option.bind_some]
  obtain ⟨r, e, a, b, c⟩ := minus_l l m hm h1 (len_le hl hm nm h) h l.length 0 l 0 (by omega) rfl hl (by omega) (by omega) (by simp [gval]) k (by omega)
  obtain ⟨f1, f2, f3, _⟩ := cutG_facts r
  exact ⟨_, e, by omega, cutG_ok b, by rw [f1]; exact c⟩
theorem add_f {a b : Bool} {l m : List Int} (hl : okG l) (hm : okG m) (nl : normG l) (nm : normG m) (h1 : l.length ≤ 500000000) (h2 : m.length ≤ 500000000) (k : Nat) (hk : 2 * l.length + 2 * m.length + 1 < k) :
    ∃ c r, integer_add.f k a l b m = some (c, r) ∧ okG r ∧ r.length ≤ 1000000000 ∧ sv c r = sv a l + sv b m := by
  unfold integer_add.f
  have nn1 := gval_nonneg hl
  have nn2 := gval_nonneg hm
  by_cases hab : (a == b) = true
  · rw [if_pos hab]
    have hab : a = b := by simpa using hab
    subst hab
    unfold integer_magnitude_plus.f
    rw [if_pos ⟨hl, hm, by omega, by omega⟩, Option.bind_some]
    by_cases hlt : l.length < m.length
    · rw [if_pos hlt]
      obtain ⟨f1, f2, f3, _⟩ := addC_facts m l 0 hm hl (by omega) (by omega) (by omega)
      refine ⟨_, _, rfl, f1, by omega, ?_⟩
      unfold sv; rw [f2]; split <;> omega
    · rw [if_neg hlt]
      obtain ⟨f1, f2, f3, _⟩ := addC_facts l m 0 hl hm (by omega) (by omega) (by omega)
      refine ⟨_, _, rfl, f1, by omega, ?_⟩
      unfold sv; rw [f2]; split <;> omega
  · rw [if_neg hab]
    obtain ⟨t, e, t1, t2, t3, t4⟩ := cmp_f hl hm nl nm (by omega) (by omega) k (by omega)
    rw [e, Option.bind_some]
    by_cases ht : t < 0
    · rw [if_pos ht]
      obtain ⟨r, e, r1, r2, r3⟩ := minus_f hm hl nl (by omega) (by have := t3.1 ht; omega) k (by omega)
      rw [e, Option.bind_some]
      refine ⟨_, _, rfl, r2, by omega, ?_⟩
      cases a <;> cases b <;> simp_all [sv] <;> omega
    · rw [if_neg ht]
      obtain ⟨r, e, r1, r2, r3⟩ := minus_f hl hm nm (by omega) (by have := (not_congr t3).1 ht; omega) k (by omega)
      rw [e, Option.bind_some]
      refine ⟨_, _, rfl, r2, by omega, ?_⟩
      cases a <;> cases b <;> simp_all [sv] <;> omega
end Go.Proofs.YtblcgcibkikgeaaGreatDoor.I
end
section
namespace Go.Proofs.YtblcgcibkikgeaaGreatDoor.P
def iv (s : ByteArray) : Int := ival s.data.toList
def it (n : Int) : ByteArray := G1.bsz (itext n)
end Go.Proofs.YtblcgcibkikgeaaGreatDoor.P
namespace Go.Proofs.YtblcgcibkikgeaaGreatDoor.G
open Go.RowKit Go.Proofs.YtblcgcibkikgeaaGreatDoorW.PrintWords Go.Proofs.YtblcgcibkikgeaaGreatDoorW.PrintLast Go.Proofs.YtblcgcibkikgeaaGreatDoorW.PrintMore Go.Proofs.YtblcgcibkikgeaaGreatDoor.K Go.Proofs.YtblcgcibkikgeaaGreatDoor.P
set_option linter.unusedVariables false
def integer_Add.f (a0 : ByteArray) (a1 : ByteArray) : Option (ByteArray) := if a0.size ≤ 100000000 ∧ a1.size ≤ 100000000 then some (it (iv a0 + iv a1)) else none
def integer_Neg.f (a0 : ByteArray) : Option (ByteArray) := if a0.size ≤ 100000000 then some (it (-(iv a0))) else none
def integer_Check.f (a0 : ByteArray) : Option (Int) := if a0.size ≤ 100000000 then some (if a0 = it (iv a0) then 0 else 1) else none
def itext0 (n : Int) : ByteArray := if n = 0 then ⟨#[48]⟩ else it n
def integer_Parse.f (a0 : ByteArray) : Option (ByteArray × Int) := if a0.size ≤ 100000000 then some (if a0.size > 65536 then (⟨#[]⟩, 4) else if itext0 (iv a0) = a0 then (it (iv a0), 0) else (⟨#[]⟩, 3)) else none
theorem sv_flip (b : Bool) (l : List Int) : I.sv (!b) l = - I.sv b l := by unfold I.sv; cases b <;> simp
theorem text_f (b : Bool) (l : List Int) (ho : okG l) (hl : l.length ≤ 1000000000) : G1.integer_number_text.f b l = some (it (I.sv b l)) := by
  unfold G1.integer_number_text.f
  rw [if_pos ⟨ho, hl⟩]
  rfl
theorem Add_k (a b : ByteArray) (h1 : a.size ≤ 100000000) (h2 : b.size ≤ 100000000) : ∃ k, I.integer_Add.f k a b = some (it (iv a + iv b)) := by
  obtain ⟨o1, n1, v1, l1⟩ := I.read_facts a.data.toList
  obtain ⟨o2, n2, v2, l2⟩ := I.read_facts b.data.toList
  rw [I.list_size] at l1 l2
  refine ⟨a.size * 4 + b.size * 4 + 2, ?_⟩
  unfold I.integer_Add.f
  rw [I.read_f a (by omega) _ (by omega), Option.bind_some, I.read_f b (by omega) _ (by omega), Option.bind_some]
  obtain ⟨c, r, e, or, lr, hv⟩ := I.add_f (a := (digs a.data.toList).2) (b := (digs b.data.toList).2) o1 o2 n1 n2 (by omega) (by omega) (a.size * 4 + b.size * 4 + 2) (by omega)
  rw [e, Option.bind_some, text_f c r or (by omega), hv, v1, v2]
  rfl
theorem integer_Add.calls (a0 : ByteArray) (a1 : ByteArray) (r : ByteArray) (w : World) (hL : Laid w) (h : integer_Add.f a0 a1 = some r) :
    Calls Tryz.prog 99 #[.string a0, .string a1] w fun e w' => e = .returned (.string r) ∧ Below w.heap.size w w' := by
  unfold integer_Add.f at h
  split at h
  case isFalse => cases h
  rename_i hs
  obtain ⟨k, e⟩ := Add_k a0 a1 hs.1 hs.2
  exact I.integer_Add.calls k a0 a1 r w hL (e.trans h)
theorem Canonical_k (a : ByteArray) (h1 : a.size ≤ 100000000) : I.integer_Canonical.f a = some (it (iv a)) := by
  unfold I.integer_Canonical.f G1.integer_digits.f
  rw [if_pos (by omega), Option.bind_some]
  have hl := I.digs_len a.data.toList
  rw [I.list_size] at hl
  have hc := canon_eq a.data.toList
  unfold it iv
  rw [← hc]
  unfold canon
  simp only []
  split
  · rw [I.bsz_size, if_pos (by omega)]
    refine congrArg some (ByteArray.ext (Array.ext' ?_))
    rw [ByteArray.data_append, Array.toList_append, G1.bsz_list, G1.bsz_list]
    rfl
  · rfl
theorem toList_iff (a b : ByteArray) : a.toList = b.toList ↔ a = b := by
  rw [ByteArray.toList_eq, ByteArray.toList_eq]
  constructor
  · intro h; apply ByteArray.ext; exact Array.ext' h
  · rintro rfl; rfl
theorem Neg_k (a : ByteArray) (h1 : a.size ≤ 100000000) : ∃ k, I.integer_Neg.f k a = some (it (-(iv a))) := by
  obtain ⟨o1, n1, v1, l1⟩ := I.read_facts a.data.toList
  rw [I.list_size] at l1
  refine ⟨a.size + 1, ?_⟩
  unfold I.integer_Neg.f
  rw [I.read_f a (by omega) _ (by omega), Option.bind_some, text_f _ _ o1 (by omega), sv_flip, v1]
  rfl
theorem integer_Neg.calls (a0 : ByteArray) (r : ByteArray) (w : World) (hL : Laid w) (h : integer_Neg.f a0 = some r) :
    Calls Tryz.prog 98 #[.string a0] w fun e w' => e = .returned (.string r) ∧ Below w.heap.size w w' := by
  unfold integer_Neg.f at h
  split at h
  case isFalse => cases h
  rename_i hs
  obtain ⟨k, e⟩ := Neg_k a0 hs
  exact I.integer_Neg.calls k a0 r w hL (e.trans h)
theorem integer_Check.calls (a0 : ByteArray) (r : Int) (w : World) (h : integer_Check.f a0 = some r) :
    Calls Tryz.prog 44 #[.string a0] w fun e w' => e = .returned (.int .i64 r) ∧ Below w.heap.size w w' := by
  unfold integer_Check.f at h
  split at h
  case isFalse => cases h
  rename_i hs
  refine I.integer_Check.calls a0 r w ?_
  unfold I.integer_Check.f
  rw [Canonical_k a0 hs, Option.bind_some, ← h]
  simp only [toList_iff]
  split <;> rfl
theorem it_nil (n : Int) : (it n).toList = ([] : List UInt8) ↔ n = 0 := by
  unfold it
  rw [G1.bsz_toList, itext_eq_nil]
theorem Print_k (a : ByteArray) (h1 : a.size ≤ 100000000) : I.integer_Print.f a = some (itext0 (iv a)) := by
  unfold I.integer_Print.f
  rw [Canonical_k a h1, Option.bind_some]
  simp only [it_nil]
  unfold itext0
  split <;> rfl
theorem integer_Parse.calls (a0 : ByteArray) (r1 : ByteArray) (r2 : Int) (w : World) (h : integer_Parse.f a0 = some (r1, r2)) :
    Calls Tryz.prog 178 #[.string a0] w fun e w' => e = .returned (.tuple #[.string r1, .int .i64 r2]) ∧ Below w.heap.size w w' := by
  unfold integer_Parse.f at h
  split at h
  case isFalse => cases h
  rename_i hs
  refine I.integer_Parse.calls a0 r1 r2 w ?_
  rw [← h]
  unfold I.integer_Parse.f
  rw [Print_k a0 hs, Canonical_k a0 hs]
  simp only [Option.bind_some, toList_iff]
  by_cases h6 : a0.size > 65536
  · rw [if_pos (by omega), if_pos h6]
  · rw [if_neg (by omega), if_neg h6]
    split <;> rfl
end Go.Proofs.YtblcgcibkikgeaaGreatDoor.G
end
section
namespace Go.Proofs.YtblcgcibkikgeaaGreatDoor.P
def nameC (c : UInt8) : Bool := (97 ≤ c.toNat && c.toNat ≤ 122) || (48 ≤ c.toNat && c.toNat ≤ 57) || c.toNat == 95
def isName (l : Bs) : Bool := decide (1 ≤ l.length) && decide (l.length ≤ 16) && l.all nameC
end Go.Proofs.YtblcgcibkikgeaaGreatDoor.P
namespace Go.Proofs.YtblcgcibkikgeaaGreatDoor.G
open Go.RowKit Go.Proofs.YtblcgcibkikgeaaGreatDoorW.PrintWords Go.Proofs.YtblcgcibkikgeaaGreatDoorW.PrintLast Go.Proofs.YtblcgcibkikgeaaGreatDoorW.PrintMore Go.Proofs.YtblcgcibkikgeaaGreatDoor.K Go.Proofs.YtblcgcibkikgeaaGreatDoor.P
set_option linter.unusedVariables false
def instrument_Name.f (a0 : ByteArray) : Option (Bool) := some (isName a0.data.toList)
theorem list_size' (s : ByteArray) : s.data.toList.length = s.size := by rw [Array.length_toList]; rfl
set_option maxHeartbeats 4000000 in
set_option maxRecDepth 100000 in
theorem instrument_Name.calls (a0 : ByteArray) (r : Bool) (w : World) (h : instrument_Name.f a0 = some r) :
    Calls Tryz.prog 120 #[.string a0] w fun e w' => e = .returned (.bool r) ∧ Below w.heap.size w w' := by
  unfold instrument_Name.f isName at h
  simp only [Option.some.injEq, list_size'] at h
  by_cases h0 : a0.size = 0
  · have hb : ((a0.size : Int) == 0) = true := beq_iff_eq.2 (by omega)
    rw [h0] at h
    subst h
    go_enter Tryz.func120, Tryz.ntmps120
    go_wp2
    go_ret
    exact ⟨rfl, Below.refl _ _⟩
  · have hb : ((a0.size : Int) == 0) = false := beq_eq_false_iff_ne.2 (by omega)
    by_cases h16 : a0.size > 16
    · have hd : decide ((16 : Int) < (a0.size : Int)) = true := decide_eq_true (by omega)
      have hr : r = false := by rw [← h, decide_eq_false (show ¬ a0.size ≤ 16 by omega)]; simp
      subst hr
      clear h
      go_enter Tryz.func120, Tryz.ntmps120
      go_wp2
      go_ret
      exact ⟨rfl, Below.refl _ _⟩
    · have hd : decide ((16 : Int) < (a0.size : Int)) = false := decide_eq_false (by omega)
      have hall : a0.data.toList.all nameC = r := by
        rw [← h, decide_eq_true (by omega), decide_eq_true (by omega)]; rfl
      clear h
      go_enter Tryz.func120, Tryz.ntmps120
      have hconv : ∀ W : World, (convert 9 129 (.string a0)).run Tryz.prog W = .ok (.slice (some ⟨W.heap.size, 0, none⟩) a0.size (grownCap W a0.size 0 5)) (Lib.bytesWorld W 5 a0) := fun W => Lib.run_convert_string_bytes W 9 129 5 a0 Tryz.underlying9 Tryz.underlying129 Tryz.underlying5
      have hcells := fun j hj => Lib.bytesWorld_cell w 5 a0 j hj
      have hbel : Below w.heap.size w (Lib.bytesWorld w 5 a0) := Lib.bytesWorld_below _ _ _
      have HCE := Aside0.mk hcells
      have HBE := Aside0.mk hbel
      have HA := Aside0.mk hall
      generalize hcap : grownCap w a0.size 0 5 = cap
      clear hcells hbel hall
      go_wp2
      go_loopw [16] (fun v16 wr => ∃ i : Nat, v16 = .int .i64 (i : Int) ∧ i ≤ a0.size ∧ Aside0 (∀ j, j < a0.size → wr.cell? ⟨w.heap.size, j, none⟩ = some (.int .u8 (a0.data.toList.getD j 0).toNat)) ∧ Aside0 (Below w.heap.size w wr) ∧ Aside0 ((a0.data.toList.drop i).all nameC = r)) (fun v16 _ => a0.size - (intOf v16).toNat)
      case atStart => exact ⟨0, rfl, Nat.zero_le _, HCE, HBE, HA⟩
      case round =>
        clear HCE HBE HA
        obtain ⟨i, rfl, hi, HCE, HBE, HA⟩ := hrel
        by_cases hil : i < a0.size
        · have hd2 : decide ((i : Int) < (a0.size : Int)) = true := decide_eq_true (by omega)
          have hx := HCE.out i hil
          have hlen := list_size' a0
          have hdr : a0.data.toList.drop i = a0.data.toList.getD i 0 :: a0.data.toList.drop (i + 1) := by rw [List.drop_eq_getElem_cons (by omega), List.getD_eq_getElem?_getD, List.getElem?_eq_getElem (by omega)]; rfl
          have ha := HA.out
          rw [hdr, List.all_cons] at ha
          clear HA hdr hlen
          generalize a0.data.toList.getD i 0 = c at hx ha
          have HA := Aside0.mk ha
          unfold nameC at ha
          clear ha
          obtain ⟨n, hn⟩ : ∃ n, c.toNat = n := ⟨_, rfl⟩
          rw [hn] at hx
          by_cases h1 : (n : Int) < 97 <;> by_cases h2 : 122 < (n : Int) <;> by_cases h3 : (n : Int) < 48 <;> by_cases h4 : 57 < (n : Int) <;> by_cases h5 : (n : Int) = 95
          all_goals first
            | (exfalso; omega)
            | (have HN := Aside0.mk (show nameC c = true by
                 unfold nameC
                 rw [hn, Bool.or_eq_true, Bool.or_eq_true, Bool.and_eq_true, Bool.and_eq_true, decide_eq_true_eq, decide_eq_true_eq, decide_eq_true_eq, decide_eq_true_eq, beq_iff_eq]
                 omega)
               go_wp2
               go_roundw
               case rel => exact ⟨i + 1, by go_num, by omega, HCE, HBE, ⟨by have := HA.out; rw [HN.out] at this; simpa using this⟩⟩
               case measure => simp [intOf]; omega)
            | (have HN := Aside0.mk (show nameC c = false by
                 apply Bool.eq_false_iff.2
                 unfold nameC
                 rw [hn, Ne, Bool.or_eq_true, Bool.or_eq_true, Bool.and_eq_true, Bool.and_eq_true, decide_eq_true_eq, decide_eq_true_eq, decide_eq_true_eq, decide_eq_true_eq, beq_iff_eq]
                 omega)
               go_wp2
               go_ret
               have := HA.out
               rw [HN.out] at this
               rw [← this]
               exact ⟨rfl, HBE.out⟩)
        · have hd2 : decide ((i : Int) < (a0.size : Int)) = false := decide_eq_false (by omega)
          go_wp2
          go_ret
          have := HA.out
          rw [List.drop_eq_nil_of_le (by rw [list_size']; omega)] at this
          rw [← this]
          exact ⟨rfl, HBE.out⟩
end Go.Proofs.YtblcgcibkikgeaaGreatDoor.G
end
section
namespace Go.Proofs.YtblcgcibkikgeaaGreatDoor.P
open Go Go.Proofs.YtblcgcibkikgeaaGreatDoor.K Go.Proofs.YtblcgcibkikgeaaGreatDoor.G1 Go.Proofs.YtblcgcibkikgeaaGreatDoor.G
abbrev Nm := List UInt8
def nm (s : ByteArray) : Nm := s.data.toList
def bs (l : Nm) : ByteArray := ⟨l.toArray⟩
theorem nm_bs (l : Nm) : nm (bs l) = l := by simp [nm, bs]
theorem bs_nm (s : ByteArray) : bs (nm s) = s := by cases s; simp [nm, bs]
theorem nm_inj {a b : ByteArray} (h : nm a = nm b) : a = b := by rw [← bs_nm a, h, bs_nm]
def insU (n : Nm) : List Nm → List Nm
  | [] => [n]
  | m :: l => if n = m then m :: l else if n < m then n :: m :: l else m :: insU n l
def sortU (l : List Nm) : List Nm := l.foldr insU []
def Asc (l : List Nm) : Prop := l.Pairwise (· < ·)
theorem lt_or (a b : Nm) : a < b ∨ a = b ∨ b < a := by
  by_cases h1 : a < b
  · exact .inl h1
  · by_cases h2 : b < a
    · exact .inr (.inr h2)
    · exact .inr (.inl (List.le_antisymm (List.not_lt.1 h2) (List.not_lt.1 h1)))
theorem insU_mem (n x : Nm) : ∀ l, x ∈ insU n l ↔ x = n ∨ x ∈ l
  | [] => by simp [insU]
  | m :: l => by
    unfold insU
    split
    · rename_i h; subst h; simp
    · split
      · simp
      · simp [insU_mem n x l]; constructor <;> (rintro (h | h | h) <;> simp [h])
theorem insU_asc (n : Nm) : ∀ l, Asc l → Asc (insU n l)
  | [], _ => by simp [insU, Asc]
  | m :: l, h => by
    obtain ⟨h1, h2⟩ := List.pairwise_cons.1 h
    unfold insU
    split
    · exact h
    · rename_i hne
      split
      · rename_i hlt
        refine List.pairwise_cons.2 ⟨fun x hx => ?_, h⟩
        rcases List.mem_cons.1 hx with rfl | hx
        · exact hlt
        · exact List.lt_trans hlt (h1 x hx)
      · rename_i hnl
        refine List.pairwise_cons.2 ⟨fun x hx => ?_, insU_asc n l h2⟩
        rcases (insU_mem n x l).1 hx with rfl | hx
        · rcases lt_or x m with h | h | h
          · exact absurd h hnl
          · exact absurd h hne
          · exact h
        · exact h1 x hx
theorem sortU_mem (x : Nm) : ∀ l, x ∈ sortU l ↔ x ∈ l
  | [] => by simp [sortU]
  | m :: l => by
    show x ∈ insU m (sortU l) ↔ _
    rw [insU_mem, sortU_mem x l]; simp
theorem sortU_asc : ∀ l, Asc (sortU l)
  | [] => by simp [sortU, Asc]
  | m :: l => insU_asc m _ (sortU_asc l)
theorem insU_len (n : Nm) : ∀ l, (insU n l).length ≤ l.length + 1
  | [] => by simp [insU]
  | m :: l => by
    unfold insU
    split
    · simp
    · split
      · simp
      · have := insU_len n l; simp; omega
theorem sortU_len : ∀ l, (sortU l).length ≤ l.length
  | [] => by simp [sortU]
  | m :: l => by
    have h1 := insU_len m (sortU l)
    have h2 := sortU_len l
    show (insU m (sortU l)).length ≤ _
    simp; omega
theorem asc_ext : ∀ (l m : List Nm), Asc l → Asc m → (∀ x, x ∈ l ↔ x ∈ m) → l = m
  | [], [], _, _, _ => rfl
  | [], y :: m, _, _, h => by have := (h y).2 (by simp); simp at this
  | x :: l, [], _, _, h => by have := (h x).1 (by simp); simp at this
  | x :: l, y :: m, hl, hm, h => by
    obtain ⟨l1, l2⟩ := List.pairwise_cons.1 hl
    obtain ⟨m1, m2⟩ := List.pairwise_cons.1 hm
    have hxy : x = y := by
      rcases List.mem_cons.1 ((h x).1 (by simp)) with e | e
      · exact e
      · rcases List.mem_cons.1 ((h y).2 (by simp)) with e' | e'
        · exact e'.symm
        · exact absurd (m1 x e) (List.lt_asymm (l1 y e'))
    subst hxy
    rw [asc_ext l m l2 m2 fun z => ?_]
    constructor
    · intro hz
      rcases List.mem_cons.1 ((h z).1 (by simp [hz])) with e | e
      · subst e; exact absurd (l1 z hz) (List.lt_irrefl z)
      · exact e
    · intro hz
      rcases List.mem_cons.1 ((h z).2 (by simp [hz])) with e | e
      · subst e; exact absurd (m1 z hz) (List.lt_irrefl z)
      · exact e
theorem asc_of_sorted : ∀ l : List Nm, l.Pairwise (fun a b => a ≤ b) → l.Nodup → Asc l
  | [], _, _ => List.Pairwise.nil
  | x :: l, h, hn => by
    obtain ⟨h1, h2⟩ := List.pairwise_cons.1 h
    obtain ⟨n1, n2⟩ := List.pairwise_cons.1 hn
    refine List.pairwise_cons.2 ⟨fun y hy => ?_, asc_of_sorted l h2 n2⟩
    rcases lt_or x y with e | e | e
    · exact e
    · exact absurd e (n1 y hy)
    · exact absurd e (List.not_lt.2 (h1 y hy))
theorem merge_sortU (ss l : List Nm) (hn : ss.Nodup) (hm : ∀ x, x ∈ ss ↔ x ∈ l) : ss.mergeSort (fun x y => decide (x ≤ y)) = sortU l := by
  have hp := List.mergeSort_perm ss (fun x y => decide (x ≤ y))
  refine asc_ext _ _ (asc_of_sorted _ ?_ (hp.nodup_iff.2 hn)) (sortU_asc l) fun x => ?_
  · have := List.pairwise_mergeSort (le := fun x y : Nm => decide (x ≤ y)) (fun a b c h1 h2 => by
      simp only [decide_eq_true_eq] at *
      exact List.le_trans h1 h2) (fun a b => by
      simp only [Bool.or_eq_true, decide_eq_true_eq]
      exact List.le_total a b) ss
    exact this.imp (fun h => by simpa using h)
  · rw [hp.mem_iff, hm, sortU_mem]
abbrev Co := S113
def cs (n : Nm) : List Co → Int
  | [] => 0
  | c :: l => (if nm c.f0 = n then iv c.f1 else 0) + cs n l
theorem cs_append (n : Nm) : ∀ (l m : List Co), cs n (l ++ m) = cs n l + cs n m
  | [], m => by simp [cs]
  | c :: l, m => by
    simp only [List.cons_append, cs, cs_append n l m]; omega
theorem cs_snoc (n : Nm) (l : List Co) (c : Co) : cs n (l ++ [c]) = cs n l + (if nm c.f0 = n then iv c.f1 else 0) := by
  rw [cs_append]; simp [cs]
def weight : List Co → Nat
  | [] => 0
  | c :: l => c.f1.size + 1 + weight l
theorem weight_append : ∀ (l m : List Co), weight (l ++ m) = weight l + weight m
  | [], m => by simp [weight]
  | c :: l, m => by simp only [List.cons_append, weight, weight_append l m]; omega
theorem weight_len : ∀ l : List Co, l.length ≤ weight l
  | [] => Nat.le_refl _
  | c :: l => by have := weight_len l; simp only [weight, List.length_cons]; omega
def nfOf (l : List Co) (n : Nm) : Option Co := if cs n l = 0 then none else some ⟨bs n, it (cs n l)⟩
theorem iv_abs (s : ByteArray) : (iv s).natAbs < 10 ^ s.size := by
  have h1 := digs_all s.data.toList
  have h2 := dnum_lt h1
  have h3 : (digs s.data.toList).1.length ≤ s.size := by
    have := I.list_size s
    rw [← this]
    exact I.digs_len s.data.toList
  have h4 : dnum (digs s.data.toList).1 < 10 ^ s.size := Nat.lt_of_lt_of_le h2 (Nat.pow_le_pow_right (by omega) h3)
  unfold iv ival
  split <;> omega
theorem cs_abs (n : Nm) : ∀ l : List Co, (cs n l).natAbs < 10 ^ weight l
  | [] => by simp [cs, weight]
  | c :: l => by
    have h1 := iv_abs c.f1
    have h2 := cs_abs n l
    have h3 : (10 : Nat) ^ c.f1.size ≤ 10 ^ (c.f1.size + weight l) := Nat.pow_le_pow_right (by omega) (by omega)
    have h4 : (10 : Nat) ^ weight l ≤ 10 ^ (c.f1.size + weight l) := Nat.pow_le_pow_right (by omega) (by omega)
    have h5 : (10 : Nat) ^ weight (c :: l) = 10 * 10 ^ (c.f1.size + weight l) := by
      show 10 ^ (c.f1.size + 1 + weight l) = _
      rw [show c.f1.size + 1 + weight l = (c.f1.size + weight l) + 1 by omega, Nat.pow_succ]; omega
    rw [h5]
    show ((if nm c.f0 = n then iv c.f1 else 0) + cs n l).natAbs < _
    split <;> omega
theorem it_size {n : Int} {k : Nat} (h : n.natAbs < 10 ^ k) : (it n).size ≤ k + 1 := by
  have h1 := dtext_length_le h
  have h2 : (it n).size = (itext n).length := by show (itext n).toArray.size = _; simp
  rw [h2]
  unfold itext
  split
  · simp; omega
  · omega
theorem iv_it (n : Int) : iv (it n) = n := by
  unfold iv it
  have : (G1.bsz (itext n)).data.toList = itext n := by simp [G1.bsz]
  rw [this, ival_itext]
def nf (l : List Co) : List Co := (sortU (l.map fun c => nm c.f0)).filterMap (nfOf l)
end Go.Proofs.YtblcgcibkikgeaaGreatDoor.P
end
section
namespace Go.Proofs.YtblcgcibkikgeaaGreatDoor.M
open Go Go.RowKit Go.ChangeMaps
set_option linter.unusedSectionVars false
variable {P : Program} {w : World} {κ : Type} [DecidableEq κ]
structure Keys (P : Program) (kt : TypeId) (kv : κ → Value) : Prop where
  now : ∃ d, P.underlying kt = some d ∧ (∀ a b, Instr.sameNow d (kv a) (kv b) = some (decide (a = b))) ∧ ∀ a, MapKept.IsKey d (kv a)
  bits : ∀ a, Instr.sameBits 10000 (kv a) (kv a) = true
  inj : ∀ a b, kv a = kv b → a = b
theorem beq_bytes (a b : ByteArray) : (a == b) = decide (a = b) := by
  have h : (a == b) = (a.data == b.data) := rfl
  rw [h, Bool.eq_iff_iff, beq_iff_eq, decide_eq_true_eq]
  exact ⟨fun e => by cases a; cases b; simp_all, fun e => by rw [e]⟩
theorem keys_string {kt : TypeId} (h : P.underlying kt = some .string) : Keys P kt Value.string where
  now := ⟨_, h, fun a b => by simp [Instr.sameNow, beq_bytes], fun a => by simp [MapKept.IsKey]⟩
  bits := fun a => by simp [Instr.sameBits, beq_bytes]
  inj := fun a b e => by cases e; rfl
theorem keys_int {kt : TypeId} (h : P.underlying kt = some (.int .i64)) : Keys P kt (Value.int .i64) where
  now := ⟨_, h, fun a b => by simp [Instr.sameNow]; by_cases e : a = b <;> simp [e], fun a => by simp [MapKept.IsKey]⟩
  bits := fun a => by simp [Instr.sameBits]
  inj := fun a b e => by cases e; rfl
def ents (kv : κ → Value) : Nat → List (κ × Value) → List MapEntry
  | _, [] => []
  | i, p :: l => { key := kv p.1, val := p.2, born := i } :: ents kv (i + 1) l
def obj (kv : κ → Value) (l : List (κ × Value)) : Obj := .map (ents kv 0 l).toArray l.length
def get (l : List (κ × Value)) (k : κ) : Option Value := (l.find? (fun p => decide (k = p.1))).map (·.2)
def put : List (κ × Value) → κ → Value → List (κ × Value)
  | [], k, v => [(k, v)]
  | p :: l, k, v => if k = p.1 then (k, v) :: l else p :: put l k v
theorem ents_length (kv : κ → Value) : ∀ (i : Nat) (l : List (κ × Value)), (ents kv i l).length = l.length
  | _, [] => rfl
  | i, p :: l => by simp [ents, ents_length kv (i + 1) l]
theorem ents_get (kv : κ → Value) : ∀ (l : List (κ × Value)) (i j : Nat), (ents kv i l)[j]? = (l[j]?).map fun p => { key := kv p.1, val := p.2, born := i + j }
  | [], i, j => by simp [ents]
  | p :: l, i, 0 => by simp [ents]
  | p :: l, i, j + 1 => by
    simp only [ents, List.getElem?_cons_succ]
    rw [ents_get kv l (i + 1) j, show i + 1 + j = i + (j + 1) by omega]
theorem findNow_ents {kv : κ → Value} {d : TypeDesc} (hd : ∀ a b, Instr.sameNow d (kv a) (kv b) = some (decide (a = b))) (k : κ) :
    ∀ (l : List (κ × Value)) (b i : Nat), Instr.findNow d (kv k) (ents kv b l) i = some ((l.find? (fun p => decide (k = p.1))).map fun p => (i + l.findIdx (fun p => decide (k = p.1)), p.2))
  | [], b, i => rfl
  | p :: l, b, i => by
    unfold ents Instr.findNow
    rw [hd]
    by_cases h : k = p.1
    · simp only [h, decide_true, List.find?_cons_of_pos, Option.map_some, List.findIdx_cons, cond_true, Nat.add_zero]
    · simp only [h, decide_false]
      rw [findNow_ents hd k l (b + 1) (i + 1), List.find?_cons_of_neg (by simpa using h)]
      simp only [List.findIdx_cons, h, decide_false, cond_false]
      congr 1
      funext
      cases l.find? (fun p => decide (k = p.1)) with
      | none => rfl
      | some q => simp; omega
theorem run_getObj' {m : Nat} {es : Array MapEntry} {c : Nat} (h : w.heap[m]? = some (.map es c)) : (getObj m).run P w = .ok (.map es c) w := by simp [getObj, Sem.run, h]
theorem run_setObj' {m : Nat} {es : Array MapEntry} {c : Nat} (o' : Obj) (h : w.heap[m]? = some (.map es c)) : (setObj m o').run P w = .ok () (w.putObj m o') := by simp [setObj, Sem.run, h, World.putObj]
theorem run_lookup {kv : κ → Value} {m : Nat} {l : List (κ × Value)} {t kt et : TypeId} (K : Keys P kt kv) (ht : P.underlying t = some (.map kt et)) {z : Value} (hz : ∀ W, (zeroValue et).run P W = .ok z W) (h : w.heap[m]? = some (obj kv l)) (k : κ) (c : Bool) :
    (Instr.lookup t (.map (some m)) (kv k) c).run P w = .ok (if c then .tuple #[(get l k).getD z, .bool (get l k).isSome] else (get l k).getD z) w := by
  obtain ⟨d, hd, hs, hk⟩ := K.now
  have hf := findNow_ents hs k l 0 0
  have hfk := MapKept.run_findKey (w := w) hd hf
  unfold obj at h
  simp only [Instr.lookup, Sem.run_bind, run_underlying ht, run_getObj' h, Result.andThen, Sem.run_pure, MapKept.run_checkKey hd (hk k) _ 9999, hfk]
  unfold get
  cases l.find? (fun p => decide (k = p.1)) with
  | none => simp [Sem.run_bind, hz, Result.andThen, Sem.run_pure]
  | some q => simp [Sem.run_pure, Result.andThen]
theorem put_none {l : List (κ × Value)} {k : κ} (v : Value) (h : l.find? (fun p => decide (k = p.1)) = none) : put l k v = l ++ [(k, v)] := by
  induction l with
  | nil => rfl
  | cons p l ih =>
    have h1 : ¬ k = p.1 := fun e => by simp [e] at h
    rw [List.find?_cons_of_neg (by simpa using h1)] at h
    simp [put, h1, ih h]
theorem ents_append (kv : κ → Value) : ∀ (l : List (κ × Value)) (i : Nat) (p : κ × Value), ents kv i (l ++ [p]) = ents kv i l ++ [{ key := kv p.1, val := p.2, born := i + l.length }]
  | [], i, p => by simp [ents]
  | q :: l, i, p => by
    simp only [List.cons_append, ents]
    rw [ents_append kv l (i + 1) p, List.length_cons, show i + 1 + l.length = i + (l.length + 1) by omega]
theorem ents_modify (kv : κ → Value) (k : κ) (v : Value) : ∀ (l : List (κ × Value)) (i : Nat), (l.find? (fun p => decide (k = p.1))).isSome = true →
    (ents kv i l).modify (l.findIdx (fun p => decide (k = p.1))) (fun e => { e with key := kv k, val := v }) = ents kv i (put l k v)
  | [], i, h => by simp at h
  | p :: l, i, h => by
    by_cases h1 : k = p.1
    · simp [List.findIdx_cons, h1, ents, put]
    · rw [List.find?_cons_of_neg (by simpa using h1)] at h
      have := ents_modify kv k v l (i + 1) h
      simp only [List.findIdx_cons, h1, decide_false, cond_false, ents, put, if_false, List.modify_succ_cons]
      rw [this]
theorem put_length {l : List (κ × Value)} {k : κ} (v : Value) (h : (l.find? (fun p => decide (k = p.1))).isSome = true) : (put l k v).length = l.length := by
  induction l with
  | nil => simp at h
  | cons p l ih =>
    by_cases h1 : k = p.1
    · simp [put, h1]
    · rw [List.find?_cons_of_neg (by simpa using h1)] at h
      simp [put, h1, ih h]
theorem run_update {kv : κ → Value} {m : Nat} {l : List (κ × Value)} {t kt et : TypeId} (K : Keys P kt kv) (ht : P.underlying t = some (.map kt et)) (h : w.heap[m]? = some (obj kv l)) (k : κ) (v : Value) :
    (Instr.mapUpdate t (.map (some m)) (kv k) v).run P w = .ok () (w.putObj m (obj kv (put l k v))) := by
  obtain ⟨d, hd, hs, hk⟩ := K.now
  have hf := findNow_ents hs k l 0 0
  have hfk := MapKept.run_findKey (w := w) hd hf
  have h' := h
  unfold obj at h'
  simp only [Instr.mapUpdate, Sem.run_bind, run_underlying ht, run_getObj' h', Result.andThen, Sem.run_pure, MapKept.run_checkKey hd (hk k) _ 9999, hfk]
  cases hq : l.find? (fun p => decide (k = p.1)) with
  | none =>
    simp only [Option.map_none, run_setObj' _ h']
    unfold obj
    rw [put_none v hq, ents_append]
    simp
  | some q =>
    have hi : l.findIdx (fun p => decide (k = p.1)) < l.length := List.findIdx_lt_length_of_exists ⟨q, List.mem_of_find?_eq_some hq, by simpa using List.find?_some hq⟩
    have hkey : (ents kv 0 l)[l.findIdx (fun p => decide (k = p.1))]? = some { key := kv k, val := (l[l.findIdx (fun p => decide (k = p.1))]).2, born := 0 + l.findIdx (fun p => decide (k = p.1)) } := by
      rw [ents_get, List.getElem?_eq_getElem hi]
      have := List.findIdx_getElem (w := hi)
      simp only [decide_eq_true_eq] at this
      rw [Option.map_some, ← this]
    simp only [Option.map_some, Nat.zero_add, List.getElem?_toArray, hkey, Option.getD_some, Instr.keyThatStays, K.bits k, if_true, Sem.run_pure, Sem.run_bind, Result.andThen, run_setObj' _ h']
    unfold obj
    rw [put_length v (by rw [hq]; rfl), List.modify_toArray, ents_modify kv k v l 0 (by rw [hq]; rfl)]
theorem run_range {kv : κ → Value} {m : Nat} {l : List (κ × Value)} {t kt et : TypeId} (ht : P.underlying t = some (.map kt et)) (h : w.heap[m]? = some (obj kv l)) :
    (Instr.range t (.map (some m))).run P w = .ok (.pointer (some ⟨w.heap.size, 0, none⟩)) (w.alloc (.mapIter (some m) l.length #[] l.length)) := by
  unfold obj at h
  simp only [Instr.range, Sem.run_bind, run_underlying ht, run_getObj' h, Result.andThen, Sem.run_pure, run_newObj_alloc]
theorem ents_born (kv : κ → Value) : ∀ (l : List (κ × Value)) (i : Nat), (ents kv i l).map (·.born) = List.range' i l.length
  | [], i => rfl
  | p :: l, i => by simp [ents, ents_born kv l (i + 1), List.range']
theorem run_next {kv : κ → Value} {m r : Nat} {l : List (κ × Value)} {seen : Array Nat} (h : w.heap[m]? = some (obj kv l)) (hr : w.heap[r]? = some (.mapIter (some m) l.length seen l.length)) (ty : TypeId) :
    ((∀ i, i < l.length → i ∈ seen) ∧ (Instr.next (.pointer (some ⟨r, 0, none⟩)) false ty).run P w = .ok (.tuple #[.bool false]) w) ∨
    ∃ i p w1, l[i]? = some p ∧ i ∉ seen ∧ (w1 = w ∨ w1 = w.drew) ∧ (Instr.next (.pointer (some ⟨r, 0, none⟩)) false ty).run P w = .ok (.tuple #[.bool true, kv p.1, p.2]) (w1.putObj r (.mapIter (some m) l.length (seen.push i) l.length)) := by
  have hmem : ∀ x ∈ (ents kv 0 l), ∃ i p, l[i]? = some p ∧ x = { key := kv p.1, val := p.2, born := i } := by
    intro x hx
    obtain ⟨i, hi, rfl⟩ := List.mem_iff_getElem.1 hx
    have := ents_get kv l 0 i
    rw [List.getElem?_eq_getElem hi] at this
    cases hl : l[i]? with
    | none => rw [hl] at this; simp at this
    | some p => rw [hl] at this; simp at this; exact ⟨i, p, hl, by rw [this]⟩
  rcases run_next_at (P := P) w ty r m l.length l.length seen _ _ hr h (fun x hx => by
      obtain ⟨i, p, hl, rfl⟩ := hmem x (by simpa using hx)
      exact (List.getElem?_eq_some_iff.1 hl).1) (Nat.le_refl _) with ⟨h0, hrun⟩ | ⟨e, he, w1, hw1, hrun⟩
  · refine .inl ⟨fun i hi => ?_, hrun⟩
    have hemp : leftOf (ents kv 0 l).toArray seen = #[] := Array.eq_empty_of_size_eq_zero h0
    unfold leftOf at hemp
    rw [Array.filter_eq_empty_iff] at hemp
    have hg := ents_get kv l 0 i
    rw [List.getElem?_eq_getElem hi, Option.map_some] at hg
    have := hemp _ (List.mem_toArray.2 (List.mem_of_getElem? hg))
    simpa using this
  · unfold leftOf at he
    simp only [Array.toList_filter, List.mem_filter] at he
    obtain ⟨i, p, hl, rfl⟩ := hmem e (by simpa using he.1)
    exact .inr ⟨i, p, w1, hl, by simpa using he.2, hw1, hrun⟩
theorem run_entry {kv : κ → Value} {m r : Nat} {l : List (κ × Value)} {seen : Array Nat} {i : Nat} {p : κ × Value} (h : w.heap[m]? = some (obj kv l)) (hr : w.heap[r]? = some (.mapIter (some m) l.length (seen.push i) l.length)) (hp : l[i]? = some p) :
    (Instr.entry (.pointer (some ⟨r, 0, none⟩))).run P w = .ok (.tuple #[kv p.1, p.2]) w := by
  have hg := ents_get kv l 0 i
  rw [hp, Option.map_some, Nat.zero_add] at hg
  exact run_entry_at (P := P) w r m l.length seen _ _ { key := kv p.1, val := p.2, born := i } hr h (by simpa using List.mem_of_getElem? hg) (by
    have := ents_born kv l 0
    simp only
    rw [this]
    exact List.nodup_range')
theorem owns {m : List (ByteArray × Value)} {b : Nat} {kt : TypeId} (hk : P.underlying kt = some .string) (hb : w.heap[b]? = some (obj Value.string m)) (hn : (m.map (·.1)).Nodup) (hs : ∀ p ∈ m, p.1.size ≤ maxLen) (hl : m.length ≤ maxLen) :
    ∃ D : DataW Unit, w.ownsMap P kt (fun _ => some (.agg [], [])) b m.length D ∧ Maps.size D = m.length ∧ (strKeys D).Perm (m.map fun p => p.1.data.toList) := by
  have hmem : ∀ x ∈ (ents Value.string 0 m), ∃ i p, m[i]? = some p ∧ x = { key := Value.string p.1, val := p.2, born := i } := by
    intro x hx
    obtain ⟨i, hi, rfl⟩ := List.mem_iff_getElem.1 hx
    have := ents_get Value.string m 0 i
    rw [List.getElem?_eq_getElem hi] at this
    cases hl : m[i]? with
    | none => rw [hl] at this; simp at this
    | some p => rw [hl] at this; simp at this; exact ⟨i, p, hl, by rw [this]⟩
  have hkey : ∀ (i : Nat) (l : List (ByteArray × Value)), (ents Value.string i l).map (·.key) = l.map fun p => Value.string p.1 := by
    intro i l
    induction l generalizing i with
    | nil => rfl
    | cons p l ih => simp [ents, ih]
  have hrd : ∀ x ∈ (ents Value.string 0 m), ∀ p : ByteArray × Value, x.key = Value.string p.1 → p ∈ m → WideElems.rd (H := Unit) P kt (fun _ => some (.agg [], [])) x = some (.string p.1.data.toList, .agg []) := by
    intro x hx p e hp
    unfold WideElems.rd
    rw [e]
    have : keyOf P kt (.string p.1) = some (.string p.1.data.toList) := by
      simp [keyOf, hk, mapKey, hs p hp]
    rw [this]
    rfl
  have F : WideElems.Fit (H := Unit) P kt (fun _ => some (.agg [], [])) (ents Value.string 0 m).toArray m.length := by
    refine ⟨by simp [ents_length]; exact hl, ⟨?_, ?_, ?_⟩, ?_⟩
    · intro x hx
      obtain ⟨i, p, hi, rfl⟩ := hmem x (by simpa using hx)
      exact (List.getElem?_eq_some_iff.1 hi).1
    · have := ents_born Value.string m 0
      simp only
      rw [this]
      exact List.nodup_range'
    · simp only
      rw [hkey]
      have e : (m.map fun p => Value.string p.1) = (m.map (·.1)).map Value.string := by rw [List.map_map]; rfl
      rw [e]
      exact List.Pairwise.map Value.string (fun a b (h : a ≠ b) (e : Value.string a = Value.string b) => h (by cases e; rfl)) hn
    · intro x hx
      obtain ⟨i, p, hi, rfl⟩ := hmem x (by simpa using hx)
      exact ⟨_, hrd _ (by simpa using hx) p rfl (List.mem_of_getElem? hi)⟩
  refine ⟨_, ⟨_, _, hb, F, by simp [ents_length], rfl⟩, ?_, ?_⟩
  · show ((((ents Value.string 0 m).toArray.toList.map (WideElems.rg P kt fun _ => some (.agg [], []))).foldr DataW.insert []).length) = _
    rw [(WideShapes.sorted_perm _).length_eq]
    simp [ents_length]
  · show (((((ents Value.string 0 m).toArray.toList.map (WideElems.rg P kt fun _ => some (.agg [], []))).foldr DataW.insert [])).map fun p => strOf p.1).Perm _
    refine ((WideShapes.sorted_perm _).map _).trans ?_
    rw [List.map_map]
    have : ∀ (l : List (ByteArray × Value)) (i : Nat), (∀ p ∈ l, p.1.size ≤ maxLen) → (ents Value.string i l).map ((fun p : Lit × DataW Unit => strOf p.1) ∘ WideElems.rg P kt fun _ => some (.agg [], [])) = l.map fun p => p.1.data.toList := by
      intro l
      induction l with
      | nil => intro i _; rfl
      | cons p l ih =>
        intro i h
        simp only [ents, List.map_cons]
        rw [ih (i + 1) (fun q hq => h q (by simp [hq]))]
        congr 1
        have : keyOf P kt (.string p.1) = some (.string p.1.data.toList) := by
          simp [keyOf, hk, mapKey, h p (by simp)]
        simp [WideElems.rg, WideElems.rd, this, strOf]
    rw [show (ents Value.string 0 m).toArray.toList = ents Value.string 0 m from rfl, this m 0 hs]
theorem put_keys (l : List (κ × Value)) (k : κ) (v : Value) : (put l k v).map (·.1) = if k ∈ l.map (·.1) then l.map (·.1) else l.map (·.1) ++ [k] := by
  induction l with
  | nil => simp [put]
  | cons p l ih =>
    unfold put
    by_cases h : k = p.1
    · simp [h]
    · simp only [h, if_false, List.map_cons, ih, List.mem_cons, false_or]
      split <;> simp
theorem get_nil (k : κ) : get ([] : List (κ × Value)) k = none := rfl
theorem get_put (l : List (κ × Value)) (k k' : κ) (v : Value) : get (put l k v) k' = if k' = k then some v else get l k' := by
  induction l with
  | nil =>
    unfold put get
    by_cases h : k' = k
    · simp [h]
    · simp [h]
  | cons p l ih =>
    unfold put
    by_cases h1 : k = p.1
    · simp only [h1, if_true]
      unfold get
      by_cases h2 : k' = p.1
      · simp [h2]
      · simp [h2]
    · simp only [h1, if_false]
      unfold get at ih ⊢
      by_cases h2 : k' = p.1
      · have : ¬ k' = k := fun e => h1 (e ▸ h2)
        simp [h2, show ¬ p.1 = k from fun e => h1 e.symm]
      · rw [List.find?_cons_of_neg (by simpa using h2), List.find?_cons_of_neg (by simpa using h2)]
        exact ih
end Go.Proofs.YtblcgcibkikgeaaGreatDoor.M
end
section
namespace Go.Proofs.YtblcgcibkikgeaaGreatDoor.RF
open Go Go.RowKit
variable {F : Fence} {n : Nat} {P : Program}
def Turns (b : Nat) (A B : World) : Prop := A.grownBy B (some b)
theorem Turns.of_below {b : Nat} {A B : World} (h : Below A.heap.size A B) : Turns b A B := ⟨h.os, h.tape, h.output, h.size, fun i hi _ => h.block i hi⟩
theorem Turns.set {b : Nat} (W : World) (v : Value) : Turns b W (W.setCell ⟨b, 0, none⟩ v) := grownBy_setCell' W b v
def Gives {α : Type} (F : Fence) (n : Nat) (P : Program) (g : Nat) (lb : Array Value) (encs : α → Array Value) (n₀ b : Nat) (xs : List α) (w : World) : Prop :=
  ∀ (l : Nat) (J : List α → World → Prop) (Jx : World → Prop) (W : World), Below w.heap.size w W →
    (∀ s A B, J s A → Turns b A B → J s B) → (∀ A B, Jx A → Turns b A B → Jx B) →
    (∀ pre x rest W1, xs = pre ++ x :: rest → J pre W1 → YieldAt F (n - 1) P l (encs x) W1 fun e W' =>
      (e = .returned (.bool true) ∧ J (pre ++ [x]) W' ∧ W'.heap[b]? = W1.heap[b]? ∧ Below n₀ W1 W') ∨ (e = .returned (.bool false) ∧ Jx W')) →
    J [] W →
    CallsIn F n P g (#[.func (.yield l) #[] #[]] ++ lb) W fun e W' => (∃ v, e = .returned v) ∧ (J xs W' ∨ Jx W')
def bodyEnds {α : Type} (n₀ b : Nat) (I : List α → World → Prop) (Ix : Code → World → Prop) (xs : List α) (W : World) : Exit → Act → World → Prop
  | .normal, _, W' => KeepsOthers W W' ∧ W'.heap[b]? = W.heap[b]? ∧ Below n₀ W W' ∧ I xs W'
  | .ret, _, W' => KeepsOthers W W' ∧ Ix .ret W'
  | .exit id, _, W' => KeepsOthers W W' ∧ Ix (.exit id) W'
  | .goto t, _, W' => KeepsOthers W W' ∧ Ix (.goto t) W'
  | .panic _, _, _ => False
  | .outgrown, _, _ => False
def Abide {β : Type} (b B : Nat) (I : β → World → Prop) : Prop :=
  (∀ s A C, I s A → Turns b A C → I s C) ∧ OwnFrom B I
theorem abide_boxed {β : Type} {b B B1 : Nat} {t : TypeId} (f : β → Value) (h : B1 ≠ b) : Abide b B (fun s W => Boxed W B1 t (f s)) :=
  ⟨fun s A C hs ht => hs.kept ht (fun e => h (Option.some.inj e)), fun s A C row hs hg hr => hs.kept hg (fun e => by
    obtain ⟨_, o, ho, hc⟩ := hr B1 e.symm
    rw [show A.heap[B1]? = _ from hs] at ho
    cases ho
    cases hc)⟩
theorem abide_pure {β : Type} {b B : Nat} (p : β → Prop) : Abide b B (fun s (_ : World) => p s) := ⟨fun _ _ _ hs _ => hs, fun _ _ _ _ hs _ _ => hs⟩
theorem Abide.and {β : Type} {b B : Nat} {I I' : β → World → Prop} (h : Abide b B I) (h' : Abide b B I') : Abide b B (fun s W => I s W ∧ I' s W) :=
  ⟨fun s A C hs ht => ⟨h.1 s A C hs.1 ht, h'.1 s A C hs.2 ht⟩, h.2.and h'.2⟩
theorem abide_below {β : Type} {b B : Nat} {w0 : World} (hb : w0.heap.size ≤ b) (hB : w0.heap.size ≤ B) : Abide b B (fun (_ : β) W => Below w0.heap.size w0 W) :=
  ⟨fun _ A C hs ht => ⟨ht.os.trans hs.os, ht.tape.trans hs.tape, ht.output.trans hs.output, Nat.le_trans hs.size ht.size, fun k hk =>
    (ht.block k (Nat.lt_of_lt_of_le hk hs.size) (fun e => by have := Option.some.inj e; omega)).trans (hs.block k hk)⟩, ownFrom_below (Nat.le_refl _) hB⟩
theorem abide_row {β : Type} {b B : Nat} (n₀ B1 : Nat) (t e : TypeId) (size : Nat) (k : β → Nat) (f : β → List Value) (h : B1 ≠ b) :
    Abide b B (fun s W => ∃ v, Boxed W B1 t v ∧ W.ownsRow n₀ e size v (k s) (f s) ∧ v.ownBlock ≠ some b) :=
  ⟨fun s A C hs ht => by obtain ⟨v, h1, h2, h3⟩ := hs; exact ⟨v, h1.kept ht (fun e => h (Option.some.inj e)), h2.kept ht (.inr h3), h3⟩,
   (holdsRow_own n₀ B1 t e size k f (fun _ v => v.ownBlock ≠ some b)).from B⟩
theorem row_from {W : World} {base : Nat} {e : TypeId} {size : Nat} {v : Value} {k : Nat} {xs : List Value} (h : W.ownsRow base e size v k xs) (j : Nat) (hj : v.ownBlock = some j) : base ≤ j := by
  rcases h.2 with ⟨rfl, _⟩ | ⟨g, cap, cur, rfl, hb, _, _⟩
  · simp [Value.ownBlock] at hj
  · obtain rfl : g = j := by simpa [Value.ownBlock] using hj
    exact hb
theorem row_grew {W w2 : World} {base n₀ : Nat} {e : TypeId} {size : Nat} {v : Value} {k : Nat} {xs : List Value} {tmp : Obj} (h : W.ownsRow base e size v k xs) (hn : n₀ ≤ base) (hs : n₀ ≤ W.heap.size) (hg : (W.alloc tmp).grownBy w2 v.ownBlock) :
    (∀ j t u, j < base → Boxed W j t u → Boxed w2 j t u) ∧ KeepsOthers W w2 ∧ Below n₀ W w2 ∧ (∀ j, j < base → j < W.heap.size → w2.heap[j]? = W.heap[j]?) := by
  have hne : ∀ j, j < base → some j ≠ v.ownBlock := fun j hj e => by have := row_from h j e.symm; omega
  refine ⟨fun j t u hj hb => (hb.alloc tmp).kept hg (hne j hj), ?_, ?_, fun j hj hl => ?_⟩
  · refine (KeepsOthers.alloc W tmp).trans (KeepsOthers.of_grownBy hg fun j o ej hj => ?_)
    rcases (h.alloc tmp).2 with ⟨rfl, _⟩ | ⟨g, cap, cur, rfl, _, hgb, _⟩
    · simp [Value.ownBlock] at ej
    · obtain rfl : g = j := by simpa [Value.ownBlock] using ej
      rw [hgb] at hj; cases hj; rfl
  · exact ((Below.refl n₀ W).alloc hs tmp).grown hg (by simp; omega) fun j ej => Nat.le_trans hn (row_from h j ej)
  · exact (hg.block j (by simp; omega) (hne j hj)).trans (Below.heap_alloc W tmp j hl)
theorem below_putObj {w W : World} {D : Nat} {o : Obj} (hD : w.heap.size ≤ D) (h : Below w.heap.size w W) : Below w.heap.size w (W.putObj D o) :=
  h.trans ⟨rfl, rfl, rfl, by simp, fun k hk => World.putObj_heap_other (by omega)⟩
theorem range_gives {α : Type} {g : Operand} {ps : Array Tmp} {assign body : Code} {Q : Exit → Act → World → Prop} {a : Act} {w : World}
    (hro : F.round = none) (h1 : 1 ≤ n) {gf : Nat} {lb : Array Value} (hg : a.eval g = .func (.func gf) #[] lb) (hFg : F.fn gf) (eg : ∀ args w, (callFunc gf args).run P w = .ok (.enter gf args) w)
    {encs : α → Array Value} {n₀ b : Nat} {xs : List α} {w0 : World} (hseq : Gives F (n - 1) P gf lb encs n₀ b xs w0) (hn0 : n₀ ≤ w.heap.size) (hb0 : Below w0.heap.size w0 w) (hps : ∀ x, (encs x).size = ps.size) (hbl : b < w.heap.size)
    (I : List α → World → Prop) (Ix : Code → World → Prop) (hI : Abide b w.heap.size I) (hIx : ∀ c, Abide b w.heap.size (fun (_ : Unit) W => Ix c W)) (h0 : I [] w) (a₁ : α → Act)
    (hassign : ∀ (l : Nat) (x : α) (W : World) (K : Act → World → Prop), K (a₁ x) W →
      assign.wpIn (F.inRound l) (n - 1 - 1) P (Exit.then K (fun _ _ _ => False)) { tmps := (ps.zip (encs x)).foldl (fun t (p, v) => t.setIfInBounds p v) a.tmps, defers := [] } W)
    (hbody : ∀ (l : Nat) (pre rest : List α) (x : α) (W : World), w.heap.size ≤ W.heap.size → xs = pre ++ x :: rest → I pre W → body.wpIn (F.inRound l) (n - 1 - 1) P (bodyEnds n₀ b I Ix (pre ++ [x]) W) (a₁ x) W)
    (hdone : ∀ (D : Nat) (W : World), w.heap.size ≤ D → I xs W → W.heap[D]? = some (.deferred (some [])) → Q .normal { a with defers := { target := .collected D, args := #[] } :: a.defers } W)
    (hstop : ∀ (D : Nat) (c : Code) (W : World), w.heap.size ≤ D → Ix c W → W.heap[D]? = some (.deferred (some [])) → c.wpIn F n P Q { a with defers := { target := .collected D, args := #[] } :: a.defers } W) :
    (Code.rangeFunc g ps assign body).wpIn F n P Q a w := by
  refine wpIn_rangeFunc ?_
  intro fn hfn
  rw [hro]
  have key : ∀ W1 : World, ∀ st : LoopState → Option Code → Loop, (∀ s p, (st s p).state = s) → (∀ s p, (st s p).pending = p) → (∀ s p, (st s p).params = ps) →
      (∀ s p s', { st s p with state := s' } = st s' p) → (∀ s p s' p', { st s p with state := s', pending := p' } = st s' p') → (∀ s p, (st s p).fn = fn) → (∀ s p, (st s p).tmps = a.tmps) → (∀ s p, (st s p).assign = assign) → (∀ s p, (st s p).body = body) →
      Below w.heap.size w W1 → W1.heap[w.heap.size + 1]? = some (.loop (st .ready none)) → W1.heap[w.heap.size]? = some (.deferred (some [])) → I [] W1 →
      CallsIn F (n - 1) P gf (#[.func (.yield (w.heap.size + 1)) #[] #[]] ++ lb) W1 (rangePost F n P (w.heap.size + 1) Q { a with defers := [{ target := .collected w.heap.size, args := #[] }] ++ a.defers }) := by
    intro W1 st e1 e2 e3 e4 e5 e6 e7 e8 e9 hB hl1 hk1 hi1
    have put : ∀ {A : World} {o : Obj} (o' : Obj), A.heap[w.heap.size + 1]? = some o → A.heap[w.heap.size]? = some (.deferred (some [])) →
        (A.putObj (w.heap.size + 1) o').heap[w.heap.size + 1]? = some o' ∧ (A.putObj (w.heap.size + 1) o').heap[w.heap.size]? = some (.deferred (some [])) ∧ (A.putObj (w.heap.size + 1) o').heap[b]? = A.heap[b]? := fun o' ho hk =>
      ⟨World.putObj_heap_same (Array.getElem?_eq_some_iff.1 ho).1, (World.putObj_heap_other (by omega)).trans hk, World.putObj_heap_other (by omega)⟩
    have turn : ∀ {A C : World} {o : Obj} {i : Nat}, Turns b A C → w.heap.size ≤ i → A.heap[i]? = some o → C.heap[i]? = some o := fun {A C o i} ht hi ho =>
      (ht.block i (Array.getElem?_eq_some_iff.1 ho).1 (fun e => by cases e; omega)).trans ho
    refine (hseq (w.heap.size + 1)
      (fun pre W => I pre W ∧ W.heap[w.heap.size + 1]? = some (.loop (st .ready none)) ∧ W.heap[w.heap.size]? = some (.deferred (some [])))
      (fun W => ∃ c, Ix c W ∧ W.heap[w.heap.size + 1]? = some (.loop (st .done (some c))) ∧ W.heap[w.heap.size]? = some (.deferred (some [])))
      W1 (hb0.trans (hB.mono hb0.size))
      (fun s A C hs ht => ⟨hI.1 s A C hs.1 ht, turn ht (by omega) hs.2.1, turn ht (Nat.le_refl _) hs.2.2⟩)
      (fun A C hs ht => by obtain ⟨c, hc, hl, hk⟩ := hs; exact ⟨c, (hIx c).1 () A C hc ht, turn ht (by omega) hl, turn ht (Nat.le_refl _) hk⟩)
      ?_ ⟨hi1, hl1, hk1⟩).mono ?_
    · rintro pre x rest W hx ⟨hi, hl, hk⟩
      have hy := run_yield (P := P) (args := encs x) hl (by rw [e3]; exact hps x)
      rw [e3, e6, e7, e8, e9] at hy
      refine ⟨fn, _, assign, body, hy, roundIn_of_wpIn hfn (hassign _ x W _ ⟨_, run_beginRound hl (e1 _ _), ?_⟩)⟩
      rw [e4]
      obtain ⟨p1, p2, p3⟩ := put (.loop (st .busy none)) hl hk
      have hi2 := hI.2.putObj (.loop (st .busy none)) hi (by omega) hl rfl
      have pB2 : ∀ (W : World) {o : Obj}, Below n₀ W (W.putObj (w.heap.size + 1) o) := fun W o => ⟨rfl, rfl, rfl, by simp, fun k hk => World.putObj_heap_other (by omega)⟩
      have pB : Below n₀ W (W.putObj (w.heap.size + 1) (.loop (st .busy none))) := pB2 W
      refine wpIn_mono (hbody _ pre rest x _ (by have := (Array.getElem?_eq_some_iff.1 p1).1; omega) hx hi2) ?_
      have fin : ∀ (jump : Option Code) (W3 : World), KeepsOthers (W.putObj (w.heap.size + 1) (.loop (st .busy none))) W3 →
          (Instr.endRound (w.heap.size + 1) jump).run P W3 = .ok (.bool jump.isNone) (W3.putObj (w.heap.size + 1) (.loop (st (if jump.isNone then .ready else .done) jump))) ∧
          W3.heap[w.heap.size + 1]? = some (.loop (st .busy none)) ∧ W3.heap[w.heap.size]? = some (.deferred (some [])) := fun jump W3 hk3 => by
        have hl3 := hk3.same _ _ p1 rfl
        have h := run_endRound (P := P) jump hl3
        rw [e5] at h
        exact ⟨h, hl3, hk3.same _ _ p2 rfl⟩
      rintro e a3 W3 hp
      cases e with
      | normal =>
        obtain ⟨hk3, hb3, hB3, hi3⟩ := hp
        obtain ⟨hr, hl3, hd3⟩ := fin none W3 hk3
        obtain ⟨q1, q2, q3⟩ := put (.loop (st .ready none)) hl3 hd3
        exact ⟨_, _, hr, .inl ⟨rfl, ⟨hI.2.putObj _ hi3 (by omega) hl3 rfl, q1, q2⟩, q3.trans (hb3.trans p3), (pB.trans hB3).trans (pB2 W3)⟩⟩
      | ret =>
        obtain ⟨hk3, hi3⟩ := hp
        obtain ⟨hr, hl3, hd3⟩ := fin (some .ret) W3 hk3
        obtain ⟨q1, q2, q3⟩ := put (.loop (st .done (some .ret))) hl3 hd3
        exact ⟨_, _, hr, .inr ⟨rfl, .ret, (hIx .ret).2.putObj (s := ()) _ hi3 (by omega) hl3 rfl, q1, q2⟩⟩
      | exit id =>
        obtain ⟨hk3, hi3⟩ := hp
        obtain ⟨hr, hl3, hd3⟩ := fin (some (.exit id)) W3 hk3
        obtain ⟨q1, q2, q3⟩ := put (.loop (st .done (some (.exit id)))) hl3 hd3
        exact ⟨_, _, hr, .inr ⟨rfl, .exit id, (hIx (.exit id)).2.putObj (s := ()) _ hi3 (by omega) hl3 rfl, q1, q2⟩⟩
      | goto t =>
        obtain ⟨hk3, hi3⟩ := hp
        obtain ⟨hr, hl3, hd3⟩ := fin (some (.goto t)) W3 hk3
        obtain ⟨q1, q2, q3⟩ := put (.loop (st .done (some (.goto t)))) hl3 hd3
        exact ⟨_, _, hr, .inr ⟨rfl, .goto t, (hIx (.goto t)).2.putObj (s := ()) _ hi3 (by omega) hl3 rfl, q1, q2⟩⟩
      | panic ch => exact hp.elim
      | outgrown => exact hp.elim
    · rintro e W2 ⟨⟨v, rfl⟩, (⟨hi, hl, hk⟩ | ⟨c, hi, hl, hk⟩)⟩
      · have h := run_endLoop (P := P) hl (by rw [e1]; simp)
        rw [e2] at h
        exact ⟨none, _, h, hdone _ _ (Nat.le_refl _) (hI.2.putObj _ hi (by omega) hl rfl) ((World.putObj_heap_other (by omega)).trans hk)⟩
      · have h := run_endLoop (P := P) hl (by rw [e1]; simp)
        rw [e2] at h
        exact ⟨some c, _, h, hstop _ c _ (Nat.le_refl _) ((hIx c).2.putObj (s := ()) _ hi (by omega) hl rfl) ((World.putObj_heap_other (by omega)).trans hk)⟩
  obtain ⟨W1, hW1⟩ : ∃ W1, (w.alloc (.deferred (some []))).alloc (.loop { state := .ready, pending := none, fn := fn, tmps := a.tmps, params := ps, assign := assign, body := body, defers := w.heap.size }) = W1 := ⟨_, rfl⟩
  refine ⟨w.heap.size + 1, [{ target := .collected w.heap.size, args := #[] }], W1, { target := .fn (.func gf) lb, args := #[.func (.yield (w.heap.size + 1)) #[] #[]] }, W1, gf,
    #[.func (.yield (w.heap.size + 1)) #[] #[]] ++ lb, W1, ?_, ?_, ?_, ?_, fun _ => h1, ?_⟩
  · rw [← hW1]; exact run_enterLoop_outer _ _ _ _ _
  · simp only [resolve, hg]
    simp [go_sem]
  · intro f' hf'; simp [Target.leads] at hf'; subst hf'; exact hFg
  · simp [invoke, go_sem, eg]
  · rw [← hW1]
    refine key _ (fun s p => { state := s, pending := p, fn := fn, tmps := a.tmps, params := ps, assign := assign, body := body, defers := w.heap.size }) (fun _ _ => rfl) (fun _ _ => rfl) (fun _ _ => rfl) (fun _ _ _ => rfl) (fun _ _ _ _ => rfl) (fun _ _ => rfl) (fun _ _ => rfl) (fun _ _ => rfl) (fun _ _ => rfl) ?_ ?_ ?_ ?_
    · exact ((Below.refl _ w).alloc (Nat.le_refl _) _).alloc (by simp) _
    · have := World.alloc_heap_new (w.alloc (.deferred (some []))) (.loop { state := .ready, pending := none, fn := fn, tmps := a.tmps, params := ps, assign := assign, body := body, defers := w.heap.size }); rwa [World.size_alloc] at this
    · exact (Below.heap_alloc _ _ _ (by simp)).trans (World.alloc_heap_new w _)
    · exact hI.2.alloc _ (hI.2.alloc _ h0)
end Go.Proofs.YtblcgcibkikgeaaGreatDoor.RF
end
section
namespace Go.Proofs.YtblcgcibkikgeaaGreatDoor.P
open Go
def cut1 (c : UInt8) : List UInt8 → List UInt8 × List UInt8 × Bool
  | [] => ([], [], false)
  | x :: l => if x = c then ([], l, true) else (x :: (cut1 c l).1, (cut1 c l).2.1, (cut1 c l).2.2)
def splitC (c : UInt8) : List UInt8 → List (List UInt8)
  | [] => [[]]
  | x :: l => if x = c then [] :: splitC c l else (x :: (splitC c l).headD []) :: (splitC c l).tail
theorem splitC_cons (c x : UInt8) (l : List UInt8) : splitC c (x :: l) = if x = c then [] :: splitC c l else (x :: (splitC c l).headD []) :: (splitC c l).tail := rfl
theorem cut1_cons (c x : UInt8) (l : List UInt8) : cut1 c (x :: l) = if x = c then ([], l, true) else (x :: (cut1 c l).1, (cut1 c l).2.1, (cut1 c l).2.2) := rfl
theorem splitC_ne (c : UInt8) (l : List UInt8) : splitC c l ≠ [] := by
  cases l with
  | nil => simp [splitC]
  | cons x l => unfold splitC; split <;> simp
theorem splitC_cut (c : UInt8) (l : List UInt8) : splitC c l = if (cut1 c l).2.2 then (cut1 c l).1 :: splitC c (cut1 c l).2.1 else [l] := by
  induction l with
  | nil => rfl
  | cons x l ih =>
    rw [splitC_cons, cut1_cons]
    by_cases h : x = c
    · simp only [h, if_true]
    · simp only [h, if_false]
      cases hc : (cut1 c l).2.2
      · rw [hc] at ih; rw [ih]; rfl
      · rw [hc] at ih; rw [ih]; rfl
theorem cut1_no {c : UInt8} {l : List UInt8} (h : (cut1 c l).2.2 = false) : cut1 c l = (l, [], false) := by
  induction l with
  | nil => rfl
  | cons x l ih =>
    unfold cut1 at h ⊢
    by_cases hx : x = c
    · simp [hx] at h
    · simp only [hx, if_false] at h ⊢
      rw [ih h]
theorem cut1_len {c : UInt8} {l : List UInt8} : (cut1 c l).1.length + (cut1 c l).2.1.length ≤ l.length ∧ ((cut1 c l).2.2 = true → (cut1 c l).2.1.length < l.length) := by
  induction l with
  | nil => simp [cut1]
  | cons x l ih =>
    unfold cut1
    by_cases hx : x = c
    · simp [hx]
    · simp only [hx, if_false, List.length_cons]
      exact ⟨by omega, fun h => by have := ih.2 h; omega⟩
theorem index_one (c : UInt8) (l : List UInt8) : Lib.index l [c] = if (cut1 c l).2.2 then ((cut1 c l).1.length : Int) else -1 := by
  induction l with
  | nil => rfl
  | cons x l ih =>
    unfold Lib.index cut1
    by_cases hx : x = c
    · simp [hx, List.isPrefixOf]
    · have hx' : ¬ c = x := fun e => hx e.symm
      simp only [hx, if_false, List.isPrefixOf, Bool.and_true, beq_iff_eq, hx']
      rw [ih]
      cases h : (cut1 c l).2.2
      · simp
      · simp only [if_true, List.length_cons]
        rw [if_neg (by simp)]
        omega
theorem cut1_take (c : UInt8) (l : List UInt8) (h : (cut1 c l).2.2 = true) : l.take (cut1 c l).1.length = (cut1 c l).1 ∧ l.drop ((cut1 c l).1.length + 1) = (cut1 c l).2.1 := by
  induction l with
  | nil => simp [cut1] at h
  | cons x l ih =>
    unfold cut1 at h ⊢
    by_cases hx : x = c
    · simp [hx]
    · simp only [hx, if_false] at h ⊢
      simp [ih h]
theorem cut_one (c : UInt8) (l : List UInt8) : Lib.cut l [c] = cut1 c l := by
  unfold Lib.cut
  rw [index_one]
  cases h : (cut1 c l).2.2
  · simp [cut1_no h]
  · obtain ⟨h1, h2⟩ := cut1_take c l h
    have h0 : (0 : Int) ≤ ((cut1 c l).1.length : Int) := Int.natCast_nonneg _
    simp only [if_true, h0, Int.toNat_natCast, List.length_singleton, h1, h2]
    rw [← h]
theorem splitB_one (c : UInt8) : ∀ (k : Nat) (s : ByteArray), s.size ≤ k → (Lib.splitB ⟨#[c]⟩ 0 (Lib.countB s ⟨#[c]⟩) s).map (·.data.toList) = splitC c s.data.toList := by
  intro k
  induction k with
  | zero =>
    intro s hs
    have hl : s.data.toList = [] := by
      have : s.data.toList.length = s.size := by rw [Array.length_toList]; rfl
      exact List.length_eq_zero_iff.1 (by omega)
    have hi : Lib.indexB s ⟨#[c]⟩ = -1 := by unfold Lib.indexB; rw [hl]; rfl
    rw [Lib.splitB_miss _ _ _ _ hi, List.map_cons, hl]
    rfl
  | succ k ih =>
    intro s hs
    have hix : Lib.indexB s ⟨#[c]⟩ = if (cut1 c s.data.toList).2.2 then ((cut1 c s.data.toList).1.length : Int) else -1 := index_one c s.data.toList
    have hlen : s.data.toList.length = s.size := by rw [Array.length_toList]; rfl
    cases h : (cut1 c s.data.toList).2.2 with
    | false =>
      rw [h] at hix
      rw [Lib.splitB_miss _ _ _ _ (by simpa using hix), splitC_cut, h]
      rfl
    | true =>
      rw [h] at hix
      simp only [if_true] at hix
      obtain ⟨h1, h2⟩ := cut1_take c _ h
      have hl := (cut1_len (c := c) (l := s.data.toList)).2 h
      have hsz : (⟨#[c]⟩ : ByteArray).size = 1 := rfl
      rw [Lib.countB_hit s ⟨#[c]⟩ _ (by rw [hsz]; omega) hix, Nat.add_comm 1, Lib.splitB_hit _ _ _ _ _ hix, List.map_cons, splitC_cut, h, if_pos rfl, ih _ (by rw [ByteArray.size_extract, hsz]; omega)]
      have e1 : (s.extract 0 ((cut1 c s.data.toList).1.length + 0)).data.toList = (cut1 c s.data.toList).1 := by
        rw [Nat.add_zero, Lib.extract_from_zero, h1]
      have e2 : (s.extract ((cut1 c s.data.toList).1.length + (⟨#[c]⟩ : ByteArray).size) s.size).data.toList = (cut1 c s.data.toList).2.1 := by
        rw [Lib.extract_to_end, hsz, h2]
      rw [e1, e2]
def segsB (c : UInt8) (s : ByteArray) : List ByteArray := (splitC c s.data.toList).map fun l => ⟨l.toArray⟩
theorem segsB_cut (c : UInt8) (s : ByteArray) : segsB c s = if (cut1 c s.data.toList).2.2 then ⟨(cut1 c s.data.toList).1.toArray⟩ :: segsB c ⟨(cut1 c s.data.toList).2.1.toArray⟩ else [s] := by
  unfold segsB
  rw [splitC_cut]
  cases (cut1 c s.data.toList).2.2
  · rfl
  · rfl
theorem splitB_segs (c : UInt8) (s : ByteArray) : Lib.splitB ⟨#[c]⟩ 0 (Lib.countB s ⟨#[c]⟩) s = segsB c s := by
  unfold segsB
  rw [← splitB_one c _ s (Nat.le_refl _), List.map_map]
  conv => lhs; rw [← List.map_id (Lib.splitB _ _ _ _)]
  exact List.map_congr_left fun x _ => by cases x; rfl
end Go.Proofs.YtblcgcibkikgeaaGreatDoor.P
end
section
namespace Go.Proofs
open Go.Shelf
def Tryz.lays144_ren : Go.Shelf.Ren := ⟨fun | 144 => 107 | 143 => 155 | 219 => 176 | 217 => 219 | 225 => 220 | 224 => 221 | 267 => 222 | 266 => 245 | 314 => 246 | n => n, fun | 9 => 9 | 4 => 4 | 3 => 3 | 5 => 5 | 46 => 151 | 146 => 264 | 51 => 196 | n => n, fun | 1 => 0 | n => n⟩
theorem Tryz.lays144 : Go.Proofs.Lays.n144 Tryz.prog Tryz.lays144_ren := {
  mixed := by kernel_rfl
  f143 := Tryz.func155.trans (congrArg some (by kernel_rfl))
  f144 := Tryz.func107.trans (congrArg some (by kernel_rfl))
  f217 := Tryz.func219.trans (congrArg some (by kernel_rfl))
  f219 := Tryz.func176.trans (congrArg some (by kernel_rfl))
  f224 := Tryz.func221.trans (congrArg some (by kernel_rfl))
  f225 := Tryz.func220.trans (congrArg some (by kernel_rfl))
  f266 := Tryz.func245.trans (congrArg some (by kernel_rfl))
  f267 := Tryz.func222.trans (congrArg some (by kernel_rfl))
  f314 := Tryz.func246.trans (congrArg some (by kernel_rfl))
  t3 := Tryz.underlying3
  a3 := Tryz.isAgg3
  z3 := Tryz.sizeOf3
  v3 := Tryz.zeroValue3
  t4 := Tryz.underlying4
  a4 := Tryz.isAgg4
  z4 := Tryz.sizeOf4
  v4 := Tryz.zeroValue4
  t5 := Tryz.underlying5
  a5 := Tryz.isAgg5
  z5 := Tryz.sizeOf5
  v5 := Tryz.zeroValue5
  t9 := Tryz.underlying9
  a9 := Tryz.isAgg9
  z9 := Tryz.sizeOf9
  v9 := Tryz.zeroValue9
  t46 := Tryz.underlying151
  a46 := Tryz.isAgg151
  z46 := Tryz.sizeOf151
  v46 := Tryz.zeroValue151
  t51 := Tryz.underlying196
  a51 := Tryz.isAgg196
  z51 := Tryz.sizeOf196
  v51 := Tryz.zeroValue196
  t146 := Tryz.underlying264
  a146 := Tryz.isAgg264
  z146 := Tryz.sizeOf264
  v146 := Tryz.zeroValue264
  g1 := by kernel_rfl }
open Go.RowKit Go.Lib in
theorem Tryz.strings_Contains (s sub : ByteArray) (m : Int) (w : World) (hs : s.size < 4294967281) (hm : w.cell? ⟨0, 0, none⟩ = some (.int .i64 m)) :
    Calls Tryz.prog 107 #[.string s, .string sub] w fun e w' => e = .returned (.bool (Lib.contains s.data.toList sub.data.toList)) ∧ w' = w := Any.strings_Contains Tryz.lays144 s sub m w hs hm
def Tryz.lays145_ren : Go.Shelf.Ren := ⟨fun | 145 => 79 | 220 => 125 | 219 => 176 | 217 => 219 | 225 => 220 | 224 => 221 | 267 => 222 | 266 => 245 | 314 => 246 | n => n, fun | 9 => 9 | 4 => 4 | 59 => 116 | 3 => 3 | 5 => 5 | 46 => 151 | 146 => 264 | 51 => 196 | n => n, fun | 1 => 0 | n => n⟩
theorem Tryz.lays145 : Go.Proofs.Lays.n145 Tryz.prog Tryz.lays145_ren := {
  mixed := by kernel_rfl
  f145 := Tryz.func79.trans (congrArg some (by kernel_rfl))
  f217 := Tryz.func219.trans (congrArg some (by kernel_rfl))
  f219 := Tryz.func176.trans (congrArg some (by kernel_rfl))
  f220 := Tryz.func125.trans (congrArg some (by kernel_rfl))
  f224 := Tryz.func221.trans (congrArg some (by kernel_rfl))
  f225 := Tryz.func220.trans (congrArg some (by kernel_rfl))
  f266 := Tryz.func245.trans (congrArg some (by kernel_rfl))
  f267 := Tryz.func222.trans (congrArg some (by kernel_rfl))
  f314 := Tryz.func246.trans (congrArg some (by kernel_rfl))
  t3 := Tryz.underlying3
  a3 := Tryz.isAgg3
  z3 := Tryz.sizeOf3
  v3 := Tryz.zeroValue3
  t4 := Tryz.underlying4
  a4 := Tryz.isAgg4
  z4 := Tryz.sizeOf4
  v4 := Tryz.zeroValue4
  t5 := Tryz.underlying5
  a5 := Tryz.isAgg5
  z5 := Tryz.sizeOf5
  v5 := Tryz.zeroValue5
  t9 := Tryz.underlying9
  a9 := Tryz.isAgg9
  z9 := Tryz.sizeOf9
  v9 := Tryz.zeroValue9
  t46 := Tryz.underlying151
  a46 := Tryz.isAgg151
  z46 := Tryz.sizeOf151
  v46 := Tryz.zeroValue151
  t51 := Tryz.underlying196
  a51 := Tryz.isAgg196
  z51 := Tryz.sizeOf196
  v51 := Tryz.zeroValue196
  t59 := Tryz.underlying116
  a59 := Tryz.isAgg116
  z59 := Tryz.sizeOf116
  v59 := Tryz.zeroValue116
  t146 := Tryz.underlying264
  a146 := Tryz.isAgg264
  z146 := Tryz.sizeOf264
  v146 := Tryz.zeroValue264
  g1 := by kernel_rfl }
open Go.RowKit Go.Lib in
theorem Tryz.strings_Cut (s sep : ByteArray) (m : Int) (w : World) (hs : s.size < 4294967281) (hm : w.cell? ⟨0, 0, none⟩ = some (.int .i64 m)) :
    Calls Tryz.prog 79 #[.string s, .string sep] w fun e w' => e = .returned (.tuple #[.string ⟨(Lib.cut s.data.toList sep.data.toList).1.toArray⟩, .string ⟨(Lib.cut s.data.toList sep.data.toList).2.1.toArray⟩, .bool (Lib.cut s.data.toList sep.data.toList).2.2]) ∧ ∃ n, w' = w.drewN n := Any.strings_Cut Tryz.lays145 s sep m w hs hm
def Tryz.lays146_ren : Go.Shelf.Ren := ⟨fun | 146 => 76 | 221 => 124 | 268 => 174 | 138 => 175 | 143 => 155 | 195 => 216 | 197 => 217 | 218 => 218 | 219 => 176 | 260 => 244 | 217 => 219 | 225 => 220 | 224 => 221 | 267 => 222 | 266 => 245 | 314 => 246 | n => n, fun | 9 => 9 | 31 => 36 | 3 => 3 | 4 => 4 | 0 => 0 | 105 => 243 | 21 => 21 | 5 => 5 | 46 => 151 | 119 => 282 | 139 => 285 | 138 => 284 | 146 => 264 | 51 => 196 | n => n, fun | 1 => 0 | 3 => 1 | 4 => 2 | n => n⟩
theorem Tryz.lays146 : Go.Proofs.Lays.n146 Tryz.prog Tryz.lays146_ren := {
  mixed := by kernel_rfl
  f138 := Tryz.func175.trans (congrArg some (by kernel_rfl))
  f143 := Tryz.func155.trans (congrArg some (by kernel_rfl))
  f146 := Tryz.func76.trans (congrArg some (by kernel_rfl))
  f195 := Tryz.func216.trans (congrArg some (by kernel_rfl))
  f197 := Tryz.func217.trans (congrArg some (by kernel_rfl))
  f217 := Tryz.func219.trans (congrArg some (by kernel_rfl))
  f218 := Tryz.func218.trans (congrArg some (by kernel_rfl))
  f219 := Tryz.func176.trans (congrArg some (by kernel_rfl))
  f221 := Tryz.func124.trans (congrArg some (by kernel_rfl))
  f224 := Tryz.func221.trans (congrArg some (by kernel_rfl))
  f225 := Tryz.func220.trans (congrArg some (by kernel_rfl))
  f260 := Tryz.func244.trans (congrArg some (by kernel_rfl))
  f266 := Tryz.func245.trans (congrArg some (by kernel_rfl))
  f267 := Tryz.func222.trans (congrArg some (by kernel_rfl))
  f268 := Tryz.func174.trans (congrArg some (by kernel_rfl))
  f314 := Tryz.func246.trans (congrArg some (by kernel_rfl))
  t0 := Tryz.underlying0
  a0 := Tryz.isAgg0
  z0 := Tryz.sizeOf0
  v0 := Tryz.zeroValue0
  t3 := Tryz.underlying3
  a3 := Tryz.isAgg3
  z3 := Tryz.sizeOf3
  v3 := Tryz.zeroValue3
  t4 := Tryz.underlying4
  a4 := Tryz.isAgg4
  z4 := Tryz.sizeOf4
  v4 := Tryz.zeroValue4
  t5 := Tryz.underlying5
  a5 := Tryz.isAgg5
  z5 := Tryz.sizeOf5
  v5 := Tryz.zeroValue5
  t9 := Tryz.underlying9
  a9 := Tryz.isAgg9
  z9 := Tryz.sizeOf9
  v9 := Tryz.zeroValue9
  t21 := Tryz.underlying21
  a21 := Tryz.isAgg21
  z21 := Tryz.sizeOf21
  v21 := Tryz.zeroValue21
  t31 := Tryz.underlying36
  a31 := Tryz.isAgg36
  z31 := Tryz.sizeOf36
  v31 := Tryz.zeroValue36
  t46 := Tryz.underlying151
  a46 := Tryz.isAgg151
  z46 := Tryz.sizeOf151
  v46 := Tryz.zeroValue151
  t51 := Tryz.underlying196
  a51 := Tryz.isAgg196
  z51 := Tryz.sizeOf196
  v51 := Tryz.zeroValue196
  t105 := Tryz.underlying243
  a105 := Tryz.isAgg243
  z105 := Tryz.sizeOf243
  v105 := Tryz.zeroValue243
  t119 := Tryz.underlying282
  a119 := Tryz.isAgg282
  z119 := Tryz.sizeOf282
  t138 := Tryz.underlying284
  a138 := Tryz.isAgg284
  z138 := Tryz.sizeOf284
  v138 := Tryz.zeroValue284
  t139 := Tryz.underlying285
  a139 := Tryz.isAgg285
  z139 := Tryz.sizeOf285
  v139 := Tryz.zeroValue285
  t146 := Tryz.underlying264
  a146 := Tryz.isAgg264
  z146 := Tryz.sizeOf264
  v146 := Tryz.zeroValue264
  g1 := by kernel_rfl
  g3 := by kernel_rfl
  g4 := by kernel_rfl }
open Go.RowKit Go.Lib in
theorem Tryz.strings_Split (s sep : ByteArray) (m : Int) (w : World) (hs : s.size < 4294967281) (hm : w.cell? ⟨0, 0, none⟩ = some (.int .i64 m)) (h1 : 1 ≤ sep.size) :
    Calls Tryz.prog 76 #[.string s, .string sep] w fun e w' =>
      e = .returned (.slice (some ⟨w.heap.size, 0, none⟩) (Lib.countB s sep + 1) (Lib.countB s sep + 1)) ∧ w' = w.alloc (.cells ((Lib.splitB sep 0 (Lib.countB s sep) s).map Value.string).toArray 9) := Any.strings_Split Tryz.lays146 (by kernel_rfl) s sep m w hs hm h1
def Tryz.lays194_ren : Go.Shelf.Ren := ⟨fun | 194 => 73 | n => n, fun | 31 => 36 | 9 => 9 | 3 => 3 | 4 => 4 | 0 => 0 | n => n, fun | n => n⟩
theorem Tryz.lays194 : Go.Proofs.Lays.n194 Tryz.prog Tryz.lays194_ren := {
  mixed := by kernel_rfl
  f194 := Tryz.func73.trans (congrArg some (by kernel_rfl))
  t0 := Tryz.underlying0
  a0 := Tryz.isAgg0
  z0 := Tryz.sizeOf0
  v0 := Tryz.zeroValue0
  t3 := Tryz.underlying3
  a3 := Tryz.isAgg3
  z3 := Tryz.sizeOf3
  v3 := Tryz.zeroValue3
  t4 := Tryz.underlying4
  a4 := Tryz.isAgg4
  z4 := Tryz.sizeOf4
  v4 := Tryz.zeroValue4
  t9 := Tryz.underlying9
  a9 := Tryz.isAgg9
  z9 := Tryz.sizeOf9
  v9 := Tryz.zeroValue9
  t31 := Tryz.underlying36
  a31 := Tryz.isAgg36
  z31 := Tryz.sizeOf36
  v31 := Tryz.zeroValue36 }
open Go.RowKit Go.Lib Go.Sort in
theorem Tryz.slices_Compact_string_cells (b off n c : Nat) (Sx : Nat → ByteArray) (w : World) (hbig : n ≤ 9223372036854775807) (hcap : n ≤ c) (hc : ∀ i, i < n → w.cell? ⟨b, off + i, none⟩ = some (.string (Sx i))) (hf : ∀ j, j < n → w.frozen? ⟨b, off + j, none⟩ = false) :
    Calls Tryz.prog 73 #[.slice (some ⟨b, off, none⟩) n c] w fun e w' => e = .returned (.slice (some ⟨b, off, none⟩) (Lib.compact (Lib.strsOf Sx n)).length c) ∧ ∃ q, w' = (w.drewN q).setCells b off ((Lib.compact (Lib.strsOf Sx n) ++ List.replicate (n - (Lib.compact (Lib.strsOf Sx n)).length) []).map encStr) := Any.slices_Compact_string_cells Tryz.lays194 b off n c Sx w hbig hcap hc hf
end Go.Proofs
end
section
namespace Go.Proofs.YtblcgcibkikgeaaGreatDoor.G
open Go.RowKit Go.Proofs.YtblcgcibkikgeaaGreatDoorW.PrintWords Go.Proofs.YtblcgcibkikgeaaGreatDoorW.PrintLast Go.Proofs.YtblcgcibkikgeaaGreatDoorW.PrintMore Go.Proofs.YtblcgcibkikgeaaGreatDoor.K Go.Proofs.YtblcgcibkikgeaaGreatDoor.G1
set_option linter.unusedVariables false
def strings_Cut.f (a0 : ByteArray) (a1 : ByteArray) : Option (ByteArray × ByteArray × Bool) :=
  if a0.size < 4294967281 then some (bsz (Lib.cut a0.data.toList a1.data.toList).1, bsz (Lib.cut a0.data.toList a1.data.toList).2.1, (Lib.cut a0.data.toList a1.data.toList).2.2) else none
theorem strings_Cut.calls (a0 : ByteArray) (a1 : ByteArray) (r1 : ByteArray) (r2 : ByteArray) (r3 : Bool) (w : World) (hL : Laid w) (h : strings_Cut.f a0 a1 = some (r1, r2, r3)) :
    Calls Tryz.prog 79 #[.string a0, .string a1] w fun e w' => e = .returned (.tuple #[.string r1, .string r2, .bool r3]) ∧ Below w.heap.size w w' := by
  unfold strings_Cut.f at h
  split at h
  case isFalse => cases h
  rename_i hs
  simp only [Option.some.injEq, Prod.mk.injEq] at h
  obtain ⟨rfl, rfl, rfl⟩ := h
  obtain ⟨m, hm⟩ := hL.most
  refine (Tryz.strings_Cut a0 a1 m w hs hm).mono ?_
  rintro e w' ⟨rfl, n, rfl⟩
  exact ⟨rfl, pw_below_drewN (Below.refl _ _) n⟩
def strings_Contains.f (a0 : ByteArray) (a1 : ByteArray) : Option (Bool) := if a0.size < 4294967281 then some (Lib.contains a0.data.toList a1.data.toList) else none
theorem strings_Contains.calls (a0 : ByteArray) (a1 : ByteArray) (r : Bool) (w : World) (hL : Laid w) (h : strings_Contains.f a0 a1 = some r) :
    Calls Tryz.prog 107 #[.string a0, .string a1] w fun e w' => e = .returned (.bool r) ∧ Below w.heap.size w w' := by
  unfold strings_Contains.f at h
  split at h
  case isFalse => cases h
  rename_i hs
  simp only [Option.some.injEq] at h
  subst h
  obtain ⟨m, hm⟩ := hL.most
  refine (Tryz.strings_Contains a0 a1 m w hs hm).mono ?_
  rintro e w' ⟨rfl, rfl⟩
  exact ⟨rfl, Below.refl _ _⟩
theorem splitB_len (sep : ByteArray) (h1 : 1 ≤ sep.size) : ∀ (k : Nat) (s : ByteArray), s.size ≤ k → (Lib.splitB sep 0 (Lib.countB s sep) s).length = Lib.countB s sep + 1
  | k, s, hk => by
    rcases Lib.indexB_cases s sep with hix | ⟨i, hix, hroom⟩
    · rw [Lib.countB_miss s sep hix]; rfl
    · cases k with
      | zero => omega
      | succ k =>
        have ih := splitB_len sep h1 k (s.extract (i + sep.size) s.size) (by rw [ByteArray.size_extract]; omega)
        rw [Lib.countB_hit s sep i h1 hix, Nat.add_comm 1]
        have hne : (Lib.indexB s sep == -1) = false := beq_eq_false_iff_ne.2 (by rw [hix]; omega)
        have : Lib.splitB sep 0 (Lib.countB (s.extract (i + sep.size) s.size) sep + 1) s = s.extract 0 ((Lib.indexB s sep).toNat + 0) :: Lib.splitB sep 0 (Lib.countB (s.extract (i + sep.size) s.size) sep) (s.extract ((Lib.indexB s sep).toNat + sep.size) s.size) := by
          conv => lhs; unfold Lib.splitB
          rw [hne]; rfl
        rw [this, hix, List.length_cons, Int.toNat_natCast, ih]
def strings_Split.f (a0 : ByteArray) (a1 : ByteArray) : Option (List ByteArray) := if a0.size < 4294967281 ∧ 1 ≤ a1.size then some (Lib.splitB a1 0 (Lib.countB a0 a1) a0) else none
theorem strings_Split.calls (a0 : ByteArray) (a1 : ByteArray) (r : List ByteArray) (w : World) (hL : Laid w) (h : strings_Split.f a0 a1 = some r) :
    Calls Tryz.prog 76 #[.string a0, .string a1] w fun e w' => ∃ v0_ : Value, e = .returned (v0_) ∧ Kd.R Kd.string 9 w' w.heap.size (fun _ => True) v0_ r ∧ Below w.heap.size w w' := by
  unfold strings_Split.f at h
  split at h
  case isFalse => cases h
  rename_i hs
  simp only [Option.some.injEq] at h
  obtain ⟨m, hm⟩ := hL.most
  have hlen := splitB_len a1 hs.2 _ a0 (Nat.le_refl _)
  have hcl := Lib.countB_le a1 hs.2 _ a0 (Nat.le_refl _)
  refine (Tryz.strings_Split a0 a1 m w hs.1 hm hs.2).mono ?_
  rintro e w' ⟨rfl, rfl⟩
  rw [h] at hlen ⊢
  rw [← hlen]
  refine ⟨_, rfl, ?_, below_alloc (Below.refl _ _) _⟩
  refine Kd.R_of_own (enc := Value.string) (h1 := fun _ => rfl) ⟨by simp [encs], .inr ⟨w.heap.size, r.length, _, rfl, Nat.le_refl _, heap_alloc_new w _, Nat.le_refl _, by unfold maxLen; omega, by simp, ?_⟩⟩ (fun _ _ => trivial)
  rw [List.take_of_length_le (by simp)]
  rfl
theorem infoStr : (Tryz.prog.info? 9).map (fun i => (i.zero, i.size, i.bytes)) = some (some (.string ⟨#[]⟩), 1, 16) := by kernel_rfl
def slices_Clone_string_string.f (l0 : List ByteArray) : Option (List ByteArray) := if l0.length ≤ 1000000000 then some l0 else none
set_option maxHeartbeats 1000000 in
theorem slices_Clone_string_string.calls (A0 : Option Addr) (c0 : Nat) (l0 : List ByteArray) (r : List ByteArray) (w : World) (hr0 : Kd.C Kd.string w A0 l0.length l0) (hc0 : l0.length ≤ c0) (h : slices_Clone_string_string.f l0 = some r) :
    Calls Tryz.prog 64 #[.slice A0 l0.length c0] w fun e w' => ∃ v0_ : Value, e = .returned (v0_) ∧ Kd.R Kd.string 9 w' w.heap.size (fun _ => True) v0_ r ∧ Below w.heap.size w w' := by
  unfold slices_Clone_string_string.f at h
  split at h
  case isFalse => cases h
  rename_i hs
  simp only [Option.some.injEq] at h
  subst h
  cases A0 with
  | none =>
    have hl : l0 = [] := by
      cases l0 with
      | nil => rfl
      | cons x l => obtain ⟨ad, h1, _⟩ := hr0.2.2 (by simp); cases h1
    subst hl
    clear hr0
    have hnil := fun W => run_eql_slice_nil (P := Tryz.prog) W 36 9 none 0 c0 Tryz.underlying36
    go_enter Tryz.func64, Tryz.ntmps64
    go_wp2
    go_ret
    exact ⟨_, rfl, Kd.R_nil _ _ _ _ _, Below.refl _ _⟩
  | some ad =>
    have hnil := fun W => run_eql_slice_nil (P := Tryz.prog) W 36 9 (some ad) l0.length c0 Tryz.underlying36
    have HR := Aside0.mk hr0
    have HC := Aside0.mk hs
    clear hr0 hs hc0
    go_enter Tryz.func64, Tryz.ntmps64
    go_wp2_with (first
      | ((with_reducible refine gate_dst (N := 5) rfl ?_); refine Kd.R_lit Kd.string w.heap.size 9 ?hg (N := 5) ?hd (xs := ([] : List ByteArray)) (inner := []) (ok := fun _ => True) (okp := fun _ => True) ?hr ?hp (fun _ hk => hk) trivial (Below.refl _ _) (Nat.le_refl _) (by simp) ?_; (case hd => rfl); (case hg => rfl); (case hr => first | (go_simp; done) | (go_simp; rfl)); (case hp => exact (Reps.none _ _)); intro v1 w1 ho hb hg_ hnew_; clear hg_ hnew_; have HO := Aside0.mk ho; have HB := Aside0.mk hb; clear ho hb)
      | ((with_reducible refine gate_builtin (b := .append) (xs := #[.tmp 5, .tmp 6]) rfl ?_); at_builtin; refine Kd.R_append_rows Kd.string (Rr := Kd.string.K w1) (w0 := w) w.heap.size rfl (.tmp 5) (.tmp 6) 36 9 (.string ⟨#[]⟩) 16 rfl Tryz.underlying36 infoStr rfl (by decide) (by omega) v1 [] l0 (some ad) l0.length c0 (fun _ => True) (fun _ => False) rfl rfl HO.out (Kd.C_below HR.out HB.out) (fun x cs hk => hk) (fun _ hk => hk.elim) (fun _ _ => trivial) HB.out HB.out.size (by have := HC.out; simp; omega) ?_; intro v2 w2 ho2 hb2 hg2 hn2; clear hg2 hn2; have HO2 := Aside0.mk ho2; have HB2 := Aside0.mk hb2; clear ho2 hb2))
    go_ret
    exact ⟨_, rfl, by simpa using HO2.out, HB2.out⟩
end Go.Proofs.YtblcgcibkikgeaaGreatDoor.G
end
section
namespace Go.Proofs.YtblcgcibkikgeaaGreatDoor.G
open Go Go.RowKit Go.Shelf Go.Proofs.YtblcgcibkikgeaaGreatDoorW.PrintWords Go.Proofs.YtblcgcibkikgeaaGreatDoorW.PrintLast Go.Proofs.YtblcgcibkikgeaaGreatDoorW.PrintMore Go.Proofs.YtblcgcibkikgeaaGreatDoor.K Go.Proofs.YtblcgcibkikgeaaGreatDoor.G1 Go.Proofs.YtblcgcibkikgeaaGreatDoor.RF Go.Proofs.YtblcgcibkikgeaaGreatDoor.P
set_option linter.unusedVariables false
attribute [local go_sem] Oper.semAt_some
theorem laid_of_below {w0 w : World} (hL : Laid w0) (hb : Below w0.heap.size w0 w) : Laid w := hL.below hb
theorem cut_dot (s : ByteArray) (c : UInt8) (hs : s.size < 4294967281) : strings_Cut.f s ⟨#[c]⟩ = some (bsz (cut1 c s.data.toList).1, bsz (cut1 c s.data.toList).2.1, (cut1 c s.data.toList).2.2) := by
  unfold strings_Cut.f
  rw [if_pos hs, show (⟨#[c]⟩ : ByteArray).data.toList = [c] from rfl, cut_one]
def lenAt (b : Nat) (w : World) : Nat := match w.cell? ⟨b, 0, none⟩ with | some (.string q) => q.size | _ => 0
theorem lenAt_eq {b : Nat} {w : World} {t : TypeId} {q : ByteArray} (h : Boxed w b t (.string q)) : lenAt b w = q.size := by unfold lenAt; rw [h.cell]
set_option maxHeartbeats 1000000 in
set_option maxRecDepth 100000 in
theorem segments_gives (b : Nat) (s : ByteArray) (w0 w : World) (hs : s.size < 4294967281) (hL : Laid w0) (hB : Below w0.heap.size w0 w) (hlt : w0.heap.size ≤ b) (hb : Boxed w b 9 (.string s)) :
    Gives Fence.wide 3 Tryz.prog 210 #[.pointer (some ⟨b, 0, none⟩)] (fun x : ByteArray => #[.string x]) w0.heap.size b (segsB 46 s) w := by
  intro l J Jx W hW hJ hJx hY h0
  have hbW : Boxed W b 9 (.string s) := (hW.block b hb.lt).trans hb
  have HBW := Aside0.mk (hB.trans (hW.mono hB.size))
  have HY := Aside0.mk hY
  have HJ := Aside0.mk hJ
  have HJx := Aside0.mk hJx
  have H0 := Aside0.mk h0
  have HL := Aside0.mk hL
  clear hY hJ hJx h0 hL hb hW hB
  refine callsIn_of_wp Tryz.func210 rfl trivial ?_
  simp only [Tryz.ntmps210, List.size_toArray, List.length_cons, List.length_nil, Nat.reduceAdd, Nat.reduceSub, Array.replicate_succ, Array.replicate_zero, List.push_toArray, List.append_toArray, List.nil_append, List.cons_append]
  gi_wp2
  gi_loopw [] (fun wr => ∃ (pre : List ByteArray) (q : ByteArray), Aside0 (Boxed wr b 9 (.string q)) ∧ q.size ≤ s.size ∧ Aside0 (segsB 46 s = pre ++ segsB 46 q) ∧ Aside0 (J pre wr) ∧ Aside0 (Below w0.heap.size w0 wr)) (fun wr => lenAt b wr)
  case atStart => exact ⟨[], s, ⟨hbW⟩, Nat.le_refl _, ⟨rfl⟩, H0, HBW⟩
  case round =>
    obtain ⟨pre, q, HQ, hq, HE, HP, HB⟩ := hrel
    have hcell := HQ.out.cell
    have hfro := HQ.out.frozen
    clear hbW
    have hcl := cut1_len (c := 46) (l := q.data.toList)
    have hql : q.data.toList.length = q.size := by rw [Array.length_toList]; rfl
    have hsg := segsB_cut 46 q
    have hcut := cut_dot q 46 (by omega)
    have hno := cut1_no (c := 46) (l := q.data.toList)
    generalize cut1 46 q.data.toList = cq at hcl hsg hcut hno
    obtain ⟨c1, c2, c3⟩ := cq
    have HCUT := Aside0.mk hcut
    have HCL := Aside0.mk hcl
    have HSG := Aside0.mk hsg
    have HNO := Aside0.mk hno
    clear hcl hsg hcut hno hql
    gi_wp2_with ((with_reducible refine And.intro ?_ ?_); (· exact trivial); gi_at_call 79; refine (callsIn_wide.2 (strings_Cut.calls _ _ _ _ _ _ (laid_of_below HL.out HB.out) HCUT.out)).mono ?_; rintro e w1 ⟨rfl, hb1⟩; have HB1 := Aside0.mk hb1; clear hb1)
    have HQ1 : Aside0 (Boxed w1 b 9 (.string q)) := ⟨(HB1.out.block b HQ.out.lt).trans HQ.out⟩
    have HBB : Aside0 (Below w0.heap.size w0 w1) := ⟨HB.out.trans (HB1.out.mono HB.out.size)⟩
    have HP1 : Aside0 (J pre w1) := ⟨HJ.out _ _ _ HP.out (Turns.of_below HB1.out)⟩
    cases c3 with
    | false =>
      have hc := HNO.out rfl
      have hx : bsz c1 = q := by cases hc; exact bsz_eta q
      have he : segsB 46 s = pre ++ bsz c1 :: [] := by rw [HE.out, HSG.out, hx]; rfl
      have HX := Aside0.mk he
      obtain ⟨fn, tmps, assign, body, hy, hR⟩ := HY.out pre (bsz c1) [] w1 he HP1.out
      clear he hx hc
      gi_wp2
      refine hR.mono ?_
      rintro e W' (⟨rfl, hj, hk, hB⟩ | ⟨rfl, hjx⟩)
      · have HJ' := Aside0.mk hj
        clear hj hk hB
        gi_wp2
        refine bodyPost_ret (results_none rfl _ _ _) rfl ?_
        exact ⟨⟨_, rfl⟩, .inl (by rw [HX.out]; exact HJ'.out)⟩
      · have HJ' := Aside0.mk hjx
        clear hjx
        gi_wp2
        refine bodyPost_ret (results_none rfl _ _ _) rfl ?_
        exact ⟨⟨_, rfl⟩, .inr HJ'.out⟩
    | true =>
      have HLT : Aside0 ((bsz c2).size < q.size) := ⟨by
        have h2 := HCL.out.2 rfl
        have h3 : q.data.toList.length = q.size := by rw [Array.length_toList]; rfl
        have h4 : (bsz c2).size = c2.length := by show c2.toArray.size = _; simp
        omega⟩
      have he : segsB 46 s = pre ++ bsz c1 :: segsB 46 (bsz c2) := by rw [HE.out, HSG.out]; rfl
      have HX := Aside0.mk he
      obtain ⟨fn, tmps, assign, body, hy, hR⟩ := HY.out pre (bsz c1) _ w1 he HP1.out
      clear he
      gi_wp2
      refine hR.mono ?_
      rintro e W' (⟨rfl, hj, hk, hB⟩ | ⟨rfl, hjx⟩)
      · have HJ' := Aside0.mk hj
        have HB' := Aside0.mk (HBB.out.trans hB)
        have hb' : Boxed W' b 9 (.string q) := hk.trans HQ1.out
        have hcell' := hb'.cell
        have hfro' := hb'.frozen
        have HBX := Aside0.mk hb'
        clear hj hk hB hb'
        gi_wp2
        go_roundw
        case rel => exact ⟨pre ++ [bsz c1], bsz c2, ⟨HBX.out.set _⟩, Nat.le_trans (Nat.le_of_lt HLT.out) hq, ⟨by rw [HX.out]; simp⟩, ⟨HJ.out _ _ _ HJ'.out (Turns.set _ _)⟩, ⟨HB'.out.setCell (p := ⟨b, 0, none⟩) hlt _⟩⟩
        case measure => rw [lenAt_eq (HBX.out.set _), lenAt_eq HQ.out]; exact HLT.out
      · have HJ' := Aside0.mk hjx
        clear hjx
        gi_wp2
        refine bodyPost_ret (results_none rfl _ _ _) rfl ?_
        exact ⟨⟨_, rfl⟩, .inr HJ'.out⟩
end Go.Proofs.YtblcgcibkikgeaaGreatDoor.G
end
section
namespace Go.Proofs.YtblcgcibkikgeaaGreatDoor.G
open Go Go.RowKit Go.Shelf Go.Proofs.YtblcgcibkikgeaaGreatDoorW.PrintWords Go.Proofs.YtblcgcibkikgeaaGreatDoorW.PrintLast Go.Proofs.YtblcgcibkikgeaaGreatDoorW.PrintMore Go.Proofs.YtblcgcibkikgeaaGreatDoor.K Go.Proofs.YtblcgcibkikgeaaGreatDoor.G1 Go.Proofs.YtblcgcibkikgeaaGreatDoor.RF Go.Proofs.YtblcgcibkikgeaaGreatDoor.P
set_option linter.unusedVariables false
attribute [local go_sem] Oper.semAt_some
theorem segsB_mem_size (c : UInt8) (s : ByteArray) : ∀ x ∈ segsB c s, x.size ≤ s.size := by
  have key : ∀ (l : List UInt8), ∀ y ∈ splitC c l, y.length ≤ l.length := by
    intro l
    induction l with
    | nil => intro y hy; simp [splitC] at hy; simp [hy]
    | cons x l ih =>
      intro y hy
      rw [splitC_cons] at hy
      obtain ⟨h, t, e⟩ : ∃ h t, splitC c l = h :: t := by
        cases hs : splitC c l with
        | nil => exact absurd hs (splitC_ne c l)
        | cons h t => exact ⟨h, t, rfl⟩
      rw [e] at hy ih
      by_cases hx : x = c
      · simp only [hx, if_true, List.mem_cons] at hy
        rcases hy with rfl | hy | hy
        · simp
        · have := ih y (by simp [hy]); simp; omega
        · have := ih y (by simp [hy]); simp; omega
      · simp only [hx, if_false, List.headD_cons, List.tail_cons, List.mem_cons] at hy
        rcases hy with rfl | hy
        · have := ih h (by simp); simp; omega
        · have := ih y (by simp [hy]); simp; omega
  intro x hx
  unfold segsB at hx
  obtain ⟨y, hy, rfl⟩ := List.mem_map.1 hx
  have := key _ y hy
  have h1 : s.data.toList.length = s.size := by rw [Array.length_toList]; rfl
  show y.toArray.size ≤ _
  simp; omega
theorem segments_calls (s : ByteArray) (w : World) :
    Calls Tryz.prog 163 #[.string s] w fun e w' => e = .returned (.func (.func 210) #[] #[.pointer (some ⟨w.heap.size, 0, none⟩)]) ∧ w' = w.alloc (.cells #[.string s] 9) := by
  go_enter Tryz.func163, Tryz.ntmps163
  go_wp2
  go_ret
  exact ⟨rfl, rfl⟩
def Answers (g : Nat) (lb : Array Value) (p : ByteArray → Bool) (m : Nat) (w : World) : Prop :=
  ∀ (x : ByteArray) (W : World), x.size ≤ m → Below w.heap.size w W → Calls Tryz.prog g (#[.string x] ++ lb) W fun e W' => e = .returned (.bool (p x)) ∧ Below W.heap.size W W'
set_option maxHeartbeats 1000000 in
set_option maxRecDepth 100000 in
theorem formed_calls (s : ByteArray) (g : Nat) (lb : Array Value) (p : ByteArray → Bool) (w : World) (hs : s.size < 4294967281) (hL : Laid w) (eg : ∀ args w, (callFunc g args).run Tryz.prog w = .ok (.enter g args) w) (hp : Answers g lb p s.size w) :
    Calls Tryz.prog 119 #[.string s, .func (.func g) #[] lb] w fun e w' => e = .returned (.bool (decide ((segsB 46 s).length ≤ 6) && (segsB 46 s).all p)) ∧ Below w.heap.size w w' := by
  have HL := Aside0.mk hL
  have HP := Aside0.mk hp
  clear hL hp
  obtain ⟨R, hR⟩ : ∃ R, (decide ((segsB 46 s).length ≤ 6) && (segsB 46 s).all p) = R := ⟨_, rfl⟩
  rw [hR]
  have HRR := Aside0.mk hR
  clear hR
  refine (callsIn_wide (n := 4)).1 ?_
  refine callsIn_of_wp_marks Tryz.func119 rfl trivial ?_ rfl
  simp only [Tryz.ntmps119, List.size_toArray, List.length_cons, List.length_nil, Nat.reduceAdd, Nat.reduceSub, Array.replicate_succ, Array.replicate_zero, List.push_toArray, List.append_toArray, List.nil_append, List.cons_append]
  gi_wp2_with ((with_reducible refine And.intro ?_ ?_); (· exact trivial); gi_at_call 163; refine (callsIn_wide.2 (segments_calls _ _)).mono ?_; rintro e w1 ⟨rfl, rfl⟩)
  obtain ⟨W0, hW0⟩ : ∃ W0, ((((w.alloc (.cells #[.func (.func g) #[] lb] 86)).alloc (.cells #[.bool false] 4)).alloc (.cells #[.int .i64 0] 3)).alloc (.cells #[.string s] 9)) = W0 := ⟨_, rfl⟩
  have hsz : W0.heap.size = w.heap.size + 4 := by rw [← hW0]; simp
  have hb0 : Below w.heap.size w W0 := by rw [← hW0]; exact ((((Below.refl _ _).alloc (Nat.le_refl _) _).alloc (by simp) _).alloc (by simp; omega) _).alloc (by simp; omega) _
  have e1 : w.heap.size + 1 + 1 = w.heap.size + 2 := rfl
  have e2 : w.heap.size + 1 + 1 + 1 = w.heap.size + 3 := rfl
  have hx1 : Boxed W0 w.heap.size 86 (.func (.func g) #[] lb) := by rw [← hW0]; exact (((Boxed.new w _ _).alloc _).alloc _).alloc _
  have hx2 : Boxed W0 (w.heap.size + 1) 4 (.bool false) := by
    have h := Boxed.new (w.alloc (.cells #[.func (.func g) #[] lb] 86)) 4 (.bool false)
    rw [World.size_alloc] at h
    rw [← hW0]; exact (h.alloc _).alloc _
  have hx3 : Boxed W0 (w.heap.size + 2) 3 (.int .i64 0) := by
    have h := Boxed.new ((w.alloc (.cells #[.func (.func g) #[] lb] 86)).alloc (.cells #[.bool false] 4)) 3 (.int .i64 0)
    rw [World.size_alloc, World.size_alloc] at h
    rw [← hW0]; exact h.alloc _
  have hx4 : Boxed W0 (w.heap.size + 3) 9 (.string s) := by
    have h := Boxed.new (((w.alloc (.cells #[.func (.func g) #[] lb] 86)).alloc (.cells #[.bool false] 4)).alloc (.cells #[.int .i64 0] 3)) 9 (.string s)
    rw [World.size_alloc, World.size_alloc, World.size_alloc] at h
    rw [← hW0]; exact h
  rw [hW0, e1, e2]
  clear hW0 e1 e2
  have hseq := segments_gives (w.heap.size + 3) s w W0 hs HL.out hb0 (by omega) hx4
  refine range_gives rfl (by omega) (gf := 210) (lb := #[.pointer (some ⟨w.heap.size + 3, 0, none⟩)]) rfl trivial (enters_of Tryz.func210 (by kernel_rfl) rfl) hseq (by omega) (Below.refl _ _) (fun _ => rfl) (by omega)
    (fun pre W => (Boxed W w.heap.size 86 (.func (.func g) #[] lb) ∧ Boxed W (w.heap.size + 1) 4 (.bool false)) ∧ (Boxed W (w.heap.size + 2) 3 (.int .i64 (pre.length : Int)) ∧ (pre.length ≤ 6 ∧ pre.all p = true)) ∧ Below w.heap.size w W)
    (fun c W => (c = .ret ∧ R = false) ∧ Boxed W (w.heap.size + 1) 4 (.bool false) ∧ Below w.heap.size w W)
    (((abide_boxed _ (by omega)).and (abide_boxed _ (by omega))).and (((abide_boxed (fun pre : List ByteArray => .int .i64 (pre.length : Int)) (by omega)).and (abide_pure (fun pre : List ByteArray => pre.length ≤ 6 ∧ pre.all p = true))).and (abide_below (by omega) (by omega))))
    (fun c => (abide_pure _).and ((abide_boxed _ (by omega)).and (abide_below (by omega) (by omega))))
    ⟨⟨hx1, hx2⟩, ⟨hx3, by simp, rfl⟩, hb0⟩
    (fun x => { tmps := #[.string s, .func (.func g) #[] lb, undef, .pointer (some ⟨w.heap.size, 0, none⟩), .pointer (some ⟨w.heap.size + 1, 0, none⟩), .pointer (some ⟨w.heap.size + 2, 0, none⟩), .string x, .string s, .func (.func 210) #[] #[.pointer (some ⟨w.heap.size + 3, 0, none⟩)], .string x, undef, undef, undef, undef, undef, undef, undef, undef, undef, undef], defers := [] }) ?assign ?body ?done ?stop
  case assign =>
    intro l x W K hK
    gi_wp2
    exact hK
  case body =>
    rintro l pre rest x W hlw hx ⟨⟨h1, h2⟩, ⟨h3, h4, h5⟩, hB⟩
    have c1 := h1.cell
    have c2 := h2.cell
    have c3 := h3.cell
    have f2 := h2.frozen
    have f3 := h3.frozen
    have hpl : (pre.length : Int) + 1 ≤ 7 := by omega
    have hp0 : (0 : Int) ≤ (pre.length : Int) := by omega
    have HX := Aside0.mk hx
    have H1 := Aside0.mk h1
    have H2 := Aside0.mk h2
    have H3 := Aside0.mk h3
    have H5 := Aside0.mk h5
    have HB := Aside0.mk hB
    have hxs : x.size ≤ s.size := segsB_mem_size 46 s x (by rw [hx]; simp)
    have HXS := Aside0.mk hxs
    clear hx h1 h2 h3 h5 hB hxs
    have hk2 : ∀ W' : World, W'.heap[w.heap.size + 2]? = some (.cells #[.int .i64 ((pre.length : Int) + 1)] 3 (0, 0)) → Boxed W' (w.heap.size + 2) 3 (.int .i64 (((pre ++ [x]).length : Nat) : Int)) := by
      intro W' h
      rw [List.length_append]
      exact h
    have HK2 := Aside0.mk hk2
    clear hk2
    by_cases h7 : pre.length = 6
    · have hd : decide ((6 : Int) < (pre.length : Int) + 1) = true := decide_eq_true (by omega)
      have HR : Aside0 (R = false) := ⟨by
        rw [← HRR.out, HX.out, decide_eq_false (by simp; omega)]; rfl⟩
      clear h7
      gi_wp2
      refine ⟨fun _ h => (by cases h), ?_⟩
      gi_wp2
      refine ⟨(KeepsOthers.setCell _ _ _).trans (KeepsOthers.setCell _ _ _), ⟨rfl, HR.out⟩, ?_, ?_⟩
      · exact ((H2.out.other (by omega) _).set _)
      · exact (HB.out.setCell (p := ⟨w.heap.size + 2, 0, none⟩) (by simp) _).setCell (p := ⟨w.heap.size + 1, 0, none⟩) (by simp) _
    · have hd : decide ((6 : Int) < (pre.length : Int) + 1) = false := decide_eq_false (by omega)
      gi_wp2
      refine ⟨trivial, ?_⟩
      have hB1 : Below w.heap.size w (W.setCell ⟨w.heap.size + 2, 0, none⟩ (.int .i64 ((pre.length : Int) + 1))) := HB.out.setCell (p := ⟨w.heap.size + 2, 0, none⟩) (by simp) _
      have hcall := HP.out x _ HXS.out hB1
      refine (CallsIn.inRound l (callsIn_wide.2 hcall)).mono ?_
      clear hcall
      rintro e W' ⟨rfl, hb⟩
      have X1 : Aside0 (Boxed W' w.heap.size 86 (.func (.func g) #[] lb)) := ⟨(hb.block _ (by simp; exact H1.out.lt)).trans (H1.out.other (by omega) _)⟩
      have X2 : Aside0 (Boxed W' (w.heap.size + 1) 4 (.bool false)) := ⟨(hb.block _ (by simp; exact H2.out.lt)).trans (H2.out.other (by omega) _)⟩
      have X3 : Aside0 (Boxed W' (w.heap.size + 2) 3 (.int .i64 ((pre.length : Int) + 1))) := ⟨(hb.block _ (by simp; exact H3.out.lt)).trans (H3.out.set _)⟩
      have XB : Aside0 (Below w.heap.size w W') := ⟨hB1.trans (hb.mono (by simp; exact HB.out.size))⟩
      have XK : Aside0 (KeepsOthers W W') := ⟨(KeepsOthers.setCell _ _ _).trans (KeepsOthers.of_grownBy (row := none) ⟨hb.os, hb.tape, hb.output, hb.size, fun k hk _ => hb.block k hk⟩ (by simp))⟩
      have XN : Aside0 (W'.heap[w.heap.size + 3]? = W.heap[w.heap.size + 3]?) := ⟨(hb.block _ (by simp; omega)).trans (Below.heap_setCell _ _ _ _ (by simp))⟩
      have XW : Aside0 (Below w.heap.size W W') := ⟨((Below.refl _ W).setCell (p := ⟨w.heap.size + 2, 0, none⟩) (by simp) _).trans (hb.mono (by simp; exact HB.out.size))⟩
      have x2 := X2.out.cell
      have y2 := X2.out.frozen
      clear hb hB1
      cases hpx : p x with
      | true =>
        gi_wp2
        refine ⟨XK.out, XN.out, XW.out, ⟨X1.out, X2.out⟩, ⟨HK2.out _ X3.out, ?_, ?_⟩, XB.out⟩
        · simp; omega
        · rw [List.all_append, H5.out]; simp [hpx]
      | false =>
        have HR : Aside0 (R = false) := ⟨by
          rw [← HRR.out, HX.out, List.all_append, List.all_cons, hpx]; simp⟩
        clear hpx
        gi_wp2
        refine ⟨XK.out.trans (KeepsOthers.setCell _ _ _), ⟨rfl, HR.out⟩, X2.out.set _, XB.out.setCell (p := ⟨w.heap.size + 1, 0, none⟩) (by simp) _⟩
  case done =>
    rintro D W hD ⟨⟨h1, h2⟩, ⟨h3, h4, h5⟩, hB⟩ hK
    have HR : R = true := by rw [← HRR.out, h5, decide_eq_true h4]; rfl
    subst HR
    have c2 := h2.cell
    have f2 := h2.frozen
    have H2 := Aside0.mk h2
    have HB := Aside0.mk hB
    have HK := Aside0.mk hK
    clear h1 h2 h3 h4 h5 hB hK
    gi_wp2
    have HK2 := (KeepsOthers.setCell W ⟨w.heap.size + 1, 0, none⟩ (.bool true)).same D _ HK.out rfl
    have hc2 := (H2.out.set (.bool true))
    refine ⟨by simp, .inl ⟨_, _, rfl, run_takeDeferred HK2, ?_⟩⟩
    have hc3 := cell_kept hc2.cell (grownBy_putObj' _ D (.deferred none)) (fun r e => by cases e; exact ⟨_, HK2, rfl⟩)
    refine ⟨.bool true, ?_, rfl, ?_⟩
    · simp [results, Tryz.results119, go_sem, hc3]
    · exact below_putObj (by omega) (HB.out.setCell (p := ⟨w.heap.size + 1, 0, none⟩) (by simp) _)
  case stop =>
    rintro D c W hD ⟨⟨rfl, rfl⟩, h2, hB⟩ hK
    have c2 := h2.cell
    have f2 := h2.frozen
    have H2 := Aside0.mk h2
    have HB := Aside0.mk hB
    have HK := Aside0.mk hK
    clear h2 hB hK
    gi_wp2
    refine ⟨by simp, .inl ⟨_, _, rfl, run_takeDeferred HK.out, ?_⟩⟩
    have hc3 := cell_kept H2.out.cell (grownBy_putObj' _ D (.deferred none)) (fun r e => by cases e; exact ⟨_, HK.out, rfl⟩)
    refine ⟨.bool false, ?_, rfl, ?_⟩
    · simp [results, Tryz.results119, go_sem, hc3]
    · exact below_putObj (by omega) HB.out
theorem answers_name (m : Nat) (w : World) : Answers 120 #[] (fun x => isName x.data.toList) m w := by
  intro x W _ _
  exact instrument_Name.calls x _ W rfl
theorem enters_name : Enters Tryz.prog 120 := enters_of Tryz.func120 (by kernel_rfl) rfl
def codeOk (s : ByteArray) : Bool := decide ((segsB 46 s).length ≤ 6) && (segsB 46 s).all fun x => isName x.data.toList
def account_Check.f (a0 : ByteArray) : Option Int := if a0.size < 4294967281 then some (if codeOk a0 then 0 else 3) else none
set_option maxHeartbeats 1000000 in
theorem account_Check.calls (a0 : ByteArray) (r : Int) (w : World) (hL : Laid w) (h : account_Check.f a0 = some r) :
    Calls Tryz.prog 70 #[.string a0] w fun e w' => e = .returned (.int .i64 r) ∧ Below w.heap.size w w' := by
  unfold account_Check.f at h
  split at h
  case isFalse => cases h
  rename_i hs
  have hf := formed_calls a0 120 #[] _ w hs hL enters_name (answers_name _ w)
  simp only [Option.some.injEq] at h
  unfold codeOk at h
  obtain ⟨R, hR⟩ : ∃ R, (decide ((segsB 46 a0).length ≤ 6) && (segsB 46 a0).all fun x => isName x.data.toList) = R := ⟨_, rfl⟩
  rw [hR] at hf h
  have HF := Aside0.mk hf
  have HL := Aside0.mk hL
  clear hf hL hs hR
  cases R with
  | true =>
    subst h
    go_enter Tryz.func70, Tryz.ntmps70
    go_wp2_with (go_at_call 119; refine (HF.out).mono ?_; rintro e w1 ⟨rfl, hb1⟩; have HB1 := Aside0.mk hb1; clear hb1)
    go_ret
    exact ⟨rfl, HB1.out⟩
  | false =>
    subst h
    go_enter Tryz.func70, Tryz.ntmps70
    go_wp2_with (go_at_call 119; refine (HF.out).mono ?_; rintro e w1 ⟨rfl, hb1⟩; have HB1 := Aside0.mk hb1; clear hb1)
    go_ret
    exact ⟨rfl, HB1.out⟩
end Go.Proofs.YtblcgcibkikgeaaGreatDoor.G
end
section
namespace Go.Proofs.YtblcgcibkikgeaaGreatDoor.P
open Go
def star : ByteArray := ⟨#[42]⟩
def plusB : ByteArray := ⟨#[43]⟩
def rep (inst oth x : ByteArray) : ByteArray × Bool := if x = star then (inst, true) else if x = plusB then (oth, true) else (x, false)
def segOk (x : ByteArray) : Bool := decide (x = star) || decide (x = plusB) || isName x.data.toList
def tmplOk (t : ByteArray) : Bool := decide ((segsB 46 t).length ≤ 6) && (segsB 46 t).all segOk
end Go.Proofs.YtblcgcibkikgeaaGreatDoor.P
namespace Go.Proofs.YtblcgcibkikgeaaGreatDoor.G
open Go Go.RowKit Go.Shelf Go.Proofs.YtblcgcibkikgeaaGreatDoorW.PrintWords Go.Proofs.YtblcgcibkikgeaaGreatDoorW.PrintLast Go.Proofs.YtblcgcibkikgeaaGreatDoorW.PrintMore Go.Proofs.YtblcgcibkikgeaaGreatDoor.K Go.Proofs.YtblcgcibkikgeaaGreatDoor.G1 Go.Proofs.YtblcgcibkikgeaaGreatDoor.RF Go.Proofs.YtblcgcibkikgeaaGreatDoor.P
set_option linter.unusedVariables false
attribute [local go_sem] Oper.semAt_some
theorem beqL (a b : ByteArray) : (a.toList == b.toList) = decide (a = b) := by
  rw [Bool.eq_iff_iff, beq_iff_eq, decide_eq_true_eq, ByteArray.toList_eq, ByteArray.toList_eq]
  exact ⟨fun h => ByteArray.ext (Array.ext' h), fun h => by rw [h]⟩
theorem beqL' {a : ByteArray} {l : List UInt8} {b : ByteArray} (h : a ≠ b) (hb : b.data.toList = l) : (a.toList == l) = false := by
  rw [← hb, ← ByteArray.toList_eq, beqL]
  exact decide_eq_false h
set_option maxHeartbeats 1000000 in
theorem names1_calls (x inst oth : ByteArray) (b1 b2 : Nat) (w : World) (h1 : w.cell? ⟨b1, 0, none⟩ = some (.string inst)) (h2 : w.cell? ⟨b2, 0, none⟩ = some (.string oth)) :
    Calls Tryz.prog 224 #[.string x, .pointer (some ⟨b1, 0, none⟩), .pointer (some ⟨b2, 0, none⟩)] w fun e w' => e = .returned (.tuple #[.string (rep inst oth x).1, .bool (rep inst oth x).2]) ∧ w' = w := by
  by_cases hx : x = star
  · subst hx
    have hr : rep inst oth star = (inst, true) := rfl
    rw [hr]
    go_enter Tryz.func224, Tryz.ntmps224
    unfold star
    go_wp2
    go_ret2
    exact ⟨rfl, rfl⟩
  · by_cases hy : x = plusB
    · subst hy
      have hr : rep inst oth plusB = (oth, true) := rfl
      rw [hr]
      go_enter Tryz.func224, Tryz.ntmps224
      unfold plusB
      go_wp2
      go_ret2
      exact ⟨rfl, rfl⟩
    · have hr : rep inst oth x = (x, false) := by unfold rep; rw [if_neg hx, if_neg hy]
      rw [hr]
      have e1 : (x.toList == [42]) = false := beqL' hx rfl
      have e2 : (x.toList == [43]) = false := beqL' hy rfl
      clear hr hx hy
      go_enter Tryz.func224, Tryz.ntmps224
      go_wp2
      go_ret2
      exact ⟨rfl, rfl⟩
theorem names_calls (inst oth : ByteArray) (w : World) :
    Calls Tryz.prog 181 #[.string inst, .string oth] w fun e w' => e = .returned (.func (.func 224) #[] #[.pointer (some ⟨w.heap.size, 0, none⟩), .pointer (some ⟨w.heap.size + 1, 0, none⟩)]) ∧ w' = (w.alloc (.cells #[.string inst] 9)).alloc (.cells #[.string oth] 9) := by
  go_enter Tryz.func181, Tryz.ntmps181
  go_wp2
  go_ret
  exact ⟨rfl, rfl⟩
set_option maxHeartbeats 1000000 in
theorem expand1_calls (x inst oth : ByteArray) (b1 b2 b8 : Nat) (w : World) (h1 : w.cell? ⟨b1, 0, none⟩ = some (.string inst)) (h2 : w.cell? ⟨b2, 0, none⟩ = some (.string oth)) (h8 : w.cell? ⟨b8, 0, none⟩ = some (.func (.func 224) #[] #[.pointer (some ⟨b1, 0, none⟩), .pointer (some ⟨b2, 0, none⟩)])) :
    Calls Tryz.prog 182 #[.string x, .pointer (some ⟨b8, 0, none⟩)] w fun e w' => e = .returned (.bool (segOk x)) ∧ Below w.heap.size w w' := by
  have hn := names1_calls x inst oth b1 b2 w h1 h2
  have hok : segOk x = ((rep inst oth x).2 || isName x.data.toList) := by
    unfold segOk rep
    by_cases hx : x = star
    · simp [hx]
    · by_cases hy : x = plusB
      · rw [if_neg hx, if_pos hy, decide_eq_true hy]; simp
      · simp [hx, hy]
  rw [hok]
  generalize rep inst oth x = q at hn
  obtain ⟨q1, q2⟩ := q
  have HN := Aside0.mk hn
  have hnm := fun W => instrument_Name.calls x _ W rfl
  clear hn hok h1 h2
  generalize hi : isName x.data.toList = i at hnm
  have HM := Aside0.mk hnm
  clear hi hnm
  cases q2 with
  | true =>
    go_enter Tryz.func182, Tryz.ntmps182
    go_wp2_with (first | (go_at_call 224; refine (HN.out).mono ?_; rintro e w1 ⟨rfl, rfl⟩) | (go_at_call 120; refine (HM.out _).mono ?_; rintro e w1 ⟨rfl, hb1⟩; have HB1 := Aside0.mk hb1; clear hb1))
    go_ret
    exact ⟨rfl, Below.refl _ _⟩
  | false =>
    go_enter Tryz.func182, Tryz.ntmps182
    go_wp2_with (first | (go_at_call 224; refine (HN.out).mono ?_; rintro e w1 ⟨rfl, rfl⟩) | (go_at_call 120; refine (HM.out _).mono ?_; rintro e w1 ⟨rfl, hb1⟩; have HB1 := Aside0.mk hb1; clear hb1))
    go_ret
    exact ⟨rfl, HB1.out⟩
theorem expand1_answers (inst oth : ByteArray) (b1 b2 b8 m : Nat) (w : World) (h1 : Boxed w b1 9 (.string inst)) (h2 : Boxed w b2 9 (.string oth)) (h8 : Boxed w b8 212 (.func (.func 224) #[] #[.pointer (some ⟨b1, 0, none⟩), .pointer (some ⟨b2, 0, none⟩)])) :
    Answers 182 #[.pointer (some ⟨b8, 0, none⟩)] segOk m w := by
  intro x W _ hB
  have k1 : Boxed W b1 9 (.string inst) := (hB.block _ h1.lt).trans h1
  have k2 : Boxed W b2 9 (.string oth) := (hB.block _ h2.lt).trans h2
  have k8 : Boxed W b8 212 (.func (.func 224) #[] #[.pointer (some ⟨b1, 0, none⟩), .pointer (some ⟨b2, 0, none⟩)]) := (hB.block _ h8.lt).trans h8
  exact expand1_calls x inst oth b1 b2 b8 W k1.cell k2.cell k8.cell
theorem enters_expand1 : Enters Tryz.prog 182 := enters_of Tryz.func182 (by kernel_rfl) rfl
theorem Tryz.infoStr' : (Tryz.prog.info? 9).map (fun i => (i.zero, i.size, i.bytes)) = some (some (.string ⟨#[]⟩), 1, 16) := by kernel_rfl
theorem interc_len (sep : List UInt8) (M : Nat) : ∀ (xs : List (List UInt8)), (∀ x ∈ xs, x.length ≤ M) → (Lib.join xs sep).length ≤ (M + sep.length) * xs.length
  | [], _ => by simp [Lib.join]
  | [x], h => by
    have := h x (by simp)
    simp [Lib.join, List.intercalate]
    omega
  | x :: y :: xs, h => by
    have h1 := h x (by simp)
    have ih := interc_len sep M (y :: xs) (fun z hz => h z (by simp at hz ⊢; exact .inr hz))
    unfold Lib.join at ih ⊢
    have e : sep.intercalate (x :: y :: xs) = x ++ sep ++ sep.intercalate (y :: xs) := by simp [List.intercalate]
    rw [e, List.length_append, List.length_append, List.length_cons, Nat.mul_succ]
    omega
theorem join_row {base : Nat} {v : Value} {xs : List ByteArray} {w : World} (sep : ByteArray) (h : w.ownsRow base 9 1 v xs.length (xs.map Value.string)) (hne : xs ≠ []) (hN : xs.length ≤ 6) (hM : ∀ x ∈ xs, x.size ≤ 1000000) (hs : sep.size ≤ 1000) :
    Calls Tryz.prog 183 #[v, .string sep] w fun e w' => e = .returned (.string (bsz (Lib.join (xs.map (·.data.toList)) sep.data.toList))) ∧ Below w.heap.size w w' := by
  rcases h.2 with ⟨_, h0⟩ | ⟨g, cap, cur, rfl, hg, hh, hc, _, _, ht⟩
  · exact absurd (List.length_eq_zero_iff.1 h0) hne
  · refine Tryz.strings_Join g 0 cap xs sep w ?_ (Array.getElem?_eq_some_iff.1 hh).1 (by omega) hc ?_
    · intro j x hx
      have hj : j < xs.length := (List.getElem?_eq_some_iff.1 hx).1
      rw [Nat.zero_add, h.cellAt j (by omega), List.getElem?_map, hx]
      rfl
    · have := interc_len sep.data.toList 1000000 (xs.map (·.data.toList)) (fun x hx => by
        obtain ⟨y, hy, rfl⟩ := List.mem_map.1 hx
        have := hM y hy
        rw [Array.length_toList]
        exact this)
      have e1 : sep.data.toList.length = sep.size := by rw [Array.length_toList]; rfl
      rw [List.length_map, e1] at this
      refine Nat.le_trans this (Nat.le_trans (Nat.mul_le_mul (show 1000000 + sep.size ≤ 1001000 by omega) hN) (by omega))
theorem isName_ne {l : List UInt8} (h : isName l = true) : l ≠ [] := by
  unfold isName at h
  intro e
  subst e
  simp at h
def expandV (t inst oth : ByteArray) : ByteArray × Int :=
  if tmplOk t = false then (⟨#[]⟩, 3)
  else if (decide (inst ≠ ⟨#[]⟩) && !isName inst.data.toList) || (decide (oth ≠ ⟨#[]⟩) && !isName oth.data.toList) then (⟨#[]⟩, 23)
  else if ((segsB 46 t).map fun x => (rep inst oth x).1).any (fun x => decide (x = ⟨#[]⟩)) then (⟨#[]⟩, 9)
  else (bsz (Lib.join ((segsB 46 t).map fun x => (rep inst oth x).1.data.toList) [46]), 0)
def account_Expand.f (a0 a1 a2 : ByteArray) : Option (ByteArray × Int) := if a0.size < 1000000 ∧ a1.size < 1000000 ∧ a2.size < 1000000 then some (expandV a0 a1 a2) else none
set_option maxHeartbeats 1000000 in
set_option maxRecDepth 100000 in
theorem account_Expand.calls (a0 a1 a2 r1 : ByteArray) (r2 : Int) (w : World) (hL : Laid w) (h : account_Expand.f a0 a1 a2 = some (r1, r2)) :
    Calls Tryz.prog 129 #[.string a0, .string a1, .string a2] w fun e w' => e = .returned (.tuple #[.string r1, .int .i64 r2]) ∧ Below w.heap.size w w' := by
  unfold account_Expand.f at h
  split at h
  case isFalse => cases h
  rename_i hs
  simp only [Option.some.injEq] at h
  have HL := Aside0.mk hL
  have HV := Aside0.mk h
  clear hL h
  refine (callsIn_wide (n := 4)).1 ?_
  refine callsIn_of_wp_marks Tryz.func129 rfl trivial ?_ rfl
  simp only [Tryz.ntmps129, List.size_toArray, List.length_cons, List.length_nil, Nat.reduceAdd, Nat.reduceSub, Array.replicate_succ, Array.replicate_zero, List.push_toArray, List.append_toArray, List.nil_append, List.cons_append]
  gi_wp2_with (first | ((with_reducible refine And.intro ?_ ?_); (· exact trivial); gi_at_call 181; refine (callsIn_wide.2 (names_calls _ _ _)).mono ?_; rintro e w1 ⟨rfl, rfl⟩))
  refine ⟨trivial, ?_⟩
  have e1 : w.heap.size + 1 + 1 = w.heap.size + 2 := rfl
  have e2 : w.heap.size + 1 + 1 + 1 = w.heap.size + 3 := rfl
  have e3 : w.heap.size + 1 + 1 + 1 + 1 = w.heap.size + 4 := rfl
  obtain ⟨fv, hfv⟩ : ∃ fv, Value.func (Fn.func 224) #[] #[.pointer (some ⟨w.heap.size + 2, 0, none⟩), .pointer (some ⟨w.heap.size + 3, 0, none⟩)] = fv := ⟨_, rfl⟩
  rw [e3, e2, e1, hfv]
  obtain ⟨W0, hW0⟩ : ∃ W0, (((((w.alloc (.cells #[.string ⟨#[]⟩] 9)).alloc (.cells #[.int .i64 0] 27)).alloc (.cells #[.string a1] 9)).alloc (.cells #[.string a2] 9)).alloc (.cells #[fv] 212)) = W0 := ⟨_, rfl⟩
  have hsz : W0.heap.size = w.heap.size + 5 := by rw [← hW0]; simp
  have hb0 : Below w.heap.size w W0 := by rw [← hW0]; exact (((((Below.refl _ _).alloc (Nat.le_refl _) _).alloc (by simp) _).alloc (by simp; omega) _).alloc (by simp; omega) _).alloc (by simp; omega) _
  have x0 : Boxed W0 w.heap.size 9 (.string ⟨#[]⟩) := by rw [← hW0]; exact ((((Boxed.new w _ _).alloc _).alloc _).alloc _).alloc _
  have x1 : Boxed W0 (w.heap.size + 1) 27 (.int .i64 0) := by
    have h := Boxed.new (w.alloc (.cells #[.string ⟨#[]⟩] 9)) 27 (.int .i64 0)
    rw [World.size_alloc] at h
    rw [← hW0]; exact ((h.alloc _).alloc _).alloc _
  have x2 : Boxed W0 (w.heap.size + 2) 9 (.string a1) := by
    have h := Boxed.new ((w.alloc (.cells #[.string ⟨#[]⟩] 9)).alloc (.cells #[.int .i64 0] 27)) 9 (.string a1)
    rw [World.size_alloc, World.size_alloc] at h
    rw [← hW0]; exact (h.alloc _).alloc _
  have x3 : Boxed W0 (w.heap.size + 3) 9 (.string a2) := by
    have h := Boxed.new (((w.alloc (.cells #[.string ⟨#[]⟩] 9)).alloc (.cells #[.int .i64 0] 27)).alloc (.cells #[.string a1] 9)) 9 (.string a2)
    rw [World.size_alloc, World.size_alloc, World.size_alloc] at h
    rw [← hW0]; exact h.alloc _
  have x4 : Boxed W0 (w.heap.size + 4) 212 fv := by
    have h := Boxed.new ((((w.alloc (.cells #[.string ⟨#[]⟩] 9)).alloc (.cells #[.int .i64 0] 27)).alloc (.cells #[.string a1] 9)).alloc (.cells #[.string a2] 9)) 212 fv
    rw [World.size_alloc, World.size_alloc, World.size_alloc, World.size_alloc] at h
    rw [← hW0]; exact h
  rw [hW0]
  clear hW0 e1 e2 e3
  subst hfv
  have hfm := formed_calls a0 182 #[.pointer (some ⟨w.heap.size + 4, 0, none⟩)] segOk W0 (by omega) (HL.out.below hb0) enters_expand1 (expand1_answers a1 a2 _ _ _ _ W0 x2 x3 x4)
  obtain ⟨T, hT⟩ : ∃ T, tmplOk a0 = T := ⟨_, rfl⟩
  unfold tmplOk at hT
  rw [hT] at hfm
  refine (callsIn_wide.2 hfm).mono ?_
  clear hfm
  rintro e W1 ⟨rfl, hb1⟩
  have X0 : Aside0 (Boxed W1 w.heap.size 9 (.string ⟨#[]⟩)) := ⟨(hb1.block _ x0.lt).trans x0⟩
  have X1 : Aside0 (Boxed W1 (w.heap.size + 1) 27 (.int .i64 0)) := ⟨(hb1.block _ x1.lt).trans x1⟩
  have X2 : Aside0 (Boxed W1 (w.heap.size + 2) 9 (.string a1)) := ⟨(hb1.block _ x2.lt).trans x2⟩
  have X3 : Aside0 (Boxed W1 (w.heap.size + 3) 9 (.string a2)) := ⟨(hb1.block _ x3.lt).trans x3⟩
  have X4 : Aside0 (Boxed W1 (w.heap.size + 4) 212 (.func (.func 224) #[] #[.pointer (some ⟨w.heap.size + 2, 0, none⟩), .pointer (some ⟨w.heap.size + 3, 0, none⟩)])) := ⟨(hb1.block _ x4.lt).trans x4⟩
  have HB1 : Aside0 (Below w.heap.size w W1) := ⟨hb0.trans (hb1.mono hb0.size)⟩
  have hsz1 : w.heap.size + 5 ≤ W1.heap.size := by have := hb1.size; omega
  have HT : Aside0 (tmplOk a0 = T) := ⟨hT⟩
  have c0 := X0.out.cell
  have c1 := X1.out.cell
  have f0 := X0.out.frozen
  have f1 := X1.out.frozen
  clear hb1 hb0 x0 x1 x2 x3 x4 hsz hT W0
  cases T with
  | false =>
    have hr : r1 = ⟨#[]⟩ ∧ r2 = 3 := by
      have := HV.out
      unfold expandV at this
      rw [if_pos HT.out] at this
      cases this
      exact ⟨rfl, rfl⟩
    obtain ⟨rfl, rfl⟩ := hr
    gi_wp2
    have y0 := (X0.out.set (.string ⟨#[]⟩)).other (show w.heap.size ≠ w.heap.size + 1 by omega) (.int .i64 3)
    have y1 := (X1.out.other (show w.heap.size + 1 ≠ w.heap.size by omega) (.string ⟨#[]⟩)).set (.int .i64 3)
    have z0 := y0.cell
    have z1 := y1.cell
    refine ⟨.tuple #[.string ⟨#[]⟩, .int .i64 3], ?_, rfl, ?_⟩
    · simp [results, Tryz.results129, go_sem, z0, z1]
    · exact (HB1.out.setCell (p := ⟨w.heap.size, 0, none⟩) (by simp) _).setCell (p := ⟨w.heap.size + 1, 0, none⟩) (by simp) _
  | true =>
    have hm1 := fun W => instrument_Name.calls a1 _ W rfl
    have hm2 := fun W => instrument_Name.calls a2 _ W rfl
    generalize hi1 : isName a1.data.toList = i1 at hm1
    generalize hi2 : isName a2.data.toList = i2 at hm2
    have HM1 := Aside0.mk hm1
    have HM2 := Aside0.mk hm2
    have HI1 := Aside0.mk hi1
    have HI2 := Aside0.mk hi2
    clear hm1 hm2 hi1 hi2
    obtain ⟨bad, hbad⟩ : ∃ bad, ((decide (a1 ≠ ⟨#[]⟩) && !i1) || (decide (a2 ≠ ⟨#[]⟩) && !i2)) = bad := ⟨_, rfl⟩
    have HBAD := Aside0.mk hbad
    clear hbad
    gi_upto_region 4 with (fail)
    gi_cut [35] from 20 (fun v35 w' => v35 = .bool bad ∧ Aside0 (Below W1.heap.size W1 w'))
    case first =>
      have fin : ∀ {d1 d2 : Bool}, decide (a1 ≠ ⟨#[]⟩) = d1 → decide (a2 ≠ ⟨#[]⟩) = d2 → ∀ {r : Bool}, ((d1 && !i1) || (d2 && !i2)) = r → Value.bool r = Value.bool bad := by
        intro d1 d2 h1 h2 r h
        rw [← h, ← h1, ← h2, HBAD.out]
      have FIN := Aside0.mk @fin
      clear fin
      have ne : ∀ {a : ByteArray}, a ≠ ⟨#[]⟩ → (a.toList == []) = false ∧ a.toList.isEmpty = false ∧ ¬ a.toList = [] := by
        intro a h
        have h1 := beqL' h (b := ⟨#[]⟩) rfl
        exact ⟨h1, by cases hl : a.toList with
                     | nil => rw [hl] at h1; simp at h1
                     | cons _ _ => rfl, fun e => by rw [e] at h1; simp at h1⟩
      have NE := Aside0.mk @ne
      clear ne
      have hun : ∀ b : Bool, some undef = some (Value.bool b) → False := fun b h => by cases h
      have HUN := Aside0.mk hun
      clear hun
      by_cases he1 : a1 = ⟨#[]⟩
      · subst he1
        have HE1 : Aside0 (decide ((⟨#[]⟩ : ByteArray) ≠ ⟨#[]⟩) = false) := ⟨by simp⟩
        by_cases he2 : a2 = ⟨#[]⟩
        · subst he2
          have HE2 := HE1
          gi_wp2_with (first
            | (exfalso; rename_i h _; exact HUN.out _ h)
            | ((with_reducible refine And.intro ?_ ?_); (· exact trivial); first
                 | skip))
          gi_meet
          case rel =>
            refine ⟨FIN.out HE1.out HE2.out (by rfl), ⟨?_⟩⟩
            first
              | exact Below.refl _ _
              | exact HB2.out
              | exact HB3.out
              | exact HB2.out.trans (HB3.out.mono HB2.out.size)
        · obtain ⟨m1, m2, m3⟩ := NE.out he2
          have HE2 : Aside0 (decide (a2 ≠ ⟨#[]⟩) = true) := ⟨decide_eq_true he2⟩
          clear he2
          cases i2
          all_goals
            gi_wp2_with (first
              | (exfalso; rename_i h _; exact HUN.out _ h)
              | ((with_reducible refine And.intro ?_ ?_); (· exact trivial); first
                   | (gi_at_call_has 120 a2; refine ((callsIn_wide (n := 3)).2 (HM2.out _)).mono ?_; rintro e w3 ⟨rfl, hb3⟩; have HB3 := Aside0.mk hb3; clear hb3)
                   | skip))
            gi_meet
            case rel =>
              refine ⟨FIN.out HE1.out HE2.out (by rfl), ⟨?_⟩⟩
              first
                | exact Below.refl _ _
                | exact HB2.out
                | exact HB3.out
                | exact HB2.out.trans (HB3.out.mono HB2.out.size)
      · obtain ⟨n1, n2, n3⟩ := NE.out he1
        have HE1 : Aside0 (decide (a1 ≠ ⟨#[]⟩) = true) := ⟨decide_eq_true he1⟩
        clear he1
        by_cases he2 : a2 = ⟨#[]⟩
        · subst he2
          have HE2 : Aside0 (decide ((⟨#[]⟩ : ByteArray) ≠ ⟨#[]⟩) = false) := ⟨by simp⟩
          cases i1
          all_goals
            gi_wp2_with (first
              | (exfalso; rename_i h _; exact HUN.out _ h)
              | ((with_reducible refine And.intro ?_ ?_); (· exact trivial); first
                   | (gi_at_call_has 120 a1; refine ((callsIn_wide (n := 3)).2 (HM1.out _)).mono ?_; rintro e w2 ⟨rfl, hb2⟩; have HB2 := Aside0.mk hb2; clear hb2)
                   | skip))
            gi_meet
            case rel =>
              refine ⟨FIN.out HE1.out HE2.out (by rfl), ⟨?_⟩⟩
              first
                | exact Below.refl _ _
                | exact HB2.out
                | exact HB3.out
                | exact HB2.out.trans (HB3.out.mono HB2.out.size)
        · obtain ⟨m1, m2, m3⟩ := NE.out he2
          have HE2 : Aside0 (decide (a2 ≠ ⟨#[]⟩) = true) := ⟨decide_eq_true he2⟩
          clear he2
          cases i1 <;> cases i2
          all_goals
            gi_wp2_with (first
              | (exfalso; rename_i h _; exact HUN.out _ h)
              | ((with_reducible refine And.intro ?_ ?_); (· exact trivial); first
                   | (gi_at_call_has 120 a1; refine ((callsIn_wide (n := 3)).2 (HM1.out _)).mono ?_; rintro e w2 ⟨rfl, hb2⟩; have HB2 := Aside0.mk hb2; clear hb2)
                   | (gi_at_call_has 120 a2; refine ((callsIn_wide (n := 3)).2 (HM2.out _)).mono ?_; rintro e w3 ⟨rfl, hb3⟩; have HB3 := Aside0.mk hb3; clear hb3)
                   | skip))
            gi_meet
            case rel =>
              refine ⟨FIN.out HE1.out HE2.out (by rfl), ⟨?_⟩⟩
              first
                | exact Below.refl _ _
                | exact HB2.out
                | exact HB3.out
                | exact HB2.out.trans (HB3.out.mono HB2.out.size)
    case rest =>
      obtain ⟨rfl, HBc⟩ := hcut
      have Y0 : Aside0 (Boxed wc w.heap.size 9 (.string ⟨#[]⟩)) := ⟨(HBc.out.block _ X0.out.lt).trans X0.out⟩
      have Y1 : Aside0 (Boxed wc (w.heap.size + 1) 27 (.int .i64 0)) := ⟨(HBc.out.block _ X1.out.lt).trans X1.out⟩
      have Y2 : Aside0 (Boxed wc (w.heap.size + 2) 9 (.string a1)) := ⟨(HBc.out.block _ X2.out.lt).trans X2.out⟩
      have Y3 : Aside0 (Boxed wc (w.heap.size + 3) 9 (.string a2)) := ⟨(HBc.out.block _ X3.out.lt).trans X3.out⟩
      have Y4 : Aside0 (Boxed wc (w.heap.size + 4) 212 (.func (.func 224) #[] #[.pointer (some ⟨w.heap.size + 2, 0, none⟩), .pointer (some ⟨w.heap.size + 3, 0, none⟩)])) := ⟨(HBc.out.block _ X4.out.lt).trans X4.out⟩
      have HBw : Aside0 (Below w.heap.size w wc) := ⟨HB1.out.trans (HBc.out.mono HB1.out.size)⟩
      have hszc : w.heap.size + 5 ≤ wc.heap.size := by have := HBc.out.size; omega
      clear c0 c1 f0 f1 X0 X1 X2 X3 X4 HB1 HBc hsz1 HM1 HM2
      have c0 := Y0.out.cell
      have c1 := Y1.out.cell
      have f0 := Y0.out.frozen
      have f1 := Y1.out.frozen
      cases bad with
      | true =>
        have hr : r1 = ⟨#[]⟩ ∧ r2 = 23 := by
          have := HV.out
          unfold expandV at this
          rw [if_neg (by rw [HT.out]; simp), HI1.out, HI2.out, if_pos HBAD.out] at this
          cases this
          exact ⟨rfl, rfl⟩
        obtain ⟨rfl, rfl⟩ := hr
        gi_wp2
        have y0 := (Y0.out.set (.string ⟨#[]⟩)).other (show w.heap.size ≠ w.heap.size + 1 by omega) (.int .i64 23)
        have y1 := (Y1.out.other (show w.heap.size + 1 ≠ w.heap.size by omega) (.string ⟨#[]⟩)).set (.int .i64 23)
        have z0 := y0.cell
        have z1 := y1.cell
        refine ⟨.tuple #[.string ⟨#[]⟩, .int .i64 23], ?_, rfl, ?_⟩
        · simp [results, Tryz.results129, go_sem, z0, z1]
        · exact (HBw.out.setCell (p := ⟨w.heap.size, 0, none⟩) (by simp) _).setCell (p := ⟨w.heap.size + 1, 0, none⟩) (by simp) _
      | false =>
        gi_wp2_with ((with_reducible refine And.intro ?_ ?_); (· exact trivial); gi_at_call 163; refine (callsIn_wide.2 (segments_calls _ _)).mono ?_; rintro e w1 ⟨rfl, rfl⟩)
        obtain ⟨W5, hW5⟩ : ∃ W5, (wc.alloc (.cells #[.slice none 0 0] 36)).alloc (.cells #[.string a0] 9) = W5 := ⟨_, rfl⟩
        have hsz5 : W5.heap.size = wc.heap.size + 2 := by rw [← hW5]; simp
        have hb5 : Below w.heap.size w W5 := by rw [← hW5]; exact (HBw.out.alloc (by omega) _).alloc (by simp; omega) _
        have k0 : Boxed W5 w.heap.size 9 (.string ⟨#[]⟩) := by rw [← hW5]; exact (Y0.out.alloc _).alloc _
        have k1 : Boxed W5 (w.heap.size + 1) 27 (.int .i64 0) := by rw [← hW5]; exact (Y1.out.alloc _).alloc _
        have k2 : Boxed W5 (w.heap.size + 2) 9 (.string a1) := by rw [← hW5]; exact (Y2.out.alloc _).alloc _
        have k3 : Boxed W5 (w.heap.size + 3) 9 (.string a2) := by rw [← hW5]; exact (Y3.out.alloc _).alloc _
        have k4 : Boxed W5 (w.heap.size + 4) 212 (.func (.func 224) #[] #[.pointer (some ⟨w.heap.size + 2, 0, none⟩), .pointer (some ⟨w.heap.size + 3, 0, none⟩)]) := by rw [← hW5]; exact (Y4.out.alloc _).alloc _
        have k9 : Boxed W5 wc.heap.size 36 (.slice none 0 0) := by rw [← hW5]; exact (Boxed.new wc _ _).alloc _
        have kb : Boxed W5 (wc.heap.size + 1) 9 (.string a0) := by
          have h := Boxed.new (wc.alloc (.cells #[.slice none 0 0] 36)) 9 (.string a0)
          rw [World.size_alloc] at h
          rw [← hW5]; exact h
        rw [hW5]
        clear hW5
        have hseq := segments_gives (wc.heap.size + 1) a0 w W5 (by omega) HL.out hb5 (by omega) kb
        obtain ⟨hT1, hT2⟩ : (segsB 46 a0).length ≤ 6 ∧ (segsB 46 a0).all segOk = true := by
          have := HT.out
          unfold tmplOk at this
          rw [Bool.and_eq_true, decide_eq_true_eq] at this
          exact this
        have HT2 := Aside0.mk hT2
        have hrv : expandV a0 a1 a2 = (if ((segsB 46 a0).map fun x => (rep a1 a2 x).1).any (fun x => decide (x = ⟨#[]⟩)) then (⟨#[]⟩, 9) else (bsz (Lib.join ((segsB 46 a0).map fun x => (rep a1 a2 x).1.data.toList) [46]), 0)) := by
          unfold expandV
          rw [if_neg (by rw [HT.out]; simp), HI1.out, HI2.out, if_neg (by rw [HBAD.out]; simp)]
        rw [HV.out] at hrv
        have HRV := Aside0.mk hrv
        clear hT2 hrv
        refine range_gives rfl (by omega) (gf := 210) (lb := #[.pointer (some ⟨wc.heap.size + 1, 0, none⟩)]) rfl trivial (enters_of Tryz.func210 (by kernel_rfl) rfl) hseq (by omega) (Below.refl _ _) (fun _ => rfl) (by omega)
          (fun pre W => ((Boxed W w.heap.size 9 (.string ⟨#[]⟩) ∧ Boxed W (w.heap.size + 1) 27 (.int .i64 0)) ∧ (Boxed W (w.heap.size + 2) 9 (.string a1) ∧ Boxed W (w.heap.size + 3) 9 (.string a2)) ∧ Boxed W (w.heap.size + 4) 212 (.func (.func 224) #[] #[.pointer (some ⟨w.heap.size + 2, 0, none⟩), .pointer (some ⟨w.heap.size + 3, 0, none⟩)])) ∧
            (∃ v, Boxed W wc.heap.size 36 v ∧ W.ownsRow (wc.heap.size + 2) 9 1 v pre.length (pre.map fun x => .string (rep a1 a2 x).1) ∧ v.ownBlock ≠ some (wc.heap.size + 1)) ∧ ((pre.map fun x => (rep a1 a2 x).1).any (fun x => decide (x = ⟨#[]⟩)) = false) ∧ Below w.heap.size w W)
          (fun c W => (c = .ret ∧ r1 = ⟨#[]⟩ ∧ r2 = 9) ∧ (Boxed W w.heap.size 9 (.string ⟨#[]⟩) ∧ Boxed W (w.heap.size + 1) 27 (.int .i64 9)) ∧ Below w.heap.size w W)
          ((((abide_boxed _ (by omega)).and (abide_boxed _ (by omega))).and (((abide_boxed _ (by omega)).and (abide_boxed _ (by omega))).and (abide_boxed _ (by omega)))).and ((abide_row _ _ _ _ _ _ _ (by omega)).and ((abide_pure _).and (abide_below (by omega) (by omega)))))
          (fun c => (abide_pure _).and (((abide_boxed _ (by omega)).and (abide_boxed _ (by omega))).and (abide_below (by omega) (by omega))))
          ⟨⟨⟨k0, k1⟩, ⟨k2, k3⟩, k4⟩, ⟨_, k9, World.ownsRow_nil _ _ _ _, by simp [Value.ownBlock]⟩, rfl, hb5⟩
          (fun x => { tmps := #[.string a0, .string a1, .string a2, undef, undef, undef, .pointer (some ⟨w.heap.size, 0, none⟩), .pointer (some ⟨w.heap.size + 1, 0, none⟩), .pointer (some ⟨w.heap.size + 4, 0, none⟩), .pointer (some ⟨wc.heap.size, 0, none⟩), .string x, undef, undef, .string a1, .string a2, .func (.func 224) #[] #[.pointer (some ⟨w.heap.size + 2, 0, none⟩), .pointer (some ⟨w.heap.size + 3, 0, none⟩)], .string a0, .func (.func 182) #[] #[.pointer (some ⟨w.heap.size + 4, 0, none⟩)], .bool true, .bool false, u20, u21, u22, u23, u24, u25, u26, u27, u28, u29, u30, u31, u32, u33, u34, .bool false, .string a0, .func (.func 210) #[] #[.pointer (some ⟨wc.heap.size + 1, 0, none⟩)], .string x, u39, u40, u41, u42, u43, u44, u45, u46, u47, u48, u49, u50, u51, u52], defers := [] }) ?assign ?body ?done ?stop
        case assign =>
          intro l x W K hK
          gi_wp2
          exact hK
        case body =>
          rintro l pre rest x W hlw hx ⟨⟨⟨h0, h1⟩, ⟨h2, h3⟩, h4⟩, ⟨v, h9, hrow, hvb⟩, hany, hB⟩
          have hnc := names1_calls x a1 a2 (w.heap.size + 2) (w.heap.size + 3) W h2.cell h3.cell
          have hl7 : pre.length + 1 ≤ 6 := by rw [hx] at hT1; simp at hT1; omega
          have hsx : segOk x = true := by have := HT2.out; rw [hx] at this; simp at this; exact this.2.1
          have hbk : W.heap.size ≠ wc.heap.size + 1 := by omega
          have hbl : wc.heap.size + 1 < W.heap.size := by omega
          have hnil : ∀ e : decide ((rep a1 a2 x).1 = ⟨#[]⟩) = true, r1 = ⟨#[]⟩ ∧ r2 = 9 := by
            intro e
            have := HRV.out
            rw [hx, if_pos (by rw [List.map_append, List.any_append, List.map_cons, List.any_cons, e]; simp)] at this
            cases this
            exact ⟨rfl, rfl⟩
          have hnany : decide ((rep a1 a2 x).1 = ⟨#[]⟩) = false → ((pre ++ [x]).map fun x => (rep a1 a2 x).1).any (fun x => decide (x = ⟨#[]⟩)) = false := by
            intro e
            rw [List.map_append, List.any_append, hany, List.map_cons, List.any_cons, e]
            rfl
          have hmapx : (pre ++ [x]).map (fun x => Value.string (rep a1 a2 x).1) = pre.map (fun x => Value.string (rep a1 a2 x).1) ++ [.string (rep a1 a2 x).1] := by rw [List.map_append]; rfl
          have hlenx : (pre ++ [x]).length = pre.length + 1 := by simp
          generalize hq : rep a1 a2 x = q at hnc hnil hnany hmapx
          obtain ⟨y, yb⟩ := q
          have H0 := Aside0.mk h0
          have H1 := Aside0.mk h1
          have H2 := Aside0.mk h2
          have H3 := Aside0.mk h3
          have H4 := Aside0.mk h4
          have H9 := Aside0.mk h9
          have HR := Aside0.mk hrow
          have HVB := Aside0.mk hvb
          have HB := Aside0.mk hB
          have HN := Aside0.mk hnc
          have HNIL := Aside0.mk hnil
          have HNANY := Aside0.mk hnany
          have HMX := Aside0.mk hmapx
          have HLX := Aside0.mk hlenx
          have c0 := h0.cell
          have c1 := h1.cell
          have c4 := h4.cell
          have c9 := h9.cell
          have f0 := h0.frozen
          have f1 := h1.frozen
          have f9 := h9.frozen
          clear h0 h1 h2 h3 h4 h9 hrow hvb hB hnc hnil hnany hany hmapx hlenx hx hq
          by_cases he : y = ⟨#[]⟩
          · subst he
            obtain ⟨rfl, rfl⟩ := HNIL.out (by simp)
            gi_wp2_with ((with_reducible refine And.intro ?_ ?_); (· exact trivial); gi_at_call 224; refine (CallsIn.inRound l (callsIn_wide.2 HN.out)).mono ?_; rintro e w1 ⟨rfl, rfl⟩)
            refine ⟨(KeepsOthers.setCell _ _ _).trans (KeepsOthers.setCell _ _ _), rfl, ⟨(H0.out.set _).other (by omega) _, (H1.out.other (by omega) _).set _⟩, (HB.out.setCell (p := ⟨w.heap.size, 0, none⟩) (by simp) _).setCell (p := ⟨w.heap.size + 1, 0, none⟩) (by simp) _⟩
          · have hN := HNANY.out (decide_eq_false he)
            have n1 := beqL' he (b := ⟨#[]⟩) rfl
            have n2 : y.toList.isEmpty = false := by
              cases hl : y.toList with
              | nil => rw [hl] at n1; simp at n1
              | cons _ _ => rfl
            have n3 : ¬ y.toList = [] := fun e => by rw [e] at n1; simp at n1
            have HN2 := Aside0.mk hN
            clear hN he
            obtain ⟨i0, hi, hz0, hz1, hz2⟩ := info_parts Tryz.infoStr'
            gi_wp2_with (first
              | ((with_reducible refine And.intro ?_ ?_); (· exact trivial); gi_at_call 224; refine (CallsIn.inRound l (callsIn_wide.2 HN.out)).mono ?_; rintro e w1 ⟨rfl, hw1⟩; obtain rfl : W = w1 := hw1.symm)
              | (gi_at_builtin; refine wpListIn_append_own_at _ rfl (.tmp 47) (.tmp 49) 36 rfl (wc.heap.size + 2) 9 i0 (.string ⟨#[]⟩) 1 16 Tryz.underlying36 hi hz0 hz1 hz2 rfl (by decide) v pre.length _ rfl (HR.out.alloc _) ⟨W.heap.size, 0, none⟩ 1 1 [.string y] rfl rfl (cell_one_new _ _ _) (by simp [Value.oneCell']) (by unfold maxLen; omega) (by omega) (by simp; omega) ?_; intro v' w2 hown' hgrow _ _; obtain ⟨g', cap', rfl⟩ := ownsRow_succ hown'; obtain ⟨q1, q2, q3, q4⟩ := row_grew HR.out (n₀ := w.heap.size) (by omega) (by omega) hgrow; have HO := Aside0.mk hown'; have Q1 := Aside0.mk q1; have Q2 := Aside0.mk q2; have Q3 := Aside0.mk q3; have Q4 := Aside0.mk q4; have d9 := (q1 _ _ _ (by omega) H9.out).cell; have g9 := (q1 _ _ _ (by omega) H9.out).frozen; clear hown' hgrow q1 q2 q3 q4))
            have hgb := row_from HO.out g' rfl
            have P9 := (Q1.out _ _ _ (by omega) H9.out).set (.slice (some ⟨g', 0, none⟩) (pre.length + 1) cap')
            refine ⟨Q2.out.trans (KeepsOthers.setCell _ _ _), (Below.heap_setCell _ _ _ _ (by simp)).trans (Q4.out _ (by omega) hbl), Q3.out.setCell (p := ⟨wc.heap.size, 0, none⟩) (by simp; omega) _, ⟨⟨(Q1.out _ _ _ (by omega) H0.out).other (by omega) _, (Q1.out _ _ _ (by omega) H1.out).other (by omega) _⟩, ⟨(Q1.out _ _ _ (by omega) H2.out).other (by omega) _, (Q1.out _ _ _ (by omega) H3.out).other (by omega) _⟩, (Q1.out _ _ _ (by omega) H4.out).other (by omega) _⟩, ⟨_, P9, ?_, ?_⟩, HN2.out, (HB.out.trans Q3.out).setCell (p := ⟨wc.heap.size, 0, none⟩) (by simp; omega) _⟩
            · have := HO.out.kept (grownBy_setCell' w2 wc.heap.size (.slice (some ⟨g', 0, none⟩) (pre.length + 1) cap')) (.inr (by simp [Value.ownBlock]; omega))
              rw [HLX.out, HMX.out]
              exact this
            · simp [Value.ownBlock]; omega
        case done =>
          rintro D W hD ⟨⟨⟨h0, h1⟩, ⟨h2, h3⟩, h4⟩, ⟨v, h9, hrow, hvb⟩, hany, hB⟩ hK
          have hrr : r1 = bsz (Lib.join ((segsB 46 a0).map fun x => (rep a1 a2 x).1.data.toList) [46]) ∧ r2 = 0 := by
            have := HRV.out
            rw [if_neg (by rw [hany]; simp)] at this
            cases this
            exact ⟨rfl, rfl⟩
          have hrow' : W.ownsRow (wc.heap.size + 2) 9 1 v ((segsB 46 a0).map fun x => (rep a1 a2 x).1).length (((segsB 46 a0).map fun x => (rep a1 a2 x).1).map Value.string) := by
            rw [List.length_map, List.map_map]; exact hrow
          have hj := join_row ⟨#[46]⟩ hrow' (by intro e; rw [List.map_eq_nil_iff] at e; unfold segsB at e; rw [List.map_eq_nil_iff] at e; exact splitC_ne _ _ e) (by rw [List.length_map]; exact hT1) (by
            intro x hx
            obtain ⟨y, hy, rfl⟩ := List.mem_map.1 hx
            have := segsB_mem_size 46 a0 y hy
            unfold rep
            split
            · show a1.size ≤ _; omega
            · split
              · show a2.size ≤ _; omega
              · show y.size ≤ _; omega) (by decide)
          rw [List.map_map] at hj
          obtain ⟨hr1, rfl⟩ := hrr
          have hj2 : Calls Tryz.prog 183 #[v, .string ⟨#[46]⟩] W fun e w' => e = .returned (.string r1) ∧ Below W.heap.size W w' := by
            rw [hr1]; exact hj
          have c9 := h9.cell
          have c0 := h0.cell
          have c1 := h1.cell
          have f0 := h0.frozen
          have f1 := h1.frozen
          have HJ := Aside0.mk hj2
          have H0 := Aside0.mk h0
          have H1 := Aside0.mk h1
          have HB := Aside0.mk hB
          have HK := Aside0.mk hK
          clear hj hj2 hr1 h0 h1 h2 h3 h4 h9 hrow hrow' hvb hany hB hK
          gi_wp2_with ((with_reducible refine And.intro ?_ ?_); (· exact trivial); gi_at_call 183; refine (callsIn_wide.2 HJ.out).mono ?_; rintro e w1 ⟨rfl, hb1⟩; have K0 : Boxed w1 w.heap.size 9 (.string ⟨#[]⟩) := (hb1.block _ H0.out.lt).trans H0.out; have K1 : Boxed w1 (w.heap.size + 1) 27 (.int .i64 0) := (hb1.block _ H1.out.lt).trans H1.out; have d0 := K0.cell; have d1 := K1.cell; have g0 := K0.frozen; have g1 := K1.frozen; have hD1 : w1.heap[D]? = some (.deferred (some [])) := (hb1.block _ (Array.getElem?_eq_some_iff.1 HK.out).1).trans HK.out; have KK0 := Aside0.mk K0; have KK1 := Aside0.mk K1; have HD1 := Aside0.mk hD1; have HB1 := Aside0.mk (HB.out.trans (hb1.mono HB.out.size)); clear hb1 K0 K1 hD1)
          have y0 := (KK0.out.set (.string r1)).other (show w.heap.size ≠ w.heap.size + 1 by omega) (.int .i64 0)
          have y1 := (KK1.out.other (show w.heap.size + 1 ≠ w.heap.size by omega) (.string r1)).set (.int .i64 0)
          have HD2 := (KeepsOthers.setCell _ ⟨w.heap.size + 1, 0, none⟩ (.int .i64 0)).same D _ ((KeepsOthers.setCell w1 ⟨w.heap.size, 0, none⟩ (.string r1)).same D _ HD1.out rfl) rfl
          refine ⟨by simp, .inl ⟨_, _, rfl, run_takeDeferred HD2, ?_⟩⟩
          have z0 := cell_kept y0.cell (grownBy_putObj' _ D (.deferred none)) (fun r e => by cases e; exact ⟨_, HD2, rfl⟩)
          have z1 := cell_kept y1.cell (grownBy_putObj' _ D (.deferred none)) (fun r e => by cases e; exact ⟨_, HD2, rfl⟩)
          refine ⟨.tuple #[.string r1, .int .i64 0], ?_, rfl, ?_⟩
          · simp [results, Tryz.results129, go_sem, z0, z1]
          · exact below_putObj (by omega) ((HB1.out.setCell (p := ⟨w.heap.size, 0, none⟩) (by simp) _).setCell (p := ⟨w.heap.size + 1, 0, none⟩) (by simp) _)
        case stop =>
          rintro D c W hD ⟨⟨rfl, rfl, rfl⟩, ⟨h0, h1⟩, hB⟩ hK
          have c0 := h0.cell
          have c1 := h1.cell
          have H0 := Aside0.mk h0
          have H1 := Aside0.mk h1
          have HB := Aside0.mk hB
          have HK := Aside0.mk hK
          clear h0 h1 hB hK
          gi_wp2
          refine ⟨by simp, .inl ⟨_, _, rfl, run_takeDeferred HK.out, ?_⟩⟩
          have z0 := cell_kept H0.out.cell (grownBy_putObj' _ D (.deferred none)) (fun r e => by cases e; exact ⟨_, HK.out, rfl⟩)
          have z1 := cell_kept H1.out.cell (grownBy_putObj' _ D (.deferred none)) (fun r e => by cases e; exact ⟨_, HK.out, rfl⟩)
          refine ⟨.tuple #[.string ⟨#[]⟩, .int .i64 9], ?_, rfl, ?_⟩
          · simp [results, Tryz.results129, go_sem, z0, z1]
          · exact below_putObj (by omega) HB.out
end Go.Proofs.YtblcgcibkikgeaaGreatDoor.G
end
section
namespace Go.Proofs
open Go.Shelf
def Tryz.keysSI_ren : Go.Shelf.Ren := ⟨fun | 7 => 180 | 10 => 223 | n => n, fun | 23 => 155 | 26 => 9 | 3 => 72 | 28 => 61 | 0 => 0 | 27 => 60 | 33 => 86 | 4 => 4 | n => n, fun | n => n⟩
theorem Tryz.keysSI : Go.Proofs.SlLaysZ.n7 Tryz.prog Tryz.keysSI_ren := {
  mixed := by kernel_rfl
  f7 := ⟨Tryz.f180.name, by decide, Tryz.func180.trans (congrArg some (by kernel_rfl))⟩
  f10 := ⟨Tryz.f223.name, by decide, Tryz.func223.trans (congrArg some (by kernel_rfl))⟩
  t0 := Tryz.underlying0
  a0 := Tryz.isAgg0
  z0 := Tryz.sizeOf0
  v0 := Tryz.zeroValue0
  t4 := Tryz.underlying4
  a4 := Tryz.isAgg4
  z4 := Tryz.sizeOf4
  v4 := Tryz.zeroValue4
  t23 := Tryz.underlying155
  a23 := Tryz.isAgg155
  z23 := Tryz.sizeOf155
  v23 := Tryz.zeroValue155
  t26 := Tryz.underlying9
  a26 := Tryz.isAgg9
  z26 := Tryz.sizeOf9
  v26 := Tryz.zeroValue9
  t27 := Tryz.underlying60
  a27 := Tryz.isAgg60
  z27 := Tryz.sizeOf60
  v27 := Tryz.zeroValue60
  t28 := Tryz.underlying61
  a28 := Tryz.isAgg61
  z28 := Tryz.sizeOf61
  v28 := Tryz.zeroValue61
  t33 := Tryz.underlying86
  a33 := Tryz.isAgg86
  z33 := Tryz.sizeOf86
  v33 := Tryz.zeroValue86 }
def Tryz.sortedS_ren : Go.Shelf.Ren := ⟨fun | 6 => 35 | 8 => 74 | 9 => 72 | 11 => 123 | 13 => 104 | 12 => 122 | 23 => 153 | 24 => 154 | 14 => 165 | 15 => 166 | 16 => 167 | 17 => 168 | 18 => 169 | 19 => 170 | 20 => 171 | 21 => 172 | 22 => 173 | 25 => 212 | 26 => 200 | 27 => 201 | 28 => 213 | 29 => 214 | 30 => 215 | 31 => 243 | n => n, fun | 26 => 9 | 28 => 61 | 24 => 36 | 0 => 0 | 3 => 3 | 37 => 151 | 48 => 196 | 50 => 198 | 4 => 4 | 40 => 189 | 39 => 188 | 45 => 193 | 5 => 5 | 9 => 9 | 51 => 227 | 55 => 231 | 57 => 258 | 58 => 259 | 33 => 86 | n => n, fun | n => n⟩
theorem Tryz.sortedS : Go.Proofs.SlLaysZ.n6 Tryz.prog Tryz.sortedS_ren := {
  mixed := by kernel_rfl
  f6 := ⟨Tryz.f35.name, by decide, Tryz.func35.trans (congrArg some (by kernel_rfl))⟩
  f8 := ⟨Tryz.f74.name, by decide, Tryz.func74.trans (congrArg some (by kernel_rfl))⟩
  f11 := ⟨Tryz.f123.name, by decide, Tryz.func123.trans (congrArg some (by kernel_rfl))⟩
  t0 := Tryz.underlying0
  a0 := Tryz.isAgg0
  z0 := Tryz.sizeOf0
  v0 := Tryz.zeroValue0
  t24 := Tryz.underlying36
  a24 := Tryz.isAgg36
  z24 := Tryz.sizeOf36
  v24 := Tryz.zeroValue36
  t26 := Tryz.underlying9
  a26 := Tryz.isAgg9
  z26 := Tryz.sizeOf9
  v26 := Tryz.zeroValue9
  t28 := Tryz.underlying61
  a28 := Tryz.isAgg61
  z28 := Tryz.sizeOf61
  v28 := Tryz.zeroValue61
  i26 := by kernel_rfl }
def Tryz.sortS_ren : Go.Shelf.Ren := ⟨fun | 6 => 72 | 8 => 104 | 9 => 122 | 19 => 153 | 20 => 154 | 21 => 165 | 22 => 166 | 23 => 167 | 24 => 168 | 25 => 169 | 26 => 170 | 27 => 171 | 28 => 172 | 29 => 173 | 36 => 212 | 31 => 200 | 32 => 201 | 37 => 213 | 38 => 214 | 39 => 215 | 41 => 243 | n => n, fun | 27 => 36 | 29 => 9 | 3 => 3 | 32 => 151 | 26 => 36 | 0 => 0 | 44 => 196 | 46 => 198 | 4 => 4 | 36 => 189 | 35 => 188 | 41 => 193 | 5 => 5 | 9 => 9 | 53 => 227 | 57 => 231 | 63 => 258 | 64 => 259 | n => n, fun | n => n⟩
theorem Tryz.sortS : Go.Proofs.SlLaysM.n6 Tryz.prog Tryz.sortS_ren := {
  mixed := by kernel_rfl
  f6 := ⟨Tryz.f72.name, by decide, Tryz.func72.trans (congrArg some (by kernel_rfl))⟩
  f8 := Tryz.func104.trans (congrArg some (by kernel_rfl))
  f9 := ⟨Tryz.f122.name, by decide, Tryz.func122.trans (congrArg some (by kernel_rfl))⟩
  f19 := Tryz.func153.trans (congrArg some (by kernel_rfl))
  f20 := Tryz.func154.trans (congrArg some (by kernel_rfl))
  f21 := ⟨Tryz.f165.name, by decide, Tryz.func165.trans (congrArg some (by kernel_rfl))⟩
  f22 := ⟨Tryz.f166.name, by decide, Tryz.func166.trans (congrArg some (by kernel_rfl))⟩
  f23 := ⟨Tryz.f167.name, by decide, Tryz.func167.trans (congrArg some (by kernel_rfl))⟩
  f24 := ⟨Tryz.f168.name, by decide, Tryz.func168.trans (congrArg some (by kernel_rfl))⟩
  f25 := ⟨Tryz.f169.name, by decide, Tryz.func169.trans (congrArg some (by kernel_rfl))⟩
  f26 := ⟨Tryz.f170.name, by decide, Tryz.func170.trans (congrArg some (by kernel_rfl))⟩
  f27 := ⟨Tryz.f171.name, by decide, Tryz.func171.trans (congrArg some (by kernel_rfl))⟩
  f28 := ⟨Tryz.f172.name, by decide, Tryz.func172.trans (congrArg some (by kernel_rfl))⟩
  f29 := ⟨Tryz.f173.name, by decide, Tryz.func173.trans (congrArg some (by kernel_rfl))⟩
  f31 := Tryz.func200.trans (congrArg some (by kernel_rfl))
  f32 := Tryz.func201.trans (congrArg some (by kernel_rfl))
  f36 := ⟨Tryz.f212.name, by decide, Tryz.func212.trans (congrArg some (by kernel_rfl))⟩
  f37 := ⟨Tryz.f213.name, by decide, Tryz.func213.trans (congrArg some (by kernel_rfl))⟩
  f38 := ⟨Tryz.f214.name, by decide, Tryz.func214.trans (congrArg some (by kernel_rfl))⟩
  f39 := ⟨Tryz.f215.name, by decide, Tryz.func215.trans (congrArg some (by kernel_rfl))⟩
  f41 := ⟨Tryz.f243.name, by decide, Tryz.func243.trans (congrArg some (by kernel_rfl))⟩
  t0 := Tryz.underlying0
  a0 := Tryz.isAgg0
  z0 := Tryz.sizeOf0
  v0 := Tryz.zeroValue0
  t3 := Tryz.underlying3
  a3 := Tryz.isAgg3
  z3 := Tryz.sizeOf3
  v3 := Tryz.zeroValue3
  t4 := Tryz.underlying4
  a4 := Tryz.isAgg4
  z4 := Tryz.sizeOf4
  v4 := Tryz.zeroValue4
  t5 := Tryz.underlying5
  a5 := Tryz.isAgg5
  z5 := Tryz.sizeOf5
  v5 := Tryz.zeroValue5
  t9 := Tryz.underlying9
  a9 := Tryz.isAgg9
  z9 := Tryz.sizeOf9
  v9 := Tryz.zeroValue9
  t26 := Tryz.underlying36
  a26 := Tryz.isAgg36
  z26 := Tryz.sizeOf36
  v26 := Tryz.zeroValue36
  t27 := Tryz.underlying36
  a27 := Tryz.isAgg36
  z27 := Tryz.sizeOf36
  v27 := Tryz.zeroValue36
  t29 := Tryz.underlying9
  a29 := Tryz.isAgg9
  z29 := Tryz.sizeOf9
  v29 := Tryz.zeroValue9
  t32 := Tryz.underlying151
  a32 := Tryz.isAgg151
  z32 := Tryz.sizeOf151
  v32 := Tryz.zeroValue151
  t35 := Tryz.underlying188
  a35 := Tryz.isAgg188
  z35 := Tryz.sizeOf188
  v35 := Tryz.zeroValue188
  t36 := Tryz.underlying189
  a36 := Tryz.isAgg189
  z36 := Tryz.sizeOf189
  v36 := Tryz.zeroValue189
  t41 := Tryz.underlying193
  a41 := Tryz.isAgg193
  z41 := Tryz.sizeOf193
  v41 := Tryz.zeroValue193
  t44 := Tryz.underlying196
  a44 := Tryz.isAgg196
  z44 := Tryz.sizeOf196
  v44 := Tryz.zeroValue196
  t46 := Tryz.underlying198
  a46 := Tryz.isAgg198
  z46 := Tryz.sizeOf198
  v46 := Tryz.zeroValue198
  t53 := Tryz.underlying227
  a53 := Tryz.isAgg227
  z53 := Tryz.sizeOf227
  v53 := Tryz.zeroValue227
  t57 := Tryz.underlying231
  a57 := Tryz.isAgg231
  z57 := Tryz.sizeOf231
  v57 := Tryz.zeroValue231
  t63 := Tryz.underlying258
  a63 := Tryz.isAgg258
  z63 := Tryz.sizeOf258
  v63 := Tryz.zeroValue258
  t64 := Tryz.underlying259
  a64 := Tryz.isAgg259
  z64 := Tryz.sizeOf259
  v64 := Tryz.zeroValue259 }
open Go.RowKit Go.Maps Go.Sort Go.Shelf
theorem Tryz.sortsS (m : Nat) : AnyZ.SortsIn Tryz.prog Tryz.sortedS_ren Fence.wide m :=
  ⟨fun blk off cap ss W hH hblk hsz => callsIn_wide.2 (AnyM.slices_Sort_string Tryz.sortS blk off cap ss W hH hblk hsz),
   fun p cap W => callsIn_wide.2 (AnyM.slices_Sort_string_none Tryz.sortS p cap W)⟩
theorem Tryz.maps_Keys_SI (mb : Option Nat) (W : World) : Calls Tryz.prog 180 #[.map mb] W fun e w' => e = .returned (.func (.func 223) #[] #[.pointer (some ⟨W.heap.size, 0, none⟩)]) ∧ w' = W.alloc (.cells #[.map mb] 155) :=
  callsIn_wide.1 (AnyZ.keys_in Tryz.keysSI Fence.wide 5 trivial rfl mb W)
set_option maxHeartbeats 1000000 in
theorem Tryz.slices_Sorted_SI {H : Type} (b nn : Nat) (D0 : DataW H) (R : Value → Option (DataW H × List MemPlace)) (w : World) (hown : w.ownsMap Tryz.prog 9 R b nn D0) (hmax : Maps.size D0 ≤ maxLen) (hbytes : Maps.size D0 * 16 ≤ 140737488355328) :
    Calls Tryz.prog 35 #[.func (.func 223) #[] #[.pointer (some ⟨w.heap.size, 0, none⟩)]] (w.alloc (.cells #[.map (some b)] 155)) fun e w' => ∃ (v : Value) (ss : List (List UInt8)), e = .returned v ∧ ss.Perm (strKeys D0) ∧
      w'.ownsRow (w.alloc (.cells #[.map (some b)] 155)).heap.size 9 1 v ss.length ((ss.mergeSort (fun x y => decide (x ≤ y))).map encStr) ∧ (v = .slice none 0 0 ↔ ss = []) ∧ Below (w.alloc (.cells #[.map (some b)] 155)).heap.size (w.alloc (.cells #[.map (some b)] 155)) w' := by
  have hbl := hown.lt
  have hseq : SeqGives Fence.wide 2 Tryz.prog 223 #[.pointer (some ⟨w.heap.size, 0, none⟩)] encStr (fun ss => ss.Perm (strKeys D0)) (Maps.size D0) (w.alloc (.cells #[.map (some b)] 155)) :=
    AnyZ.keys_gives (ρ := Tryz.keysSI_ren) { Tryz.keysSI with } Fence.wide _ trivial rfl (by omega) w.heap.size b nn D0 _ (by simp) (by simp) (by
      obtain ⟨es, clock, hb, Ft, hs, hD⟩ := hown
      exact ⟨es, clock, (Below.heap_alloc _ _ b hbl).trans hb, Ft, hs, hD⟩)
  exact callsIn_wide.1 (AnyZ.sorted_in Tryz.sortedS Fence.wide 5 trivial trivial trivial trivial rfl (by omega) (Tryz.sortsS _) (enters_of Tryz.func72 (by kernel_rfl) rfl) 223 #[.pointer (some ⟨w.heap.size, 0, none⟩)] trivial (enters_of Tryz.func223 (by kernel_rfl) rfl) _ _ hmax hbytes _ hseq)
end Go.Proofs
end
