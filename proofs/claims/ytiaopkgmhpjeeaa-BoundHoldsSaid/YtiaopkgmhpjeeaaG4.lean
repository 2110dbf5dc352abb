import Derived.Test.YtiaopkgmhpjeeaaG3
-- printed by myprint.py (a program of this session's, over the kit's printer)
namespace Go.Proofs.Ytiaopkgmhpjeeaa.MBoundHolds
open Go.RowKit Go.Proofs.YtiaopkgmhpjeeaaW.PrintWords Go.Proofs.YtiaopkgmhpjeeaaW.PrintLast Go.Proofs.YtiaopkgmhpjeeaaW.PrintMore
attribute [local go_sem] max2_int min2_int max_two min_two max_three min_three max_four min_four   -- for this text's walks alone
set_option linter.unusedVariables false
set_option linter.unusedSimpArgs false

/-! ### plan_next: function 18 -/
def plan_next.l0 : Nat → List (S57) → Int → Int → Int → Int → Bool → Int → Int → Int → List (S56) → Option (Int × Int × Int × Bool)
  | 0, _, _, _, _, _, _, _, _, _, _ => none
  | k + 1, x18, x19, x20, x201000, x201001, x201002, x202000, x202001, x202002, x202003 => if x20 < x19 then (if 0 ≤ x20 then (if x20 < (x18.length : Int) then ((plan_edge.f x201000 x201001 x201002 x202000 x202001 x202002 x202003).bind fun t212 => ((plan_seek.f k x201000 x201001 x201002 x202000 x202001 x202002 x202003 ((rd_T57 x18 x20).f1) t212).bind fun bt213 => (if bt213.2.2.2 = true then ((plan_cut.f x201000 x201001 x201002 bt213.1 bt213.2.1 bt213.2.2.1 ((rd_T57 x18 x20).f2)).bind fun bt218 => (some ((rd_T57 x18 x20).f0, bt218.1, bt218.2, false))) else (plan_next.l0 k x18 x19 (wrap64 (x20 + 1)) x201000 x201001 x201002 x202000 x202001 x202002 x202003)))) else (none)) else (none)) else ((plan_retry.f k x201000 x201001 x201002 x202000 x202001 x202002 x202003).bind fun bt206 => (some (bt206.1, bt206.2.1, bt206.2.2.1, bt206.2.2.2)))
def plan_next.f (k : Nat) (a0_0 : Int) (a0_1 : Int) (a0_2 : Bool) (a1_0 : Int) (a1_1 : Int) (a1_2 : Int) (l1_3 : List (S56)) : Option (Int × Int × Int × Bool) := (some (([(⟨1, 63, wrap64 (a0_0 - 1)⟩ : S57), (⟨2, 42, 0⟩ : S57), (⟨3, 47, 0⟩ : S57)] : List (S57)) : List (S57))).bind fun y203 => (plan_next.l0 k y203 (y203.length : Int) 0 a0_0 a0_1 a0_2 a1_0 a1_1 a1_2 l1_3)
theorem plan_next.mono_l : ∀ k, (∀ y0 y1 y2 y3 y4 y5 y6 y7 y8 y9, LeO (plan_next.l0 k y0 y1 y2 y3 y4 y5 y6 y7 y8 y9) (plan_next.l0 (k + 1) y0 y1 y2 y3 y4 y5 y6 y7 y8 y9))
  | 0 => fun _ _ _ _ _ _ _ _ _ _ r h => by simp [plan_next.l0] at h
  | k + 1 => by
    have ih0 := plan_next.mono_l k
    · intro y0 y1 y2 y3 y4 y5 y6 y7 y8 y9
      unfold plan_next.l0
      repeat' first
      | (with_reducible exact ih0 _ _ _ _ _ _ _ _ _ _)
      | (with_reducible exact plan_retry.mono _ _ _ _ _ _ _ _)
      | (with_reducible exact plan_seek.mono _ _ _ _ _ _ _ _ _ _)
      | (with_reducible exact LeO.refl _)
      | (with_reducible exact LeO.none _)
      | (with_reducible refine LeO.ite ?_ ?_)
      | (with_reducible refine LeO.bind ?_ (fun _ => ?_))
      | exact ih0 _ _ _ _ _ _ _ _ _ _
      | exact plan_retry.mono _ _ _ _ _ _ _ _
      | exact plan_seek.mono _ _ _ _ _ _ _ _ _ _
      | exact LeO.none _
      | refine LeO.ite ?_ ?_
      | refine LeO.bind ?_ (fun _ => ?_)
theorem plan_next.mono : ∀ a0 a1 a2 a3 a4 a5 a6 k, LeO (plan_next.f k a0 a1 a2 a3 a4 a5 a6) (plan_next.f (k + 1) a0 a1 a2 a3 a4 a5 a6) := by
  intro a0 a1 a2 a3 a4 a5 a6 k
  have ih0 := plan_next.mono_l k
  unfold plan_next.f
  repeat' first
      | (with_reducible exact ih0 _ _ _ _ _ _ _ _ _ _)
      | (with_reducible exact plan_retry.mono _ _ _ _ _ _ _ _)
      | (with_reducible exact plan_seek.mono _ _ _ _ _ _ _ _ _ _)
      | (with_reducible exact LeO.refl _)
      | (with_reducible exact LeO.none _)
      | (with_reducible refine LeO.ite ?_ ?_)
      | (with_reducible refine LeO.bind ?_ (fun _ => ?_))
      | exact ih0 _ _ _ _ _ _ _ _ _ _
      | exact plan_retry.mono _ _ _ _ _ _ _ _
      | exact plan_seek.mono _ _ _ _ _ _ _ _ _ _
      | exact LeO.none _
      | refine LeO.ite ?_ ?_
      | refine LeO.bind ?_ (fun _ => ?_)
def plan_next.T4 : Bool × List (List Nat × List Nat) := (true, [([], []), ([], []), ([], []), ([2], [2]), ([], []), ([], []), ([4, 5], [4, 5]), ([0, 1, 3, 6, 6], [0, 1, 3, 6]), ([7], [7]), ([8], [8]), ([8], [8]), ([], []), ([11, 9, 7, 0, 1, 2, 3, 4, 5, 6, 7, 8, 9, 11], [9, 11]), ([10, 12, 0, 1, 2, 3, 4, 5, 6, 7, 8, 9, 10, 11, 12], [10])])
def plan_next.B4 : List Nat := [0, 0, 0, 4, 0, 0, 48, 127, 255, 511, 511, 0, 3071, 8191]
theorem plan_next.tab4 : rtab .any (opsOf Try.f18 4) = plan_next.T4 := by kernel_rfl
theorem plan_next.bits4 : waitsOk plan_next.T4.2 plan_next.B4 = true := by kernel_rfl
set_option maxHeartbeats 8000000 in
set_option maxRecDepth 100000 in
theorem plan_next.calls (k : Nat) (a0_0 : Int) (a0_1 : Int) (a0_2 : Bool) (a1_0 : Int) (a1_1 : Int) (a1_2 : Int) (A1_3 : Option Addr) (c1_3 : Nat) (l1_3 : List (S56)) (r1 : Int) (r2 : Int) (r3 : Int) (r4 : Bool) (w : World) (hr1_3 : Kd.C k56 w A1_3 l1_3.length l1_3) (hc1_3 : l1_3.length ≤ c1_3) (h : plan_next.f k a0_0 a0_1 a0_2 a1_0 a1_1 a1_2 l1_3 = some (r1, r2, r3, r4)) :
    Calls Try.prog 18 #[.agg #[.int .i64 a0_0, .int .i64 a0_1, .bool a0_2], .agg #[.int .i64 a1_0, .int .i64 a1_1, .int .u8 a1_2, .slice A1_3 l1_3.length c1_3]] w fun e w' => e = .returned (.tuple #[.agg #[.int .i64 r1, .int .i64 r2, .int .i64 r3], .bool r4]) ∧ Below w.heap.size w w' := by
  have hu26 := Try.underlying26
  have hu30 := Try.underlying30
  have hu35 := Try.underlying35
  have hu57 := Try.underlying57
  have hu56 := Try.underlying56
  have HR1_3 := Aside0.mk hr1_3
  have HC1_3 := Aside0.mk hc1_3
  clear hr1_3 hc1_3
  have HB := Aside0.mk (Below.refl w.heap.size w)
  have H : ((some (([(⟨1, 63, wrap64 (a0_0 - 1)⟩ : S57), (⟨2, 42, 0⟩ : S57), (⟨3, 47, 0⟩ : S57)] : List (S57)) : List (S57))).bind fun y203 => (plan_next.l0 k y203 (y203.length : Int) 0 a0_0 a0_1 a0_2 a1_0 a1_1 a1_2 l1_3)) = some (r1, r2, r3, r4) := h
  clear h
  obtain ⟨y203, hy203⟩ : ∃ y_ : List (S57), y_ = (([(⟨1, 63, wrap64 (a0_0 - 1)⟩ : S57), (⟨2, 42, 0⟩ : S57), (⟨3, 47, 0⟩ : S57)] : List (S57))) := ⟨_, rfl⟩
  replace H : (plan_next.l0 k y203 (y203.length : Int) 0 a0_0 a0_1 a0_2 a1_0 a1_1 a1_2 l1_3) = some (r1, r2, r3, r4) := by first | (rw [hy203]; with_reducible exact H) | (have H2_ := (Option.bind_some _ _).symm.trans H; rw [hy203]; with_reducible exact H2_) | (have H2_ := (Option.bind_some _ _).symm.trans H; with_reducible exact H2_) | with_reducible exact H | (rw [hy203]; exact H) | exact H
  have Ny203 := Aside0.mk hy203
  clear hy203
  have H' := Aside0.mk H
  clear H
  go_enter Try.func18, Try.ntmps18
  go_wp2_with (first | ((with_reducible refine gate_dst (N := 2) rfl ?_); refine box_event ?hg (N := 2) ?hd (cs := #[.int .i64 a0_0, .int .i64 a0_1, .bool a0_2]) (t := 26) ?hr ?_; (case hd => rfl); (case hg => rfl); (case hr => first | (go_simp; done) | (go_simp; rfl)); intro gb200 hg w3 hbox hb; have n0_ := Aside0.mk (below_step (by repeat (first | (with_reducible first | exact HB.out | apply below_alloc | apply pw_below_drewN | apply below_drew1) | exact HB.out)) hb); have n1_ := Aside0.mk (hbox); have n2_ := Aside0.mk ((by rw [hg]; exact (below_size (by repeat (first | (with_reducible first | exact HB.out | apply below_alloc | apply pw_below_drewN | apply below_drew1) | exact HB.out))) : w.heap.size ≤ gb200)); have n3_ := Aside0.mk ((by rw [hg]; exact (below_size (by repeat (first | (with_reducible first | exact HB.out | apply below_alloc | apply pw_below_drewN | apply below_drew1) | exact HB.out))) : w.heap.size ≤ gb200)); clear HB; have HB := n0_; have BK200 := n1_; have GW200 := n2_; have GE200 := n3_; clear n0_ n1_ n2_ n3_; clear hb hbox hg) | ((with_reducible refine gate_dst (N := 3) rfl ?_); refine box_event ?hg (N := 3) ?hd (cs := #[.int .i64 a1_0, .int .i64 a1_1, .int .u8 a1_2, .slice A1_3 l1_3.length c1_3]) (t := 30) ?hr ?_; (case hd => rfl); (case hg => rfl); (case hr => first | (go_simp; done) | (go_simp; rfl)); intro gb201 hg w4 hbox hb; have n0_ := Aside0.mk (blk_below (g := gb200) (o := .cells #[.int .i64 a0_0, .int .i64 a0_1, .bool a0_2] 26 (0, 0)) (by (with_reducible repeat (first | refine blk_drewN ?_ _ | refine blk_drew ?_ | refine blk_alloc ?_ _)); exact BK200.out) hb); have n1_ := Aside0.mk (below_step (by repeat (first | (with_reducible first | exact HB.out | apply below_alloc | apply pw_below_drewN | apply below_drew1 | refine below_set ?_ GE200.out) | exact HB.out)) hb); have n2_ := Aside0.mk (hbox); have n3_ := Aside0.mk ((by rw [hg]; exact (below_size (by repeat (first | (with_reducible first | exact HB.out | apply below_alloc | apply pw_below_drewN | apply below_drew1 | refine below_set ?_ GE200.out) | exact HB.out))) : w.heap.size ≤ gb201)); have n4_ := Aside0.mk ((by rw [hg]; exact (below_size (by repeat (first | (with_reducible first | exact HB.out | apply below_alloc | apply pw_below_drewN | apply below_drew1 | refine below_set ?_ GE200.out) | exact HB.out))) : w.heap.size ≤ gb201)); have n5_ := Aside0.mk ((by rw [hg]; exact Nat.ne_of_lt (blk_lt (g := gb200) (o := .cells #[.int .i64 a0_0, .int .i64 a0_1, .bool a0_2] 26 (0, 0)) (by (with_reducible repeat (first | refine blk_drewN ?_ _ | refine blk_drew ?_ | refine blk_alloc ?_ _)); exact BK200.out)) : gb200 ≠ gb201)); have n6_ := Aside0.mk ((by rw [hg]; exact Nat.ne_of_gt (blk_lt (g := gb200) (o := .cells #[.int .i64 a0_0, .int .i64 a0_1, .bool a0_2] 26 (0, 0)) (by (with_reducible repeat (first | refine blk_drewN ?_ _ | refine blk_drew ?_ | refine blk_alloc ?_ _)); exact BK200.out)) : gb201 ≠ gb200)); clear BK200; clear HB; have BK200 := n0_; have HB := n1_; have BK201 := n2_; have GW201 := n3_; have GE201 := n4_; have NB200_201 := n5_; have NB201_200 := n6_; clear n0_ n1_ n2_ n3_ n4_ n5_ n6_; clear hb hbox hg) | ((with_reducible refine gate_dst (N := 4) rfl ?_); refine box_event ?hg (N := 4) ?hd (cs := #[.int .i64 0, .int .i64 0, .int .i64 0]) (t := 35) ?hr ?_; (case hd => rfl); (case hg => rfl); (case hr => first | (go_simp; done) | (go_simp; rfl)); intro gb202 hg w5 hbox hb; have n0_ := Aside0.mk (blk_below (g := gb200) (o := .cells #[.int .i64 a0_0, .int .i64 a0_1, .bool a0_2] 26 (0, 0)) (by (with_reducible repeat (first | refine blk_drewN ?_ _ | refine blk_drew ?_ | refine blk_alloc ?_ _)); exact BK200.out) hb); have n1_ := Aside0.mk (blk_below (g := gb201) (o := .cells #[.int .i64 a1_0, .int .i64 a1_1, .int .u8 a1_2, .slice A1_3 l1_3.length c1_3] 30 (0, 0)) (by (with_reducible repeat (first | refine blk_drewN ?_ _ | refine blk_drew ?_ | refine blk_alloc ?_ _)); exact BK201.out) hb); have n2_ := Aside0.mk (below_step (by repeat (first | (with_reducible first | exact HB.out | apply below_alloc | apply pw_below_drewN | apply below_drew1 | refine below_set ?_ GE200.out | refine below_set ?_ GE201.out) | exact HB.out)) hb); have n3_ := Aside0.mk (hbox); have n4_ := Aside0.mk ((by rw [hg]; exact (below_size (by repeat (first | (with_reducible first | exact HB.out | apply below_alloc | apply pw_below_drewN | apply below_drew1 | refine below_set ?_ GE200.out | refine below_set ?_ GE201.out) | exact HB.out))) : w.heap.size ≤ gb202)); have n5_ := Aside0.mk ((by rw [hg]; exact (below_size (by repeat (first | (with_reducible first | exact HB.out | apply below_alloc | apply pw_below_drewN | apply below_drew1 | refine below_set ?_ GE200.out | refine below_set ?_ GE201.out) | exact HB.out))) : w.heap.size ≤ gb202)); have n6_ := Aside0.mk ((by rw [hg]; exact Nat.ne_of_lt (blk_lt (g := gb200) (o := .cells #[.int .i64 a0_0, .int .i64 a0_1, .bool a0_2] 26 (0, 0)) (by (with_reducible repeat (first | refine blk_drewN ?_ _ | refine blk_drew ?_ | refine blk_alloc ?_ _)); exact BK200.out)) : gb200 ≠ gb202)); have n7_ := Aside0.mk ((by rw [hg]; exact Nat.ne_of_gt (blk_lt (g := gb200) (o := .cells #[.int .i64 a0_0, .int .i64 a0_1, .bool a0_2] 26 (0, 0)) (by (with_reducible repeat (first | refine blk_drewN ?_ _ | refine blk_drew ?_ | refine blk_alloc ?_ _)); exact BK200.out)) : gb202 ≠ gb200)); have n8_ := Aside0.mk ((by rw [hg]; exact Nat.ne_of_lt (blk_lt (g := gb201) (o := .cells #[.int .i64 a1_0, .int .i64 a1_1, .int .u8 a1_2, .slice A1_3 l1_3.length c1_3] 30 (0, 0)) (by (with_reducible repeat (first | refine blk_drewN ?_ _ | refine blk_drew ?_ | refine blk_alloc ?_ _)); exact BK201.out)) : gb201 ≠ gb202)); have n9_ := Aside0.mk ((by rw [hg]; exact Nat.ne_of_gt (blk_lt (g := gb201) (o := .cells #[.int .i64 a1_0, .int .i64 a1_1, .int .u8 a1_2, .slice A1_3 l1_3.length c1_3] 30 (0, 0)) (by (with_reducible repeat (first | refine blk_drewN ?_ _ | refine blk_drew ?_ | refine blk_alloc ?_ _)); exact BK201.out)) : gb202 ≠ gb201)); clear BK200; clear BK201; clear HB; have BK200 := n0_; have BK201 := n1_; have HB := n2_; have BK202 := n3_; have GW202 := n4_; have GE202 := n5_; have NB200_202 := n6_; have NB202_200 := n7_; have NB201_202 := n8_; have NB202_201 := n9_; clear n0_ n1_ n2_ n3_ n4_ n5_ n6_ n7_ n8_ n9_; clear hb hbox hg; have hnb6 := NB200_201.out; have hnc6 := NB201_200.out; have hnb7 := NB200_202.out; have hnc7 := NB202_200.out; have hcz8_0 : w5.cell? ⟨gb200, 0, none⟩ = some (.int .i64 a0_0) := (blk_cell BK200.out 0).trans rfl; have hcz8_1 : w5.cell? ⟨gb200, 1, none⟩ = some (.int .i64 a0_1) := (blk_cell BK200.out 1).trans rfl; have hcz8_2 : w5.cell? ⟨gb200, 2, none⟩ = some (.bool a0_2) := (blk_cell BK200.out 2).trans rfl; have hfz8_0 := blk_frozen BK200.out 0; have hfz8_1 := blk_frozen BK200.out 1; have hfz8_2 := blk_frozen BK200.out 2) | ((with_reducible refine gate_dst (N := 18) rfl ?_); refine Kd.R_lit k57 _ 57 ?hg (N := 18) ?hd (xs := ([(⟨1, 63, wrap64 (a0_0 - 1)⟩ : S57), (⟨2, 42, 0⟩ : S57), (⟨3, 47, 0⟩ : S57)] : List (S57))) (inner := [.int .i64 1, .int .u8 63, .int .i64 (wrap64 (a0_0 - 1)), .int .i64 2, .int .u8 42, .int .i64 0, .int .i64 3, .int .u8 47, .int .i64 0]) (ok := fun _ => True) (okp := fun _ => True) ?hr ?hp (fun _ hk => hk) trivial (Below.refl _ _) (Nat.le_refl _) (by simp) ?_; (case hd => rfl); (case hg => rfl); (case hr => first | (go_simp; done) | (go_simp; rfl)); (case hp => exact (Reps.c3 (show Kd.M k57 _ _ _ (⟨1, 63, wrap64 (a0_0 - 1)⟩ : S57) [.int .i64 1, .int .u8 63, .int .i64 (wrap64 (a0_0 - 1))] from (k57_mkM _ _ _ (⟨1, 63, wrap64 (a0_0 - 1)⟩ : S57) )) (Reps.c3 (show Kd.M k57 _ _ _ (⟨2, 42, 0⟩ : S57) [.int .i64 2, .int .u8 42, .int .i64 0] from (k57_mkM _ _ _ (⟨2, 42, 0⟩ : S57) )) (Reps.c3 (show Kd.M k57 _ _ _ (⟨3, 47, 0⟩ : S57) [.int .i64 3, .int .u8 47, .int .i64 0] from (k57_mkM _ _ _ (⟨3, 47, 0⟩ : S57) )) (Reps.none _ _))))); intro v204 w9 ho10 hb hg_ hnew_; clear hg_ hnew_; (first | rw [← Ny203.out] at ho10 | (simp only [Int.reduceToNat] at ho10; rw [← Ny203.out] at ho10)); have n0_ := Aside0.mk (Kd.R_lower ho10 (below_size (by repeat (first | (with_reducible first | exact HB.out | apply below_alloc | apply pw_below_drewN | apply below_drew1 | refine below_set ?_ GE200.out | refine below_set ?_ GE201.out | refine below_set ?_ GE202.out) | exact HB.out)))); have n1_ := Aside0.mk (blk_below (g := gb200) (o := .cells #[.int .i64 a0_0, .int .i64 a0_1, .bool a0_2] 26 (0, 0)) (by (with_reducible repeat (first | refine blk_drewN ?_ _ | refine blk_drew ?_ | refine blk_alloc ?_ _)); exact BK200.out) hb); have n2_ := Aside0.mk (blk_below (g := gb201) (o := .cells #[.int .i64 a1_0, .int .i64 a1_1, .int .u8 a1_2, .slice A1_3 l1_3.length c1_3] 30 (0, 0)) (by (with_reducible repeat (first | refine blk_drewN ?_ _ | refine blk_drew ?_ | refine blk_alloc ?_ _)); exact BK201.out) hb); have n3_ := Aside0.mk (blk_below (g := gb202) (o := .cells #[.int .i64 0, .int .i64 0, .int .i64 0] 35 (0, 0)) (by (with_reducible repeat (first | refine blk_drewN ?_ _ | refine blk_drew ?_ | refine blk_alloc ?_ _)); exact BK202.out) hb); have n4_ := Aside0.mk (below_step (by repeat (first | (with_reducible first | exact HB.out | apply below_alloc | apply pw_below_drewN | apply below_drew1 | refine below_set ?_ GE200.out | refine below_set ?_ GE201.out | refine below_set ?_ GE202.out) | exact HB.out)) hb); clear BK200; clear BK201; clear BK202; clear HB; have HO205 := n0_; have BK200 := n1_; have BK201 := n2_; have BK202 := n3_; have HB := n4_; clear n0_ n1_ n2_ n3_ n4_; clear hb ho10; obtain ⟨Ao11, co11, eo11⟩ := Kd.R_slice HO205.out; subst eo11))
  go_loopg [20] k (fun kq v20 w' => ∃ (x20_1 : Int) (x203000_1 : Int) (x203001_1 : Int) (x203002_1 : Int), v20 = .int .i64 x20_1 ∧ Aside0 (plan_next.l0 kq y203 (y203.length : Int) x20_1 a0_0 a0_1 a0_2 a1_0 a1_1 a1_2 l1_3 = some (r1, r2, r3, r4)) ∧ Aside0 (kq ≤ k) ∧ Aside0 (Kd.R k57 57 w' w.heap.size (fun _ => True) (.slice Ao11 y203.length co11) y203) ∧ Aside0 (w'.heap[gb200]? = some (.cells #[.int .i64 a0_0, .int .i64 a0_1, .bool a0_2] 26 (0, 0))) ∧ Aside0 (w'.heap[gb201]? = some (.cells #[.int .i64 a1_0, .int .i64 a1_1, .int .u8 a1_2, (.slice A1_3 l1_3.length c1_3)] 30 (0, 0))) ∧ Aside0 (w'.heap[gb202]? = some (.cells #[.int .i64 x203000_1, .int .i64 x203001_1, .int .i64 x203002_1] 35 (0, 0))) ∧ Aside0 (Below w.heap.size w w'))
  case atStart => exact ⟨(0), (0), (0), (0), (by first | rfl | (simp; done) | (simp [*]; done)), H', ⟨Nat.le_refl _⟩, ⟨by (with_reducible repeat (first | apply Kd.R_alloc | apply Kd.R_drewN | apply Kd.R_drew)); exact HO205.out⟩, ⟨by (with_reducible repeat (first | refine blk_drewN ?_ _ | refine blk_drew ?_ | refine blk_alloc ?_ _)); exact BK200.out⟩, ⟨by (with_reducible repeat (first | refine blk_drewN ?_ _ | refine blk_drew ?_ | refine blk_alloc ?_ _)); exact BK201.out⟩, ⟨by (with_reducible repeat (first | refine blk_drewN ?_ _ | refine blk_drew ?_ | refine blk_alloc ?_ _)); exact BK202.out⟩, ⟨by repeat (first | (with_reducible first | exact HB.out | apply below_alloc | apply pw_below_drewN | apply below_drew1 | refine below_set ?_ GE200.out | refine below_set ?_ GE201.out | refine below_set ?_ GE202.out) | exact HB.out)⟩⟩
  case round =>
    clear H'
    try clear c1
    try clear p2
    try clear c3
    try clear c6
    try clear p6
    try clear c7
    try clear hcz8_0
    try clear hcz8_1
    try clear hcz8_2
    try clear hfz8_0
    try clear hfz8_1
    try clear hfz8_2
    obtain ⟨x20_1, x203000_1, x203001_1, x203002_1, rfl, HA, HK1, HO_18, BK200, BK201, BK202, HB⟩ := hrel
    cases gk with
    | zero => exact absurd HA.out (by simp [plan_next.l0])
    | succ k1 =>
      have H := HA.out
      clear HA
      simp only [plan_next.l0] at H
      by_cases c12 : x20_1 < (y203.length : Int)
      · rw [if_pos c12] at H
        have c12b0 : decide (x20_1 < (y203.length : Int)) = true := decide_eq_true c12
        clear c12
        by_cases c13 : 0 ≤ x20_1
        · rw [if_pos c13] at H
          have c13b0 : decide (0 ≤ x20_1) = true := decide_eq_true c13
          clear c13
          by_cases c14 : x20_1 < (y203.length : Int)
          · rw [if_pos c14] at H
            have c14b0 : decide (x20_1 < (y203.length : Int)) = true := decide_eq_true c14
            clear c14
            replace H := Option.bind_eq_some_iff.mp H
            obtain ⟨t212, A150, H⟩ := H
            replace H : ((plan_seek.f k1 a0_0 a0_1 a0_2 a1_0 a1_1 a1_2 l1_3 ((rd_T57 y203 x20_1).f1) t212).bind fun bt213 => (if bt213.2.2.2 = true then ((plan_cut.f a0_0 a0_1 a0_2 bt213.1 bt213.2.1 bt213.2.2.1 ((rd_T57 y203 x20_1).f2)).bind fun bt218 => (some ((rd_T57 y203 x20_1).f0, bt218.1, bt218.2, false))) else (plan_next.l0 k1 y203 (y203.length : Int) (wrap64 (x20_1 + 1)) a0_0 a0_1 a0_2 a1_0 a1_1 a1_2 l1_3))) = some (r1, r2, r3, r4) := H
            have A15 := Aside0.mk A150
            clear A150
            replace H := Option.bind_eq_some_iff.mp H
            obtain ⟨⟨t213, t214, t215, t216⟩, A160, H⟩ := H
            replace H : (if t216 = true then ((plan_cut.f a0_0 a0_1 a0_2 t213 t214 t215 ((rd_T57 y203 x20_1).f2)).bind fun bt218 => (some ((rd_T57 y203 x20_1).f0, bt218.1, bt218.2, false))) else (plan_next.l0 k1 y203 (y203.length : Int) (wrap64 (x20_1 + 1)) a0_0 a0_1 a0_2 a1_0 a1_1 a1_2 l1_3)) = some (r1, r2, r3, r4) := H
            have A16 := Aside0.mk A160
            clear A160
            by_cases c17 : t216 = true
            · subst c17
              have H1 : ((plan_cut.f a0_0 a0_1 a0_2 t213 t214 t215 ((rd_T57 y203 x20_1).f2)).bind fun bt218 => (some ((rd_T57 y203 x20_1).f0, bt218.1, bt218.2, false))) = some (r1, r2, r3, r4) := by rw [if_pos rfl] at H; exact H
              clear H
              have H := H1
              clear H1
              replace H := Option.bind_eq_some_iff.mp H
              obtain ⟨⟨t218, t219⟩, A180, H⟩ := H
              replace H : (some ((rd_T57 y203 x20_1).f0, t218, t219, false)) = some (r1, r2, r3, r4) := H
              have A18 := Aside0.mk A180
              clear A180
              simp only [Option.some.injEq, Prod.mk.injEq] at H
              obtain ⟨rfl, rfl, rfl, rfl⟩ := H
              have p210 : 0 ≤ (x20_1 : Int) := of_decide_eq_true (by first | (with_reducible assumption) | assumption)
              have q210 : x20_1 < (y203.length : Int) := of_decide_eq_true (by first | (with_reducible assumption) | assumption)
              obtain ⟨ad210, e210, hx210_0, hx210_1, hx210_2⟩ := at_T57 (Kd.R_reads' HO_18.out).2.2 x20_1 p210 q210
              cases e210
              replace p210 := eq_true p210
              replace q210 := eq_true q210
              try go_wp2_with (first | ((with_reducible refine gate_dst (N := 7) rfl ?_); refine box_event ?hg (N := 7) ?hd (cs := #[.int .i64 0, .int .u8 0, .int .i64 0]) (t := 57) ?hr ?_; (case hd => rfl); (case hg => rfl); (case hr => first | (go_simp; done) | (go_simp; rfl)); intro gb211 hg w19 hbox hb; have n0_ := Aside0.mk (Kd.R_below (Kd.R_elderB (by (with_reducible repeat (first | apply Kd.R_alloc | apply Kd.R_drewN | apply Kd.R_drew)); exact HO_18.out) gb211 (Nat.le_of_eq hg.symm)) hb); have n1_ := Aside0.mk (blk_below (g := gb200) (o := .cells #[.int .i64 a0_0, .int .i64 a0_1, .bool a0_2] 26 (0, 0)) (by (with_reducible repeat (first | refine blk_drewN ?_ _ | refine blk_drew ?_ | refine blk_alloc ?_ _)); exact BK200.out) hb); have n2_ := Aside0.mk (blk_below (g := gb201) (o := .cells #[.int .i64 a1_0, .int .i64 a1_1, .int .u8 a1_2, .slice A1_3 l1_3.length c1_3] 30 (0, 0)) (by (with_reducible repeat (first | refine blk_drewN ?_ _ | refine blk_drew ?_ | refine blk_alloc ?_ _)); exact BK201.out) hb); have n3_ := Aside0.mk (blk_below (g := gb202) (o := .cells #[.int .i64 x203000_1, .int .i64 x203001_1, .int .i64 x203002_1] 35 (0, 0)) (by (with_reducible repeat (first | refine blk_drewN ?_ _ | refine blk_drew ?_ | refine blk_alloc ?_ _)); exact BK202.out) hb); have n4_ := Aside0.mk (below_step (by repeat (first | (with_reducible first | exact HB.out | apply below_alloc | apply pw_below_drewN | apply below_drew1 | refine below_set ?_ GE200.out | refine below_set ?_ GE201.out | refine below_set ?_ GE202.out) | exact HB.out)) hb); have n5_ := Aside0.mk (hbox); have n6_ := Aside0.mk ((by rw [hg]; exact (below_size (by repeat (first | (with_reducible first | exact HB.out | apply below_alloc | apply pw_below_drewN | apply below_drew1 | refine below_set ?_ GE200.out | refine below_set ?_ GE201.out | refine below_set ?_ GE202.out) | exact HB.out))) : w.heap.size ≤ gb211)); have n7_ := Aside0.mk ((by rw [hg]; exact (below_size (by repeat (first | (with_reducible first | exact HB.out | apply below_alloc | apply pw_below_drewN | apply below_drew1 | refine below_set ?_ GE200.out | refine below_set ?_ GE201.out | refine below_set ?_ GE202.out) | exact HB.out))) : w.heap.size ≤ gb211)); have n8_ := Aside0.mk ((by rw [hg]; exact Nat.ne_of_lt (blk_lt (g := gb200) (o := .cells #[.int .i64 a0_0, .int .i64 a0_1, .bool a0_2] 26 (0, 0)) (by (with_reducible repeat (first | refine blk_drewN ?_ _ | refine blk_drew ?_ | refine blk_alloc ?_ _)); exact BK200.out)) : gb200 ≠ gb211)); have n9_ := Aside0.mk ((by rw [hg]; exact Nat.ne_of_gt (blk_lt (g := gb200) (o := .cells #[.int .i64 a0_0, .int .i64 a0_1, .bool a0_2] 26 (0, 0)) (by (with_reducible repeat (first | refine blk_drewN ?_ _ | refine blk_drew ?_ | refine blk_alloc ?_ _)); exact BK200.out)) : gb211 ≠ gb200)); have n10_ := Aside0.mk ((by rw [hg]; exact Nat.ne_of_lt (blk_lt (g := gb201) (o := .cells #[.int .i64 a1_0, .int .i64 a1_1, .int .u8 a1_2, .slice A1_3 l1_3.length c1_3] 30 (0, 0)) (by (with_reducible repeat (first | refine blk_drewN ?_ _ | refine blk_drew ?_ | refine blk_alloc ?_ _)); exact BK201.out)) : gb201 ≠ gb211)); have n11_ := Aside0.mk ((by rw [hg]; exact Nat.ne_of_gt (blk_lt (g := gb201) (o := .cells #[.int .i64 a1_0, .int .i64 a1_1, .int .u8 a1_2, .slice A1_3 l1_3.length c1_3] 30 (0, 0)) (by (with_reducible repeat (first | refine blk_drewN ?_ _ | refine blk_drew ?_ | refine blk_alloc ?_ _)); exact BK201.out)) : gb211 ≠ gb201)); have n12_ := Aside0.mk ((by rw [hg]; exact Nat.ne_of_lt (blk_lt (g := gb202) (o := .cells #[.int .i64 x203000_1, .int .i64 x203001_1, .int .i64 x203002_1] 35 (0, 0)) (by (with_reducible repeat (first | refine blk_drewN ?_ _ | refine blk_drew ?_ | refine blk_alloc ?_ _)); exact BK202.out)) : gb202 ≠ gb211)); have n13_ := Aside0.mk ((by rw [hg]; exact Nat.ne_of_gt (blk_lt (g := gb202) (o := .cells #[.int .i64 x203000_1, .int .i64 x203001_1, .int .i64 x203002_1] 35 (0, 0)) (by (with_reducible repeat (first | refine blk_drewN ?_ _ | refine blk_drew ?_ | refine blk_alloc ?_ _)); exact BK202.out)) : gb211 ≠ gb202)); clear HO_18; clear BK200; clear BK201; clear BK202; clear HB; have HO_18 := n0_; have BK200 := n1_; have BK201 := n2_; have BK202 := n3_; have HB := n4_; have BK211 := n5_; have GW211 := n6_; have GE211 := n7_; have NB200_211 := n8_; have NB211_200 := n9_; have NB201_211 := n10_; have NB211_201 := n11_; have NB202_211 := n12_; have NB211_202 := n13_; clear n0_ n1_ n2_ n3_ n4_ n5_ n6_ n7_ n8_ n9_ n10_ n11_ n12_ n13_; clear hb hbox hg; have hnb20 := NB211_200.out; have hnc20 := NB200_211.out; have hnb21 := NB211_201.out; have hnc21 := NB201_211.out; have hnb22 := NB211_202.out; have hnc22 := NB202_211.out; have hcz23_0 : w19.cell? ⟨gb211, 0, none⟩ = some (.int .i64 0) := (blk_cell BK211.out 0).trans rfl; have hcz23_1 : w19.cell? ⟨gb211, 1, none⟩ = some (.int .u8 0) := (blk_cell BK211.out 1).trans rfl; have hcz23_2 : w19.cell? ⟨gb211, 2, none⟩ = some (.int .i64 0) := (blk_cell BK211.out 2).trans rfl; have hfz23_0 := blk_frozen BK211.out 0; have hfz23_1 := blk_frozen BK211.out 1; have hfz23_2 := blk_frozen BK211.out 2))
              have n0_ : Aside0 (Kd.R k57 57 (((w19.setCell ⟨gb211, 0, none⟩ (.int .i64 ((rd_T57 y203 x20_1).f0))).setCell ⟨gb211, 1, none⟩ (.int .u8 ((rd_T57 y203 x20_1).f1))).setCell ⟨gb211, 2, none⟩ (.int .i64 ((rd_T57 y203 x20_1).f2))) w.heap.size (fun k_ => k_ ≠ gb211) (.slice (some ad210) y203.length co11) y203) := ⟨by (with_reducible repeat (first | apply Kd.R_alloc | apply Kd.R_drewN | apply Kd.R_drew)); exact Kd.R_mono (Kd.R_far (p := ⟨gb211, 2, none⟩) (Kd.R_far (p := ⟨gb211, 1, none⟩) (Kd.R_far (p := ⟨gb211, 0, none⟩) (Kd.R_mono HO_18.out (fun k_ hk => (⟨hk, hk.2⟩ : _ ∧ k_ ≠ gb211))) (fun _ hk => hk.2) (.int .i64 ((rd_T57 y203 x20_1).f0))) (fun _ hk => hk.2) (.int .u8 ((rd_T57 y203 x20_1).f1))) (fun _ hk => hk.2) (.int .i64 ((rd_T57 y203 x20_1).f2))) (fun _ hk => hk.1.2)⟩
              have n1_ : Aside0 ((((w19.setCell ⟨gb211, 0, none⟩ (.int .i64 ((rd_T57 y203 x20_1).f0))).setCell ⟨gb211, 1, none⟩ (.int .u8 ((rd_T57 y203 x20_1).f1))).setCell ⟨gb211, 2, none⟩ (.int .i64 ((rd_T57 y203 x20_1).f2))).heap[gb200]? = some (.cells #[.int .i64 a0_0, .int .i64 a0_1, .bool a0_2] 26 (0, 0))) := ⟨by (with_reducible repeat (first | refine blk_drewN ?_ _ | refine blk_drew ?_ | refine blk_alloc ?_ _)); refine blk_far ?_ NB200_211.out _; (with_reducible repeat (first | refine blk_drewN ?_ _ | refine blk_drew ?_ | refine blk_alloc ?_ _)); refine blk_far ?_ NB200_211.out _; (with_reducible repeat (first | refine blk_drewN ?_ _ | refine blk_drew ?_ | refine blk_alloc ?_ _)); refine blk_far ?_ NB200_211.out _; (with_reducible repeat (first | refine blk_drewN ?_ _ | refine blk_drew ?_ | refine blk_alloc ?_ _)); exact BK200.out⟩
              have n2_ : Aside0 ((((w19.setCell ⟨gb211, 0, none⟩ (.int .i64 ((rd_T57 y203 x20_1).f0))).setCell ⟨gb211, 1, none⟩ (.int .u8 ((rd_T57 y203 x20_1).f1))).setCell ⟨gb211, 2, none⟩ (.int .i64 ((rd_T57 y203 x20_1).f2))).heap[gb201]? = some (.cells #[.int .i64 a1_0, .int .i64 a1_1, .int .u8 a1_2, .slice A1_3 l1_3.length c1_3] 30 (0, 0))) := ⟨by (with_reducible repeat (first | refine blk_drewN ?_ _ | refine blk_drew ?_ | refine blk_alloc ?_ _)); refine blk_far ?_ NB201_211.out _; (with_reducible repeat (first | refine blk_drewN ?_ _ | refine blk_drew ?_ | refine blk_alloc ?_ _)); refine blk_far ?_ NB201_211.out _; (with_reducible repeat (first | refine blk_drewN ?_ _ | refine blk_drew ?_ | refine blk_alloc ?_ _)); refine blk_far ?_ NB201_211.out _; (with_reducible repeat (first | refine blk_drewN ?_ _ | refine blk_drew ?_ | refine blk_alloc ?_ _)); exact BK201.out⟩
              have n3_ : Aside0 ((((w19.setCell ⟨gb211, 0, none⟩ (.int .i64 ((rd_T57 y203 x20_1).f0))).setCell ⟨gb211, 1, none⟩ (.int .u8 ((rd_T57 y203 x20_1).f1))).setCell ⟨gb211, 2, none⟩ (.int .i64 ((rd_T57 y203 x20_1).f2))).heap[gb202]? = some (.cells #[.int .i64 x203000_1, .int .i64 x203001_1, .int .i64 x203002_1] 35 (0, 0))) := ⟨by (with_reducible repeat (first | refine blk_drewN ?_ _ | refine blk_drew ?_ | refine blk_alloc ?_ _)); refine blk_far ?_ NB202_211.out _; (with_reducible repeat (first | refine blk_drewN ?_ _ | refine blk_drew ?_ | refine blk_alloc ?_ _)); refine blk_far ?_ NB202_211.out _; (with_reducible repeat (first | refine blk_drewN ?_ _ | refine blk_drew ?_ | refine blk_alloc ?_ _)); refine blk_far ?_ NB202_211.out _; (with_reducible repeat (first | refine blk_drewN ?_ _ | refine blk_drew ?_ | refine blk_alloc ?_ _)); exact BK202.out⟩
              have n4_ : Aside0 ((((w19.setCell ⟨gb211, 0, none⟩ (.int .i64 ((rd_T57 y203 x20_1).f0))).setCell ⟨gb211, 1, none⟩ (.int .u8 ((rd_T57 y203 x20_1).f1))).setCell ⟨gb211, 2, none⟩ (.int .i64 ((rd_T57 y203 x20_1).f2))).heap[gb211]? = some (.cells #[.int .i64 ((rd_T57 y203 x20_1).f0), .int .u8 ((rd_T57 y203 x20_1).f1), .int .i64 ((rd_T57 y203 x20_1).f2)] 57 (0, 0))) := ⟨by (with_reducible repeat (first | refine blk_drewN ?_ _ | refine blk_drew ?_ | refine blk_alloc ?_ _)); refine blk_put (cs := #[.int .i64 ((rd_T57 y203 x20_1).f0), .int .u8 ((rd_T57 y203 x20_1).f1), .int .i64 0]) ?_ 2 _ rfl; (with_reducible repeat (first | refine blk_drewN ?_ _ | refine blk_drew ?_ | refine blk_alloc ?_ _)); refine blk_put (cs := #[.int .i64 ((rd_T57 y203 x20_1).f0), .int .u8 0, .int .i64 0]) ?_ 1 _ rfl; (with_reducible repeat (first | refine blk_drewN ?_ _ | refine blk_drew ?_ | refine blk_alloc ?_ _)); refine blk_put (cs := #[.int .i64 0, .int .u8 0, .int .i64 0]) ?_ 0 _ rfl; (with_reducible repeat (first | refine blk_drewN ?_ _ | refine blk_drew ?_ | refine blk_alloc ?_ _)); exact BK211.out⟩
              have n5_ : Aside0 (Below w.heap.size w (((w19.setCell ⟨gb211, 0, none⟩ (.int .i64 ((rd_T57 y203 x20_1).f0))).setCell ⟨gb211, 1, none⟩ (.int .u8 ((rd_T57 y203 x20_1).f1))).setCell ⟨gb211, 2, none⟩ (.int .i64 ((rd_T57 y203 x20_1).f2)))) := ⟨by repeat (first | (with_reducible first | exact HB.out | apply below_alloc | apply pw_below_drewN | apply below_drew1 | refine below_set ?_ GE200.out | refine below_set ?_ GE201.out | refine below_set ?_ GE202.out | refine below_set ?_ GE211.out) | exact HB.out)⟩
              (try clear HO_18)
              (try clear BK200)
              (try clear BK201)
              (try clear BK202)
              (try clear BK211)
              (try clear HB)
              generalize (((w19.setCell ⟨gb211, 0, none⟩ (.int .i64 ((rd_T57 y203 x20_1).f0))).setCell ⟨gb211, 1, none⟩ (.int .u8 ((rd_T57 y203 x20_1).f1))).setCell ⟨gb211, 2, none⟩ (.int .i64 ((rd_T57 y203 x20_1).f2))) = w24 at n0_ n1_ n2_ n3_ n4_ n5_ ⊢
              have HO_18 := n0_
              have BK200 := n1_
              have BK201 := n2_
              have BK202 := n3_
              have BK211 := n4_
              have HB := n5_
              clear n0_ n1_ n2_ n3_ n4_ n5_
              have n0_ := Aside0.mk (Kd.R_drew HO_18.out)
              have n1_ := Aside0.mk (blk_drew BK200.out)
              have n2_ := Aside0.mk (blk_drew BK201.out)
              have n3_ := Aside0.mk (blk_drew BK202.out)
              have n4_ := Aside0.mk (blk_drew BK211.out)
              have n5_ := Aside0.mk (below_drew1 HB.out)
              clear HO_18
              clear BK200
              clear BK201
              clear BK202
              clear BK211
              clear HB
              have HO_18 := n0_
              have BK200 := n1_
              have BK201 := n2_
              have BK202 := n3_
              have BK211 := n4_
              have HB := n5_
              clear n0_ n1_ n2_ n3_ n4_ n5_
              refine start_ (n := 14) (S := fun w' => w'.cell? ⟨gb200, 0, none⟩ = some (.int .i64 a0_0) ∧ w'.cell? ⟨gb200, 1, none⟩ = some (.int .i64 a0_1) ∧ w'.cell? ⟨gb200, 2, none⟩ = some (.bool a0_2) ∧ w'.cell? ⟨gb201, 0, none⟩ = some (.int .i64 a1_0) ∧ w'.cell? ⟨gb201, 1, none⟩ = some (.int .i64 a1_1) ∧ w'.cell? ⟨gb201, 2, none⟩ = some (.int .u8 a1_2) ∧ w'.cell? ⟨gb201, 3, none⟩ = some (.slice A1_3 l1_3.length c1_3) ∧ w'.cell? ⟨gb211, 0, none⟩ = some (.int .i64 ((rd_T57 y203 x20_1).f0)) ∧ w'.cell? ⟨gb211, 1, none⟩ = some (.int .u8 ((rd_T57 y203 x20_1).f1)) ∧ w'.cell? ⟨gb211, 2, none⟩ = some (.int .i64 ((rd_T57 y203 x20_1).f2))) (ds := []) #[false, false, false, false, false, false, false, false, false, false, false, false, false, false] (by kernel_rfl) rfl rfl ⟨(blk_cell BK200.out 0).trans rfl, (blk_cell BK200.out 1).trans rfl, (blk_cell BK200.out 2).trans rfl, (blk_cell BK201.out 0).trans rfl, (blk_cell BK201.out 1).trans rfl, (blk_cell BK201.out 2).trans rfl, (blk_cell BK201.out 3).trans rfl, (blk_cell BK211.out 0).trans rfl, (blk_cell BK211.out 1).trans rfl, (blk_cell BK211.out 2).trans rfl⟩ (fun hHeld => ?_); refine with_tabW plan_next.tab4 plan_next.bits4 (fun HT_ HW_ => ?_)
              generalize w24.drew = w25 at HO_18 BK200 BK201 BK202 BK211 HB hHeld ⊢
              refine pure_ (i := 2) (N := some 27) (v := ?_) (a' := ?_) #[false, false, true, false, false, false, false, false, false, false, false, false, false, false] rfl rfl (any_of HT_.out (by kernel_rfl)) (fun _ _ _ h => h) (Or.inl ⟨by rfl, ?_⟩) ?_ ?_
              rotate_left
              · intro w'
                go_simp
                with_reducible rfl
              rotate_left
              · simp only [Act.put, List.setIfInBounds_toArray, List.set_cons_zero, List.set_cons_succ, i64_w, i32_w]
                rfl
              refine take_ (i := 0) (N := some 25) (v := ?_) (a' := ?_) #[true, false, true, false, false, false, false, false, false, false, false, false, false, false] rfl rfl (take_ofW HT_.out HW_.out (by kernel_rfl)) (fun _ _ _ h => h) (Or.inl ⟨by rfl, ?_⟩) hHeld ?_ ?_
              rotate_left
              · rintro w' ⟨s0, s1, s2, s3, s4, s5, s6, s7, s8, s9⟩
                go_simp
                with_reducible rfl
              rotate_left
              · simp only [Act.put, List.setIfInBounds_toArray, List.set_cons_zero, List.set_cons_succ, i64_w, i32_w]
                rfl
              refine take_ (i := 1) (N := some 26) (v := ?_) (a' := ?_) #[true, true, true, false, false, false, false, false, false, false, false, false, false, false] rfl rfl (take_ofW HT_.out HW_.out (by kernel_rfl)) (fun _ _ _ h => h) (Or.inl ⟨by rfl, ?_⟩) hHeld ?_ ?_
              rotate_left
              · rintro w' ⟨s0, s1, s2, s3, s4, s5, s6, s7, s8, s9⟩
                go_simp
                with_reducible rfl
              rotate_left
              · simp only [Act.put, List.setIfInBounds_toArray, List.set_cons_zero, List.set_cons_succ, i64_w, i32_w]
                rfl
              refine take_ (i := 3) (N := some 28) (v := ?_) (a' := ?_) #[true, true, true, true, false, false, false, false, false, false, false, false, false, false] rfl rfl (take_ofW HT_.out HW_.out (by kernel_rfl)) (fun _ _ _ h => h) (Or.inl ⟨by rfl, ?_⟩) hHeld ?_ ?_
              rotate_left
              · rintro w' ⟨s0, s1, s2, s3, s4, s5, s6, s7, s8, s9⟩
                go_simp
                with_reducible rfl
              rotate_left
              · simp only [Act.put, List.setIfInBounds_toArray, List.set_cons_zero, List.set_cons_succ, i64_w, i32_w]
                rfl
              refine take_ (i := 4) (N := some 29) (v := ?_) (a' := ?_) #[true, true, true, true, true, false, false, false, false, false, false, false, false, false] rfl rfl (take_ofW HT_.out HW_.out (by kernel_rfl)) (fun _ _ _ h => h) (Or.inl ⟨by rfl, ?_⟩) hHeld ?_ ?_
              rotate_left
              · rintro w' ⟨s0, s1, s2, s3, s4, s5, s6, s7, s8, s9⟩
                go_simp
                with_reducible rfl
              rotate_left
              · simp only [Act.put, List.setIfInBounds_toArray, List.set_cons_zero, List.set_cons_succ, i64_w, i32_w]
                rfl
              refine take_ (i := 5) (N := some 30) (v := ?_) (a' := ?_) #[true, true, true, true, true, true, false, false, false, false, false, false, false, false] rfl rfl (take_ofW HT_.out HW_.out (by kernel_rfl)) (fun _ _ _ h => h) (Or.inl ⟨by rfl, ?_⟩) hHeld ?_ ?_
              rotate_left
              · rintro w' ⟨s0, s1, s2, s3, s4, s5, s6, s7, s8, s9⟩
                go_simp
                with_reducible rfl
              rotate_left
              · simp only [Act.put, List.setIfInBounds_toArray, List.set_cons_zero, List.set_cons_succ, i64_w, i32_w]
                rfl
              refine join_ (σ := Nat) 2 #[true, true, true, true, true, true, true, true, true, true, true, true, false, false] (fun s_ => [(31, .int .i64 t212), (32, .tuple #[.agg #[.int .i64 t213, .int .i64 t214, .int .u8 t215], .bool true]), (8, .pointer (some ⟨s_, 0, none⟩)), (24, .tuple #[.agg #[.int .i64 t213, .int .i64 t214, .int .u8 t215], .bool true]), (33, .agg #[.int .i64 t213, .int .i64 t214, .int .u8 t215]), (34, .bool true)]) (fun s_ w' => (w'.cell? ⟨gb200, 0, none⟩ = some (.int .i64 a0_0) ∧ w'.cell? ⟨gb200, 1, none⟩ = some (.int .i64 a0_1) ∧ w'.cell? ⟨gb200, 2, none⟩ = some (.bool a0_2) ∧ w'.cell? ⟨gb201, 0, none⟩ = some (.int .i64 a1_0) ∧ w'.cell? ⟨gb201, 1, none⟩ = some (.int .i64 a1_1) ∧ w'.cell? ⟨gb201, 2, none⟩ = some (.int .u8 a1_2) ∧ w'.cell? ⟨gb201, 3, none⟩ = some (.slice A1_3 l1_3.length c1_3) ∧ w'.cell? ⟨gb211, 0, none⟩ = some (.int .i64 ((rd_T57 y203 x20_1).f0)) ∧ w'.cell? ⟨gb211, 1, none⟩ = some (.int .u8 ((rd_T57 y203 x20_1).f1)) ∧ w'.cell? ⟨gb211, 2, none⟩ = some (.int .i64 ((rd_T57 y203 x20_1).f2))) ∧ (Kd.R k57 57 w' w.heap.size (fun k_ => k_ ≠ gb211) (.slice (some ad210) y203.length co11) y203) ∧ (w'.heap[gb200]? = some (.cells #[.int .i64 a0_0, .int .i64 a0_1, .bool a0_2] 26 (0, 0))) ∧ (w'.heap[gb201]? = some (.cells #[.int .i64 a1_0, .int .i64 a1_1, .int .u8 a1_2, .slice A1_3 l1_3.length c1_3] 30 (0, 0))) ∧ (w'.heap[gb202]? = some (.cells #[.int .i64 x203000_1, .int .i64 x203001_1, .int .i64 x203002_1] 35 (0, 0))) ∧ (w'.heap[gb211]? = some (.cells #[.int .i64 ((rd_T57 y203 x20_1).f0), .int .u8 ((rd_T57 y203 x20_1).f1), .int .i64 ((rd_T57 y203 x20_1).f2)] 57 (0, 0))) ∧ (w'.heap[s_]? = some (.cells #[.int .i64 0, .int .i64 0, .int .u8 0] 56 (0, 0))) ∧ (w.heap.size ≤ s_) ∧ (w.heap.size ≤ s_) ∧ (gb200 ≠ s_) ∧ (s_ ≠ gb200) ∧ (gb201 ≠ s_) ∧ (s_ ≠ gb201) ∧ (gb202 ≠ s_) ∧ (s_ ≠ gb202) ∧ (gb211 ≠ s_) ∧ (s_ ≠ gb211) ∧ (Below w.heap.size w w')) ?_ ?_
              rotate_left
              · intro hCont
                refine two_ (i := 6) (j := 11) (Ni := some 31) (Nj := some 8) #[true, true, true, true, true, true, true, false, false, false, false, false, false, false] #[true, true, true, true, true, true, false, false, false, false, false, true, false, false] rfl rfl rfl rfl (two_of HT_.out (by kernel_rfl)) (by decide) (by decide) (fun K hK => ?_) (fun K hK => ?_)
                · skip
                  refine goes_ Try.func27 (by kernel_rfl) rfl #[.agg #[.int .i64 a0_0, .int .i64 a0_1, .bool a0_2], .agg #[.int .i64 a1_0, .int .i64 a1_1, .int .u8 a1_2, .slice A1_3 l1_3.length c1_3]] (by rfl) rfl rfl (by (try simp only [List.map_toArray, List.map_cons, List.map_nil]); first | done | rfl | (simp only [List.length_drop, List.length_take]; rfl)) ?_
                  with_reducible refine (plan_edge.calls a0_0 a0_1 a0_2 a1_0 a1_1 a1_2 _ _ l1_3 t212 _ ?side1 ?side2 A15.out).mono ?_
                  (case side1 => repeat (first | exact (Kd.C_below HR1_3.out HB.out) | (with_reducible refine Kd.C_alloc ?_ _) | (with_reducible refine Kd.C_drewN ?_ _) | (with_reducible refine Kd.C_drew ?_)))
                  (case side2 => exact HC1_3.out)
                  rintro e w26 ⟨rfl, hb⟩
                  refine ⟨_, rfl, ?_⟩
                  have n0_ := Aside0.mk (Kd.R_below (by (with_reducible repeat (first | apply Kd.R_alloc | apply Kd.R_drewN | apply Kd.R_drew)); exact HO_18.out) hb)
                  have n1_ := Aside0.mk (blk_below (g := gb200) (o := .cells #[.int .i64 a0_0, .int .i64 a0_1, .bool a0_2] 26 (0, 0)) (by (with_reducible repeat (first | refine blk_drewN ?_ _ | refine blk_drew ?_ | refine blk_alloc ?_ _)); exact BK200.out) hb)
                  have n2_ := Aside0.mk (blk_below (g := gb201) (o := .cells #[.int .i64 a1_0, .int .i64 a1_1, .int .u8 a1_2, .slice A1_3 l1_3.length c1_3] 30 (0, 0)) (by (with_reducible repeat (first | refine blk_drewN ?_ _ | refine blk_drew ?_ | refine blk_alloc ?_ _)); exact BK201.out) hb)
                  have n3_ := Aside0.mk (blk_below (g := gb202) (o := .cells #[.int .i64 x203000_1, .int .i64 x203001_1, .int .i64 x203002_1] 35 (0, 0)) (by (with_reducible repeat (first | refine blk_drewN ?_ _ | refine blk_drew ?_ | refine blk_alloc ?_ _)); exact BK202.out) hb)
                  have n4_ := Aside0.mk (blk_below (g := gb211) (o := .cells #[.int .i64 ((rd_T57 y203 x20_1).f0), .int .u8 ((rd_T57 y203 x20_1).f1), .int .i64 ((rd_T57 y203 x20_1).f2)] 57 (0, 0)) (by (with_reducible repeat (first | refine blk_drewN ?_ _ | refine blk_drew ?_ | refine blk_alloc ?_ _)); exact BK211.out) hb)
                  have n5_ := Aside0.mk (below_step (by repeat (first | (with_reducible first | exact HB.out | apply below_alloc | apply pw_below_drewN | apply below_drew1 | refine below_set ?_ GE200.out | refine below_set ?_ GE201.out | refine below_set ?_ GE202.out | refine below_set ?_ GE211.out) | exact HB.out)) hb)
                  clear HO_18
                  clear BK200
                  clear BK201
                  clear BK202
                  clear BK211
                  clear HB
                  have HO_18 := n0_
                  have BK200 := n1_
                  have BK201 := n2_
                  have BK202 := n3_
                  have BK211 := n4_
                  have HB := n5_
                  clear n0_ n1_ n2_ n3_ n4_ n5_
                  (try clear hb)
                  (try clear hb2)
                  (try clear hk)
                  (try clear hi)
                  refine hK.out _ _ ⟨(blk_cell BK200.out 0).trans rfl, (blk_cell BK200.out 1).trans rfl, (blk_cell BK200.out 2).trans rfl, (blk_cell BK201.out 0).trans rfl, (blk_cell BK201.out 1).trans rfl, (blk_cell BK201.out 2).trans rfl, (blk_cell BK201.out 3).trans rfl, (blk_cell BK211.out 0).trans rfl, (blk_cell BK211.out 1).trans rfl, (blk_cell BK211.out 2).trans rfl⟩ (fun hHeld => ?_)
                  clear hK K
                  refine norm_ (a' := ?_) ?_ ?_
                  rotate_left
                  · show Act.put _ (some 31) _ = _
                    simp only [Act.put, List.setIfInBounds_toArray, List.set_cons_zero, List.set_cons_succ, i64_w, i32_w]
                    rfl
                  refine two_ (i := 7) (j := 11) (Ni := some 32) (Nj := some 8) #[true, true, true, true, true, true, true, true, false, false, false, false, false, false] #[true, true, true, true, true, true, true, false, false, false, false, true, false, false] rfl rfl rfl rfl (two_of HT_.out (by kernel_rfl)) (by decide) (by decide) (fun K hK => ?_) (fun K hK => ?_)
                  · skip
                    refine goes_ Try.func26 (by kernel_rfl) rfl #[.agg #[.int .i64 a0_0, .int .i64 a0_1, .bool a0_2], .agg #[.int .i64 a1_0, .int .i64 a1_1, .int .u8 a1_2, .slice A1_3 l1_3.length c1_3], .int .u8 ((rd_T57 y203 x20_1).f1), .int .i64 t212] (by rfl) rfl rfl (by (try simp only [List.map_toArray, List.map_cons, List.map_nil]); first | done | rfl | (simp only [List.length_drop, List.length_take]; rfl)) ?_
                    with_reducible refine (plan_seek.calls k1 a0_0 a0_1 a0_2 a1_0 a1_1 a1_2 _ _ l1_3 ((rd_T57 y203 x20_1).f1) t212 t213 t214 t215 true _ ?side1 ?side2 A16.out).mono ?_
                    (case side1 => repeat (first | exact (Kd.C_below HR1_3.out HB.out) | (with_reducible refine Kd.C_alloc ?_ _) | (with_reducible refine Kd.C_drewN ?_ _) | (with_reducible refine Kd.C_drew ?_)))
                    (case side2 => exact HC1_3.out)
                    rintro e w27 ⟨rfl, hb⟩
                    refine ⟨_, rfl, ?_⟩
                    have n0_ := Aside0.mk (Kd.R_below (by (with_reducible repeat (first | apply Kd.R_alloc | apply Kd.R_drewN | apply Kd.R_drew)); exact HO_18.out) hb)
                    have n1_ := Aside0.mk (blk_below (g := gb200) (o := .cells #[.int .i64 a0_0, .int .i64 a0_1, .bool a0_2] 26 (0, 0)) (by (with_reducible repeat (first | refine blk_drewN ?_ _ | refine blk_drew ?_ | refine blk_alloc ?_ _)); exact BK200.out) hb)
                    have n2_ := Aside0.mk (blk_below (g := gb201) (o := .cells #[.int .i64 a1_0, .int .i64 a1_1, .int .u8 a1_2, .slice A1_3 l1_3.length c1_3] 30 (0, 0)) (by (with_reducible repeat (first | refine blk_drewN ?_ _ | refine blk_drew ?_ | refine blk_alloc ?_ _)); exact BK201.out) hb)
                    have n3_ := Aside0.mk (blk_below (g := gb202) (o := .cells #[.int .i64 x203000_1, .int .i64 x203001_1, .int .i64 x203002_1] 35 (0, 0)) (by (with_reducible repeat (first | refine blk_drewN ?_ _ | refine blk_drew ?_ | refine blk_alloc ?_ _)); exact BK202.out) hb)
                    have n4_ := Aside0.mk (blk_below (g := gb211) (o := .cells #[.int .i64 ((rd_T57 y203 x20_1).f0), .int .u8 ((rd_T57 y203 x20_1).f1), .int .i64 ((rd_T57 y203 x20_1).f2)] 57 (0, 0)) (by (with_reducible repeat (first | refine blk_drewN ?_ _ | refine blk_drew ?_ | refine blk_alloc ?_ _)); exact BK211.out) hb)
                    have n5_ := Aside0.mk (below_step (by repeat (first | (with_reducible first | exact HB.out | apply below_alloc | apply pw_below_drewN | apply below_drew1 | refine below_set ?_ GE200.out | refine below_set ?_ GE201.out | refine below_set ?_ GE202.out | refine below_set ?_ GE211.out) | exact HB.out)) hb)
                    clear HO_18
                    clear BK200
                    clear BK201
                    clear BK202
                    clear BK211
                    clear HB
                    have HO_18 := n0_
                    have BK200 := n1_
                    have BK201 := n2_
                    have BK202 := n3_
                    have BK211 := n4_
                    have HB := n5_
                    clear n0_ n1_ n2_ n3_ n4_ n5_
                    (try clear hb)
                    (try clear hb2)
                    (try clear hk)
                    (try clear hi)
                    refine hK.out _ _ ⟨(blk_cell BK200.out 0).trans rfl, (blk_cell BK200.out 1).trans rfl, (blk_cell BK200.out 2).trans rfl, (blk_cell BK201.out 0).trans rfl, (blk_cell BK201.out 1).trans rfl, (blk_cell BK201.out 2).trans rfl, (blk_cell BK201.out 3).trans rfl, (blk_cell BK211.out 0).trans rfl, (blk_cell BK211.out 1).trans rfl, (blk_cell BK211.out 2).trans rfl⟩ (fun hHeld => ?_)
                    clear hK K
                    refine norm_ (a' := ?_) ?_ ?_
                    rotate_left
                    · show Act.put _ (some 32) _ = _
                      simp only [Act.put, List.setIfInBounds_toArray, List.set_cons_zero, List.set_cons_succ, i64_w, i32_w]
                      rfl
                    refine pure_ (i := 8) (N := some 24) (v := ?_) (a' := ?_) #[true, true, true, true, true, true, true, true, true, false, false, false, false, false] rfl rfl (any_of HT_.out (by kernel_rfl)) (fun _ _ _ h => h) (Or.inl ⟨by rfl, ?_⟩) ?_ ?_
                    rotate_left
                    · intro w'
                      go_simp
                      with_reducible rfl
                    rotate_left
                    · simp only [Act.put, List.setIfInBounds_toArray, List.set_cons_zero, List.set_cons_succ, i64_w, i32_w]
                      rfl
                    refine pure_ (i := 9) (N := some 33) (v := ?_) (a' := ?_) #[true, true, true, true, true, true, true, true, true, true, false, false, false, false] rfl rfl (any_of HT_.out (by kernel_rfl)) (fun _ _ _ h => h) (Or.inl ⟨by rfl, ?_⟩) ?_ ?_
                    rotate_left
                    · intro w'
                      go_simp
                      with_reducible rfl
                    rotate_left
                    · simp only [Act.put, List.setIfInBounds_toArray, List.set_cons_zero, List.set_cons_succ, i64_w, i32_w]
                      rfl
                    refine pure_ (i := 10) (N := some 34) (v := ?_) (a' := ?_) #[true, true, true, true, true, true, true, true, true, true, true, false, false, false] rfl rfl (any_of HT_.out (by kernel_rfl)) (fun _ _ _ h => h) (Or.inl ⟨by rfl, ?_⟩) ?_ ?_
                    rotate_left
                    · intro w'
                      go_simp
                      with_reducible rfl
                    rotate_left
                    · simp only [Act.put, List.setIfInBounds_toArray, List.set_cons_zero, List.set_cons_succ, i64_w, i32_w]
                      rfl
                    refine one_ (i := 11) (N := some 8) #[true, true, true, true, true, true, true, true, true, true, true, true, false, false] rfl rfl (one_of HT_.out (by kernel_rfl)) (by decide) (fun K hK => ?_)
                    refine box_step ?hg (N := 8) ?hd (cs := #[.int .i64 0, .int .i64 0, .int .u8 0]) (t := 56) ?hr ?_; (case hd => rfl); (case hg => rfl); (case hr => first | (go_simp; done) | (go_simp; rfl))
                    intro gb217 hg w28 hbox hb
                    have n0_ := Aside0.mk (Kd.R_below (by (with_reducible repeat (first | apply Kd.R_alloc | apply Kd.R_drewN | apply Kd.R_drew)); exact HO_18.out) hb)
                    have n1_ := Aside0.mk (blk_below (g := gb200) (o := .cells #[.int .i64 a0_0, .int .i64 a0_1, .bool a0_2] 26 (0, 0)) (by (with_reducible repeat (first | refine blk_drewN ?_ _ | refine blk_drew ?_ | refine blk_alloc ?_ _)); exact BK200.out) hb)
                    have n2_ := Aside0.mk (blk_below (g := gb201) (o := .cells #[.int .i64 a1_0, .int .i64 a1_1, .int .u8 a1_2, .slice A1_3 l1_3.length c1_3] 30 (0, 0)) (by (with_reducible repeat (first | refine blk_drewN ?_ _ | refine blk_drew ?_ | refine blk_alloc ?_ _)); exact BK201.out) hb)
                    have n3_ := Aside0.mk (blk_below (g := gb202) (o := .cells #[.int .i64 x203000_1, .int .i64 x203001_1, .int .i64 x203002_1] 35 (0, 0)) (by (with_reducible repeat (first | refine blk_drewN ?_ _ | refine blk_drew ?_ | refine blk_alloc ?_ _)); exact BK202.out) hb)
                    have n4_ := Aside0.mk (blk_below (g := gb211) (o := .cells #[.int .i64 ((rd_T57 y203 x20_1).f0), .int .u8 ((rd_T57 y203 x20_1).f1), .int .i64 ((rd_T57 y203 x20_1).f2)] 57 (0, 0)) (by (with_reducible repeat (first | refine blk_drewN ?_ _ | refine blk_drew ?_ | refine blk_alloc ?_ _)); exact BK211.out) hb)
                    have n5_ := Aside0.mk (below_step (by repeat (first | (with_reducible first | exact HB.out | apply below_alloc | apply pw_below_drewN | apply below_drew1 | refine below_set ?_ GE200.out | refine below_set ?_ GE201.out | refine below_set ?_ GE202.out | refine below_set ?_ GE211.out) | exact HB.out)) hb)
                    have n6_ := Aside0.mk (hbox)
                    have n7_ := Aside0.mk ((by rw [hg]; exact (below_size (by repeat (first | (with_reducible first | exact HB.out | apply below_alloc | apply pw_below_drewN | apply below_drew1 | refine below_set ?_ GE200.out | refine below_set ?_ GE201.out | refine below_set ?_ GE202.out | refine below_set ?_ GE211.out) | exact HB.out))) : w.heap.size ≤ gb217))
                    have n8_ := Aside0.mk ((by rw [hg]; exact (below_size (by repeat (first | (with_reducible first | exact HB.out | apply below_alloc | apply pw_below_drewN | apply below_drew1 | refine below_set ?_ GE200.out | refine below_set ?_ GE201.out | refine below_set ?_ GE202.out | refine below_set ?_ GE211.out) | exact HB.out))) : w.heap.size ≤ gb217))
                    have n9_ := Aside0.mk ((by rw [hg]; exact Nat.ne_of_lt (blk_lt (g := gb200) (o := .cells #[.int .i64 a0_0, .int .i64 a0_1, .bool a0_2] 26 (0, 0)) (by (with_reducible repeat (first | refine blk_drewN ?_ _ | refine blk_drew ?_ | refine blk_alloc ?_ _)); exact BK200.out)) : gb200 ≠ gb217))
                    have n10_ := Aside0.mk ((by rw [hg]; exact Nat.ne_of_gt (blk_lt (g := gb200) (o := .cells #[.int .i64 a0_0, .int .i64 a0_1, .bool a0_2] 26 (0, 0)) (by (with_reducible repeat (first | refine blk_drewN ?_ _ | refine blk_drew ?_ | refine blk_alloc ?_ _)); exact BK200.out)) : gb217 ≠ gb200))
                    have n11_ := Aside0.mk ((by rw [hg]; exact Nat.ne_of_lt (blk_lt (g := gb201) (o := .cells #[.int .i64 a1_0, .int .i64 a1_1, .int .u8 a1_2, .slice A1_3 l1_3.length c1_3] 30 (0, 0)) (by (with_reducible repeat (first | refine blk_drewN ?_ _ | refine blk_drew ?_ | refine blk_alloc ?_ _)); exact BK201.out)) : gb201 ≠ gb217))
                    have n12_ := Aside0.mk ((by rw [hg]; exact Nat.ne_of_gt (blk_lt (g := gb201) (o := .cells #[.int .i64 a1_0, .int .i64 a1_1, .int .u8 a1_2, .slice A1_3 l1_3.length c1_3] 30 (0, 0)) (by (with_reducible repeat (first | refine blk_drewN ?_ _ | refine blk_drew ?_ | refine blk_alloc ?_ _)); exact BK201.out)) : gb217 ≠ gb201))
                    have n13_ := Aside0.mk ((by rw [hg]; exact Nat.ne_of_lt (blk_lt (g := gb202) (o := .cells #[.int .i64 x203000_1, .int .i64 x203001_1, .int .i64 x203002_1] 35 (0, 0)) (by (with_reducible repeat (first | refine blk_drewN ?_ _ | refine blk_drew ?_ | refine blk_alloc ?_ _)); exact BK202.out)) : gb202 ≠ gb217))
                    have n14_ := Aside0.mk ((by rw [hg]; exact Nat.ne_of_gt (blk_lt (g := gb202) (o := .cells #[.int .i64 x203000_1, .int .i64 x203001_1, .int .i64 x203002_1] 35 (0, 0)) (by (with_reducible repeat (first | refine blk_drewN ?_ _ | refine blk_drew ?_ | refine blk_alloc ?_ _)); exact BK202.out)) : gb217 ≠ gb202))
                    have n15_ := Aside0.mk ((by rw [hg]; exact Nat.ne_of_lt (blk_lt (g := gb211) (o := .cells #[.int .i64 ((rd_T57 y203 x20_1).f0), .int .u8 ((rd_T57 y203 x20_1).f1), .int .i64 ((rd_T57 y203 x20_1).f2)] 57 (0, 0)) (by (with_reducible repeat (first | refine blk_drewN ?_ _ | refine blk_drew ?_ | refine blk_alloc ?_ _)); exact BK211.out)) : gb211 ≠ gb217))
                    have n16_ := Aside0.mk ((by rw [hg]; exact Nat.ne_of_gt (blk_lt (g := gb211) (o := .cells #[.int .i64 ((rd_T57 y203 x20_1).f0), .int .u8 ((rd_T57 y203 x20_1).f1), .int .i64 ((rd_T57 y203 x20_1).f2)] 57 (0, 0)) (by (with_reducible repeat (first | refine blk_drewN ?_ _ | refine blk_drew ?_ | refine blk_alloc ?_ _)); exact BK211.out)) : gb217 ≠ gb211))
                    clear HO_18
                    clear BK200
                    clear BK201
                    clear BK202
                    clear BK211
                    clear HB
                    have HO_18 := n0_
                    have BK200 := n1_
                    have BK201 := n2_
                    have BK202 := n3_
                    have BK211 := n4_
                    have HB := n5_
                    have BK217 := n6_
                    have GW217 := n7_
                    have GE217 := n8_
                    have NB200_217 := n9_
                    have NB217_200 := n10_
                    have NB201_217 := n11_
                    have NB217_201 := n12_
                    have NB202_217 := n13_
                    have NB217_202 := n14_
                    have NB211_217 := n15_
                    have NB217_211 := n16_
                    clear n0_ n1_ n2_ n3_ n4_ n5_ n6_ n7_ n8_ n9_ n10_ n11_ n12_ n13_ n14_ n15_ n16_
                    clear hb hbox hg
                    refine hK.out _ _ ⟨(blk_cell BK200.out 0).trans rfl, (blk_cell BK200.out 1).trans rfl, (blk_cell BK200.out 2).trans rfl, (blk_cell BK201.out 0).trans rfl, (blk_cell BK201.out 1).trans rfl, (blk_cell BK201.out 2).trans rfl, (blk_cell BK201.out 3).trans rfl, (blk_cell BK211.out 0).trans rfl, (blk_cell BK211.out 1).trans rfl, (blk_cell BK211.out 2).trans rfl⟩ (fun hHeld => ?_)
                    clear hK K
                    refine norm_ (a' := ?_) ?_ ?_
                    rotate_left
                    · show Act.put _ (some 8) _ = _
                      simp only [Act.put, List.setIfInBounds_toArray, List.set_cons_zero, List.set_cons_succ, i64_w, i32_w]
                      rfl
                    exact norm_ (by simp only [putAll, Act.put, List.setIfInBounds_toArray, List.set_cons_zero, List.set_cons_succ]) (hCont (gb217) _ ⟨hHeld, (by (with_reducible repeat (first | apply Kd.R_alloc | apply Kd.R_drewN | apply Kd.R_drew)); exact HO_18.out), (by (with_reducible repeat (first | refine blk_drewN ?_ _ | refine blk_drew ?_ | refine blk_alloc ?_ _)); exact BK200.out), (by (with_reducible repeat (first | refine blk_drewN ?_ _ | refine blk_drew ?_ | refine blk_alloc ?_ _)); exact BK201.out), (by (with_reducible repeat (first | refine blk_drewN ?_ _ | refine blk_drew ?_ | refine blk_alloc ?_ _)); exact BK202.out), (by (with_reducible repeat (first | refine blk_drewN ?_ _ | refine blk_drew ?_ | refine blk_alloc ?_ _)); exact BK211.out), (by (with_reducible repeat (first | refine blk_drewN ?_ _ | refine blk_drew ?_ | refine blk_alloc ?_ _)); exact BK217.out), GW217.out, GE217.out, NB200_217.out, NB217_200.out, NB201_217.out, NB217_201.out, NB202_217.out, NB217_202.out, NB211_217.out, NB217_211.out, (by repeat (first | (with_reducible first | exact HB.out | apply below_alloc | apply pw_below_drewN | apply below_drew1 | refine below_set ?_ GE200.out | refine below_set ?_ GE201.out | refine below_set ?_ GE202.out | refine below_set ?_ GE211.out | refine below_set ?_ GE217.out) | exact HB.out))⟩)
                  · skip
                    refine box_step ?hg (N := 8) ?hd (cs := #[.int .i64 0, .int .i64 0, .int .u8 0]) (t := 56) ?hr ?_; (case hd => rfl); (case hg => rfl); (case hr => first | (go_simp; done) | (go_simp; rfl))
                    intro gb217 hg w27 hbox hb
                    have n0_ := Aside0.mk (Kd.R_below (by (with_reducible repeat (first | apply Kd.R_alloc | apply Kd.R_drewN | apply Kd.R_drew)); exact HO_18.out) hb)
                    have n1_ := Aside0.mk (blk_below (g := gb200) (o := .cells #[.int .i64 a0_0, .int .i64 a0_1, .bool a0_2] 26 (0, 0)) (by (with_reducible repeat (first | refine blk_drewN ?_ _ | refine blk_drew ?_ | refine blk_alloc ?_ _)); exact BK200.out) hb)
                    have n2_ := Aside0.mk (blk_below (g := gb201) (o := .cells #[.int .i64 a1_0, .int .i64 a1_1, .int .u8 a1_2, .slice A1_3 l1_3.length c1_3] 30 (0, 0)) (by (with_reducible repeat (first | refine blk_drewN ?_ _ | refine blk_drew ?_ | refine blk_alloc ?_ _)); exact BK201.out) hb)
                    have n3_ := Aside0.mk (blk_below (g := gb202) (o := .cells #[.int .i64 x203000_1, .int .i64 x203001_1, .int .i64 x203002_1] 35 (0, 0)) (by (with_reducible repeat (first | refine blk_drewN ?_ _ | refine blk_drew ?_ | refine blk_alloc ?_ _)); exact BK202.out) hb)
                    have n4_ := Aside0.mk (blk_below (g := gb211) (o := .cells #[.int .i64 ((rd_T57 y203 x20_1).f0), .int .u8 ((rd_T57 y203 x20_1).f1), .int .i64 ((rd_T57 y203 x20_1).f2)] 57 (0, 0)) (by (with_reducible repeat (first | refine blk_drewN ?_ _ | refine blk_drew ?_ | refine blk_alloc ?_ _)); exact BK211.out) hb)
                    have n5_ := Aside0.mk (below_step (by repeat (first | (with_reducible first | exact HB.out | apply below_alloc | apply pw_below_drewN | apply below_drew1 | refine below_set ?_ GE200.out | refine below_set ?_ GE201.out | refine below_set ?_ GE202.out | refine below_set ?_ GE211.out) | exact HB.out)) hb)
                    have n6_ := Aside0.mk (hbox)
                    have n7_ := Aside0.mk ((by rw [hg]; exact (below_size (by repeat (first | (with_reducible first | exact HB.out | apply below_alloc | apply pw_below_drewN | apply below_drew1 | refine below_set ?_ GE200.out | refine below_set ?_ GE201.out | refine below_set ?_ GE202.out | refine below_set ?_ GE211.out) | exact HB.out))) : w.heap.size ≤ gb217))
                    have n8_ := Aside0.mk ((by rw [hg]; exact (below_size (by repeat (first | (with_reducible first | exact HB.out | apply below_alloc | apply pw_below_drewN | apply below_drew1 | refine below_set ?_ GE200.out | refine below_set ?_ GE201.out | refine below_set ?_ GE202.out | refine below_set ?_ GE211.out) | exact HB.out))) : w.heap.size ≤ gb217))
                    have n9_ := Aside0.mk ((by rw [hg]; exact Nat.ne_of_lt (blk_lt (g := gb200) (o := .cells #[.int .i64 a0_0, .int .i64 a0_1, .bool a0_2] 26 (0, 0)) (by (with_reducible repeat (first | refine blk_drewN ?_ _ | refine blk_drew ?_ | refine blk_alloc ?_ _)); exact BK200.out)) : gb200 ≠ gb217))
                    have n10_ := Aside0.mk ((by rw [hg]; exact Nat.ne_of_gt (blk_lt (g := gb200) (o := .cells #[.int .i64 a0_0, .int .i64 a0_1, .bool a0_2] 26 (0, 0)) (by (with_reducible repeat (first | refine blk_drewN ?_ _ | refine blk_drew ?_ | refine blk_alloc ?_ _)); exact BK200.out)) : gb217 ≠ gb200))
                    have n11_ := Aside0.mk ((by rw [hg]; exact Nat.ne_of_lt (blk_lt (g := gb201) (o := .cells #[.int .i64 a1_0, .int .i64 a1_1, .int .u8 a1_2, .slice A1_3 l1_3.length c1_3] 30 (0, 0)) (by (with_reducible repeat (first | refine blk_drewN ?_ _ | refine blk_drew ?_ | refine blk_alloc ?_ _)); exact BK201.out)) : gb201 ≠ gb217))
                    have n12_ := Aside0.mk ((by rw [hg]; exact Nat.ne_of_gt (blk_lt (g := gb201) (o := .cells #[.int .i64 a1_0, .int .i64 a1_1, .int .u8 a1_2, .slice A1_3 l1_3.length c1_3] 30 (0, 0)) (by (with_reducible repeat (first | refine blk_drewN ?_ _ | refine blk_drew ?_ | refine blk_alloc ?_ _)); exact BK201.out)) : gb217 ≠ gb201))
                    have n13_ := Aside0.mk ((by rw [hg]; exact Nat.ne_of_lt (blk_lt (g := gb202) (o := .cells #[.int .i64 x203000_1, .int .i64 x203001_1, .int .i64 x203002_1] 35 (0, 0)) (by (with_reducible repeat (first | refine blk_drewN ?_ _ | refine blk_drew ?_ | refine blk_alloc ?_ _)); exact BK202.out)) : gb202 ≠ gb217))
                    have n14_ := Aside0.mk ((by rw [hg]; exact Nat.ne_of_gt (blk_lt (g := gb202) (o := .cells #[.int .i64 x203000_1, .int .i64 x203001_1, .int .i64 x203002_1] 35 (0, 0)) (by (with_reducible repeat (first | refine blk_drewN ?_ _ | refine blk_drew ?_ | refine blk_alloc ?_ _)); exact BK202.out)) : gb217 ≠ gb202))
                    have n15_ := Aside0.mk ((by rw [hg]; exact Nat.ne_of_lt (blk_lt (g := gb211) (o := .cells #[.int .i64 ((rd_T57 y203 x20_1).f0), .int .u8 ((rd_T57 y203 x20_1).f1), .int .i64 ((rd_T57 y203 x20_1).f2)] 57 (0, 0)) (by (with_reducible repeat (first | refine blk_drewN ?_ _ | refine blk_drew ?_ | refine blk_alloc ?_ _)); exact BK211.out)) : gb211 ≠ gb217))
                    have n16_ := Aside0.mk ((by rw [hg]; exact Nat.ne_of_gt (blk_lt (g := gb211) (o := .cells #[.int .i64 ((rd_T57 y203 x20_1).f0), .int .u8 ((rd_T57 y203 x20_1).f1), .int .i64 ((rd_T57 y203 x20_1).f2)] 57 (0, 0)) (by (with_reducible repeat (first | refine blk_drewN ?_ _ | refine blk_drew ?_ | refine blk_alloc ?_ _)); exact BK211.out)) : gb217 ≠ gb211))
                    clear HO_18
                    clear BK200
                    clear BK201
                    clear BK202
                    clear BK211
                    clear HB
                    have HO_18 := n0_
                    have BK200 := n1_
                    have BK201 := n2_
                    have BK202 := n3_
                    have BK211 := n4_
                    have HB := n5_
                    have BK217 := n6_
                    have GW217 := n7_
                    have GE217 := n8_
                    have NB200_217 := n9_
                    have NB217_200 := n10_
                    have NB201_217 := n11_
                    have NB217_201 := n12_
                    have NB202_217 := n13_
                    have NB217_202 := n14_
                    have NB211_217 := n15_
                    have NB217_211 := n16_
                    clear n0_ n1_ n2_ n3_ n4_ n5_ n6_ n7_ n8_ n9_ n10_ n11_ n12_ n13_ n14_ n15_ n16_
                    clear hb hbox hg
                    refine hK.out _ _ ⟨(blk_cell BK200.out 0).trans rfl, (blk_cell BK200.out 1).trans rfl, (blk_cell BK200.out 2).trans rfl, (blk_cell BK201.out 0).trans rfl, (blk_cell BK201.out 1).trans rfl, (blk_cell BK201.out 2).trans rfl, (blk_cell BK201.out 3).trans rfl, (blk_cell BK211.out 0).trans rfl, (blk_cell BK211.out 1).trans rfl, (blk_cell BK211.out 2).trans rfl⟩ (fun hHeld => ?_)
                    clear hK K
                    refine norm_ (a' := ?_) ?_ ?_
                    rotate_left
                    · show Act.put _ (some 8) _ = _
                      simp only [Act.put, List.setIfInBounds_toArray, List.set_cons_zero, List.set_cons_succ, i64_w, i32_w]
                      rfl
                    refine one_ (i := 7) (N := some 32) #[true, true, true, true, true, true, true, true, false, false, false, true, false, false] rfl rfl (one_of HT_.out (by kernel_rfl)) (by decide) (fun K hK => ?_)
                    refine goes_ Try.func26 (by kernel_rfl) rfl #[.agg #[.int .i64 a0_0, .int .i64 a0_1, .bool a0_2], .agg #[.int .i64 a1_0, .int .i64 a1_1, .int .u8 a1_2, .slice A1_3 l1_3.length c1_3], .int .u8 ((rd_T57 y203 x20_1).f1), .int .i64 t212] (by rfl) rfl rfl (by (try simp only [List.map_toArray, List.map_cons, List.map_nil]); first | done | rfl | (simp only [List.length_drop, List.length_take]; rfl)) ?_
                    with_reducible refine (plan_seek.calls k1 a0_0 a0_1 a0_2 a1_0 a1_1 a1_2 _ _ l1_3 ((rd_T57 y203 x20_1).f1) t212 t213 t214 t215 true _ ?side1 ?side2 A16.out).mono ?_
                    (case side1 => repeat (first | exact (Kd.C_below HR1_3.out HB.out) | (with_reducible refine Kd.C_alloc ?_ _) | (with_reducible refine Kd.C_drewN ?_ _) | (with_reducible refine Kd.C_drew ?_)))
                    (case side2 => exact HC1_3.out)
                    rintro e w28 ⟨rfl, hb⟩
                    refine ⟨_, rfl, ?_⟩
                    have n0_ := Aside0.mk (Kd.R_below (by (with_reducible repeat (first | apply Kd.R_alloc | apply Kd.R_drewN | apply Kd.R_drew)); exact HO_18.out) hb)
                    have n1_ := Aside0.mk (blk_below (g := gb200) (o := .cells #[.int .i64 a0_0, .int .i64 a0_1, .bool a0_2] 26 (0, 0)) (by (with_reducible repeat (first | refine blk_drewN ?_ _ | refine blk_drew ?_ | refine blk_alloc ?_ _)); exact BK200.out) hb)
                    have n2_ := Aside0.mk (blk_below (g := gb201) (o := .cells #[.int .i64 a1_0, .int .i64 a1_1, .int .u8 a1_2, .slice A1_3 l1_3.length c1_3] 30 (0, 0)) (by (with_reducible repeat (first | refine blk_drewN ?_ _ | refine blk_drew ?_ | refine blk_alloc ?_ _)); exact BK201.out) hb)
                    have n3_ := Aside0.mk (blk_below (g := gb202) (o := .cells #[.int .i64 x203000_1, .int .i64 x203001_1, .int .i64 x203002_1] 35 (0, 0)) (by (with_reducible repeat (first | refine blk_drewN ?_ _ | refine blk_drew ?_ | refine blk_alloc ?_ _)); exact BK202.out) hb)
                    have n4_ := Aside0.mk (blk_below (g := gb211) (o := .cells #[.int .i64 ((rd_T57 y203 x20_1).f0), .int .u8 ((rd_T57 y203 x20_1).f1), .int .i64 ((rd_T57 y203 x20_1).f2)] 57 (0, 0)) (by (with_reducible repeat (first | refine blk_drewN ?_ _ | refine blk_drew ?_ | refine blk_alloc ?_ _)); exact BK211.out) hb)
                    have n5_ := Aside0.mk (blk_below (g := gb217) (o := .cells #[.int .i64 0, .int .i64 0, .int .u8 0] 56 (0, 0)) (by (with_reducible repeat (first | refine blk_drewN ?_ _ | refine blk_drew ?_ | refine blk_alloc ?_ _)); exact BK217.out) hb)
                    have n6_ := Aside0.mk (below_step (by repeat (first | (with_reducible first | exact HB.out | apply below_alloc | apply pw_below_drewN | apply below_drew1 | refine below_set ?_ GE200.out | refine below_set ?_ GE201.out | refine below_set ?_ GE202.out | refine below_set ?_ GE211.out | refine below_set ?_ GE217.out) | exact HB.out)) hb)
                    clear HO_18
                    clear BK200
                    clear BK201
                    clear BK202
                    clear BK211
                    clear BK217
                    clear HB
                    have HO_18 := n0_
                    have BK200 := n1_
                    have BK201 := n2_
                    have BK202 := n3_
                    have BK211 := n4_
                    have BK217 := n5_
                    have HB := n6_
                    clear n0_ n1_ n2_ n3_ n4_ n5_ n6_
                    (try clear hb)
                    (try clear hb2)
                    (try clear hk)
                    (try clear hi)
                    refine hK.out _ _ ⟨(blk_cell BK200.out 0).trans rfl, (blk_cell BK200.out 1).trans rfl, (blk_cell BK200.out 2).trans rfl, (blk_cell BK201.out 0).trans rfl, (blk_cell BK201.out 1).trans rfl, (blk_cell BK201.out 2).trans rfl, (blk_cell BK201.out 3).trans rfl, (blk_cell BK211.out 0).trans rfl, (blk_cell BK211.out 1).trans rfl, (blk_cell BK211.out 2).trans rfl⟩ (fun hHeld => ?_)
                    clear hK K
                    refine norm_ (a' := ?_) ?_ ?_
                    rotate_left
                    · show Act.put _ (some 32) _ = _
                      simp only [Act.put, List.setIfInBounds_toArray, List.set_cons_zero, List.set_cons_succ, i64_w, i32_w]
                      rfl
                    refine pure_ (i := 8) (N := some 24) (v := ?_) (a' := ?_) #[true, true, true, true, true, true, true, true, true, false, false, true, false, false] rfl rfl (any_of HT_.out (by kernel_rfl)) (fun _ _ _ h => h) (Or.inl ⟨by rfl, ?_⟩) ?_ ?_
                    rotate_left
                    · intro w'
                      go_simp
                      with_reducible rfl
                    rotate_left
                    · simp only [Act.put, List.setIfInBounds_toArray, List.set_cons_zero, List.set_cons_succ, i64_w, i32_w]
                      rfl
                    refine pure_ (i := 9) (N := some 33) (v := ?_) (a' := ?_) #[true, true, true, true, true, true, true, true, true, true, false, true, false, false] rfl rfl (any_of HT_.out (by kernel_rfl)) (fun _ _ _ h => h) (Or.inl ⟨by rfl, ?_⟩) ?_ ?_
                    rotate_left
                    · intro w'
                      go_simp
                      with_reducible rfl
                    rotate_left
                    · simp only [Act.put, List.setIfInBounds_toArray, List.set_cons_zero, List.set_cons_succ, i64_w, i32_w]
                      rfl
                    refine pure_ (i := 10) (N := some 34) (v := ?_) (a' := ?_) #[true, true, true, true, true, true, true, true, true, true, true, true, false, false] rfl rfl (any_of HT_.out (by kernel_rfl)) (fun _ _ _ h => h) (Or.inl ⟨by rfl, ?_⟩) ?_ ?_
                    rotate_left
                    · intro w'
                      go_simp
                      with_reducible rfl
                    rotate_left
                    · simp only [Act.put, List.setIfInBounds_toArray, List.set_cons_zero, List.set_cons_succ, i64_w, i32_w]
                      rfl
                    exact norm_ (by simp only [putAll, Act.put, List.setIfInBounds_toArray, List.set_cons_zero, List.set_cons_succ]) (hCont (gb217) _ ⟨hHeld, (by (with_reducible repeat (first | apply Kd.R_alloc | apply Kd.R_drewN | apply Kd.R_drew)); exact HO_18.out), (by (with_reducible repeat (first | refine blk_drewN ?_ _ | refine blk_drew ?_ | refine blk_alloc ?_ _)); exact BK200.out), (by (with_reducible repeat (first | refine blk_drewN ?_ _ | refine blk_drew ?_ | refine blk_alloc ?_ _)); exact BK201.out), (by (with_reducible repeat (first | refine blk_drewN ?_ _ | refine blk_drew ?_ | refine blk_alloc ?_ _)); exact BK202.out), (by (with_reducible repeat (first | refine blk_drewN ?_ _ | refine blk_drew ?_ | refine blk_alloc ?_ _)); exact BK211.out), (by (with_reducible repeat (first | refine blk_drewN ?_ _ | refine blk_drew ?_ | refine blk_alloc ?_ _)); exact BK217.out), GW217.out, GE217.out, NB200_217.out, NB217_200.out, NB201_217.out, NB217_201.out, NB202_217.out, NB217_202.out, NB211_217.out, NB217_211.out, (by repeat (first | (with_reducible first | exact HB.out | apply below_alloc | apply pw_below_drewN | apply below_drew1 | refine below_set ?_ GE200.out | refine below_set ?_ GE201.out | refine below_set ?_ GE202.out | refine below_set ?_ GE211.out | refine below_set ?_ GE217.out) | exact HB.out))⟩)
                · skip
                  refine box_step ?hg (N := 8) ?hd (cs := #[.int .i64 0, .int .i64 0, .int .u8 0]) (t := 56) ?hr ?_; (case hd => rfl); (case hg => rfl); (case hr => first | (go_simp; done) | (go_simp; rfl))
                  intro gb217 hg w26 hbox hb
                  have n0_ := Aside0.mk (Kd.R_below (by (with_reducible repeat (first | apply Kd.R_alloc | apply Kd.R_drewN | apply Kd.R_drew)); exact HO_18.out) hb)
                  have n1_ := Aside0.mk (blk_below (g := gb200) (o := .cells #[.int .i64 a0_0, .int .i64 a0_1, .bool a0_2] 26 (0, 0)) (by (with_reducible repeat (first | refine blk_drewN ?_ _ | refine blk_drew ?_ | refine blk_alloc ?_ _)); exact BK200.out) hb)
                  have n2_ := Aside0.mk (blk_below (g := gb201) (o := .cells #[.int .i64 a1_0, .int .i64 a1_1, .int .u8 a1_2, .slice A1_3 l1_3.length c1_3] 30 (0, 0)) (by (with_reducible repeat (first | refine blk_drewN ?_ _ | refine blk_drew ?_ | refine blk_alloc ?_ _)); exact BK201.out) hb)
                  have n3_ := Aside0.mk (blk_below (g := gb202) (o := .cells #[.int .i64 x203000_1, .int .i64 x203001_1, .int .i64 x203002_1] 35 (0, 0)) (by (with_reducible repeat (first | refine blk_drewN ?_ _ | refine blk_drew ?_ | refine blk_alloc ?_ _)); exact BK202.out) hb)
                  have n4_ := Aside0.mk (blk_below (g := gb211) (o := .cells #[.int .i64 ((rd_T57 y203 x20_1).f0), .int .u8 ((rd_T57 y203 x20_1).f1), .int .i64 ((rd_T57 y203 x20_1).f2)] 57 (0, 0)) (by (with_reducible repeat (first | refine blk_drewN ?_ _ | refine blk_drew ?_ | refine blk_alloc ?_ _)); exact BK211.out) hb)
                  have n5_ := Aside0.mk (below_step (by repeat (first | (with_reducible first | exact HB.out | apply below_alloc | apply pw_below_drewN | apply below_drew1 | refine below_set ?_ GE200.out | refine below_set ?_ GE201.out | refine below_set ?_ GE202.out | refine below_set ?_ GE211.out) | exact HB.out)) hb)
                  have n6_ := Aside0.mk (hbox)
                  have n7_ := Aside0.mk ((by rw [hg]; exact (below_size (by repeat (first | (with_reducible first | exact HB.out | apply below_alloc | apply pw_below_drewN | apply below_drew1 | refine below_set ?_ GE200.out | refine below_set ?_ GE201.out | refine below_set ?_ GE202.out | refine below_set ?_ GE211.out) | exact HB.out))) : w.heap.size ≤ gb217))
                  have n8_ := Aside0.mk ((by rw [hg]; exact (below_size (by repeat (first | (with_reducible first | exact HB.out | apply below_alloc | apply pw_below_drewN | apply below_drew1 | refine below_set ?_ GE200.out | refine below_set ?_ GE201.out | refine below_set ?_ GE202.out | refine below_set ?_ GE211.out) | exact HB.out))) : w.heap.size ≤ gb217))
                  have n9_ := Aside0.mk ((by rw [hg]; exact Nat.ne_of_lt (blk_lt (g := gb200) (o := .cells #[.int .i64 a0_0, .int .i64 a0_1, .bool a0_2] 26 (0, 0)) (by (with_reducible repeat (first | refine blk_drewN ?_ _ | refine blk_drew ?_ | refine blk_alloc ?_ _)); exact BK200.out)) : gb200 ≠ gb217))
                  have n10_ := Aside0.mk ((by rw [hg]; exact Nat.ne_of_gt (blk_lt (g := gb200) (o := .cells #[.int .i64 a0_0, .int .i64 a0_1, .bool a0_2] 26 (0, 0)) (by (with_reducible repeat (first | refine blk_drewN ?_ _ | refine blk_drew ?_ | refine blk_alloc ?_ _)); exact BK200.out)) : gb217 ≠ gb200))
                  have n11_ := Aside0.mk ((by rw [hg]; exact Nat.ne_of_lt (blk_lt (g := gb201) (o := .cells #[.int .i64 a1_0, .int .i64 a1_1, .int .u8 a1_2, .slice A1_3 l1_3.length c1_3] 30 (0, 0)) (by (with_reducible repeat (first | refine blk_drewN ?_ _ | refine blk_drew ?_ | refine blk_alloc ?_ _)); exact BK201.out)) : gb201 ≠ gb217))
                  have n12_ := Aside0.mk ((by rw [hg]; exact Nat.ne_of_gt (blk_lt (g := gb201) (o := .cells #[.int .i64 a1_0, .int .i64 a1_1, .int .u8 a1_2, .slice A1_3 l1_3.length c1_3] 30 (0, 0)) (by (with_reducible repeat (first | refine blk_drewN ?_ _ | refine blk_drew ?_ | refine blk_alloc ?_ _)); exact BK201.out)) : gb217 ≠ gb201))
                  have n13_ := Aside0.mk ((by rw [hg]; exact Nat.ne_of_lt (blk_lt (g := gb202) (o := .cells #[.int .i64 x203000_1, .int .i64 x203001_1, .int .i64 x203002_1] 35 (0, 0)) (by (with_reducible repeat (first | refine blk_drewN ?_ _ | refine blk_drew ?_ | refine blk_alloc ?_ _)); exact BK202.out)) : gb202 ≠ gb217))
                  have n14_ := Aside0.mk ((by rw [hg]; exact Nat.ne_of_gt (blk_lt (g := gb202) (o := .cells #[.int .i64 x203000_1, .int .i64 x203001_1, .int .i64 x203002_1] 35 (0, 0)) (by (with_reducible repeat (first | refine blk_drewN ?_ _ | refine blk_drew ?_ | refine blk_alloc ?_ _)); exact BK202.out)) : gb217 ≠ gb202))
                  have n15_ := Aside0.mk ((by rw [hg]; exact Nat.ne_of_lt (blk_lt (g := gb211) (o := .cells #[.int .i64 ((rd_T57 y203 x20_1).f0), .int .u8 ((rd_T57 y203 x20_1).f1), .int .i64 ((rd_T57 y203 x20_1).f2)] 57 (0, 0)) (by (with_reducible repeat (first | refine blk_drewN ?_ _ | refine blk_drew ?_ | refine blk_alloc ?_ _)); exact BK211.out)) : gb211 ≠ gb217))
                  have n16_ := Aside0.mk ((by rw [hg]; exact Nat.ne_of_gt (blk_lt (g := gb211) (o := .cells #[.int .i64 ((rd_T57 y203 x20_1).f0), .int .u8 ((rd_T57 y203 x20_1).f1), .int .i64 ((rd_T57 y203 x20_1).f2)] 57 (0, 0)) (by (with_reducible repeat (first | refine blk_drewN ?_ _ | refine blk_drew ?_ | refine blk_alloc ?_ _)); exact BK211.out)) : gb217 ≠ gb211))
                  clear HO_18
                  clear BK200
                  clear BK201
                  clear BK202
                  clear BK211
                  clear HB
                  have HO_18 := n0_
                  have BK200 := n1_
                  have BK201 := n2_
                  have BK202 := n3_
                  have BK211 := n4_
                  have HB := n5_
                  have BK217 := n6_
                  have GW217 := n7_
                  have GE217 := n8_
                  have NB200_217 := n9_
                  have NB217_200 := n10_
                  have NB201_217 := n11_
                  have NB217_201 := n12_
                  have NB202_217 := n13_
                  have NB217_202 := n14_
                  have NB211_217 := n15_
                  have NB217_211 := n16_
                  clear n0_ n1_ n2_ n3_ n4_ n5_ n6_ n7_ n8_ n9_ n10_ n11_ n12_ n13_ n14_ n15_ n16_
                  clear hb hbox hg
                  refine hK.out _ _ ⟨(blk_cell BK200.out 0).trans rfl, (blk_cell BK200.out 1).trans rfl, (blk_cell BK200.out 2).trans rfl, (blk_cell BK201.out 0).trans rfl, (blk_cell BK201.out 1).trans rfl, (blk_cell BK201.out 2).trans rfl, (blk_cell BK201.out 3).trans rfl, (blk_cell BK211.out 0).trans rfl, (blk_cell BK211.out 1).trans rfl, (blk_cell BK211.out 2).trans rfl⟩ (fun hHeld => ?_)
                  clear hK K
                  refine norm_ (a' := ?_) ?_ ?_
                  rotate_left
                  · show Act.put _ (some 8) _ = _
                    simp only [Act.put, List.setIfInBounds_toArray, List.set_cons_zero, List.set_cons_succ, i64_w, i32_w]
                    rfl
                  refine one_ (i := 6) (N := some 31) #[true, true, true, true, true, true, true, false, false, false, false, true, false, false] rfl rfl (one_of HT_.out (by kernel_rfl)) (by decide) (fun K hK => ?_)
                  refine goes_ Try.func27 (by kernel_rfl) rfl #[.agg #[.int .i64 a0_0, .int .i64 a0_1, .bool a0_2], .agg #[.int .i64 a1_0, .int .i64 a1_1, .int .u8 a1_2, .slice A1_3 l1_3.length c1_3]] (by rfl) rfl rfl (by (try simp only [List.map_toArray, List.map_cons, List.map_nil]); first | done | rfl | (simp only [List.length_drop, List.length_take]; rfl)) ?_
                  with_reducible refine (plan_edge.calls a0_0 a0_1 a0_2 a1_0 a1_1 a1_2 _ _ l1_3 t212 _ ?side1 ?side2 A15.out).mono ?_
                  (case side1 => repeat (first | exact (Kd.C_below HR1_3.out HB.out) | (with_reducible refine Kd.C_alloc ?_ _) | (with_reducible refine Kd.C_drewN ?_ _) | (with_reducible refine Kd.C_drew ?_)))
                  (case side2 => exact HC1_3.out)
                  rintro e w27 ⟨rfl, hb⟩
                  refine ⟨_, rfl, ?_⟩
                  have n0_ := Aside0.mk (Kd.R_below (by (with_reducible repeat (first | apply Kd.R_alloc | apply Kd.R_drewN | apply Kd.R_drew)); exact HO_18.out) hb)
                  have n1_ := Aside0.mk (blk_below (g := gb200) (o := .cells #[.int .i64 a0_0, .int .i64 a0_1, .bool a0_2] 26 (0, 0)) (by (with_reducible repeat (first | refine blk_drewN ?_ _ | refine blk_drew ?_ | refine blk_alloc ?_ _)); exact BK200.out) hb)
                  have n2_ := Aside0.mk (blk_below (g := gb201) (o := .cells #[.int .i64 a1_0, .int .i64 a1_1, .int .u8 a1_2, .slice A1_3 l1_3.length c1_3] 30 (0, 0)) (by (with_reducible repeat (first | refine blk_drewN ?_ _ | refine blk_drew ?_ | refine blk_alloc ?_ _)); exact BK201.out) hb)
                  have n3_ := Aside0.mk (blk_below (g := gb202) (o := .cells #[.int .i64 x203000_1, .int .i64 x203001_1, .int .i64 x203002_1] 35 (0, 0)) (by (with_reducible repeat (first | refine blk_drewN ?_ _ | refine blk_drew ?_ | refine blk_alloc ?_ _)); exact BK202.out) hb)
                  have n4_ := Aside0.mk (blk_below (g := gb211) (o := .cells #[.int .i64 ((rd_T57 y203 x20_1).f0), .int .u8 ((rd_T57 y203 x20_1).f1), .int .i64 ((rd_T57 y203 x20_1).f2)] 57 (0, 0)) (by (with_reducible repeat (first | refine blk_drewN ?_ _ | refine blk_drew ?_ | refine blk_alloc ?_ _)); exact BK211.out) hb)
                  have n5_ := Aside0.mk (blk_below (g := gb217) (o := .cells #[.int .i64 0, .int .i64 0, .int .u8 0] 56 (0, 0)) (by (with_reducible repeat (first | refine blk_drewN ?_ _ | refine blk_drew ?_ | refine blk_alloc ?_ _)); exact BK217.out) hb)
                  have n6_ := Aside0.mk (below_step (by repeat (first | (with_reducible first | exact HB.out | apply below_alloc | apply pw_below_drewN | apply below_drew1 | refine below_set ?_ GE200.out | refine below_set ?_ GE201.out | refine below_set ?_ GE202.out | refine below_set ?_ GE211.out | refine below_set ?_ GE217.out) | exact HB.out)) hb)
                  clear HO_18
                  clear BK200
                  clear BK201
                  clear BK202
                  clear BK211
                  clear BK217
                  clear HB
                  have HO_18 := n0_
                  have BK200 := n1_
                  have BK201 := n2_
                  have BK202 := n3_
                  have BK211 := n4_
                  have BK217 := n5_
                  have HB := n6_
                  clear n0_ n1_ n2_ n3_ n4_ n5_ n6_
                  (try clear hb)
                  (try clear hb2)
                  (try clear hk)
                  (try clear hi)
                  refine hK.out _ _ ⟨(blk_cell BK200.out 0).trans rfl, (blk_cell BK200.out 1).trans rfl, (blk_cell BK200.out 2).trans rfl, (blk_cell BK201.out 0).trans rfl, (blk_cell BK201.out 1).trans rfl, (blk_cell BK201.out 2).trans rfl, (blk_cell BK201.out 3).trans rfl, (blk_cell BK211.out 0).trans rfl, (blk_cell BK211.out 1).trans rfl, (blk_cell BK211.out 2).trans rfl⟩ (fun hHeld => ?_)
                  clear hK K
                  refine norm_ (a' := ?_) ?_ ?_
                  rotate_left
                  · show Act.put _ (some 31) _ = _
                    simp only [Act.put, List.setIfInBounds_toArray, List.set_cons_zero, List.set_cons_succ, i64_w, i32_w]
                    rfl
                  refine one_ (i := 7) (N := some 32) #[true, true, true, true, true, true, true, true, false, false, false, true, false, false] rfl rfl (one_of HT_.out (by kernel_rfl)) (by decide) (fun K hK => ?_)
                  refine goes_ Try.func26 (by kernel_rfl) rfl #[.agg #[.int .i64 a0_0, .int .i64 a0_1, .bool a0_2], .agg #[.int .i64 a1_0, .int .i64 a1_1, .int .u8 a1_2, .slice A1_3 l1_3.length c1_3], .int .u8 ((rd_T57 y203 x20_1).f1), .int .i64 t212] (by rfl) rfl rfl (by (try simp only [List.map_toArray, List.map_cons, List.map_nil]); first | done | rfl | (simp only [List.length_drop, List.length_take]; rfl)) ?_
                  with_reducible refine (plan_seek.calls k1 a0_0 a0_1 a0_2 a1_0 a1_1 a1_2 _ _ l1_3 ((rd_T57 y203 x20_1).f1) t212 t213 t214 t215 true _ ?side1 ?side2 A16.out).mono ?_
                  (case side1 => repeat (first | exact (Kd.C_below HR1_3.out HB.out) | (with_reducible refine Kd.C_alloc ?_ _) | (with_reducible refine Kd.C_drewN ?_ _) | (with_reducible refine Kd.C_drew ?_)))
                  (case side2 => exact HC1_3.out)
                  rintro e w28 ⟨rfl, hb⟩
                  refine ⟨_, rfl, ?_⟩
                  have n0_ := Aside0.mk (Kd.R_below (by (with_reducible repeat (first | apply Kd.R_alloc | apply Kd.R_drewN | apply Kd.R_drew)); exact HO_18.out) hb)
                  have n1_ := Aside0.mk (blk_below (g := gb200) (o := .cells #[.int .i64 a0_0, .int .i64 a0_1, .bool a0_2] 26 (0, 0)) (by (with_reducible repeat (first | refine blk_drewN ?_ _ | refine blk_drew ?_ | refine blk_alloc ?_ _)); exact BK200.out) hb)
                  have n2_ := Aside0.mk (blk_below (g := gb201) (o := .cells #[.int .i64 a1_0, .int .i64 a1_1, .int .u8 a1_2, .slice A1_3 l1_3.length c1_3] 30 (0, 0)) (by (with_reducible repeat (first | refine blk_drewN ?_ _ | refine blk_drew ?_ | refine blk_alloc ?_ _)); exact BK201.out) hb)
                  have n3_ := Aside0.mk (blk_below (g := gb202) (o := .cells #[.int .i64 x203000_1, .int .i64 x203001_1, .int .i64 x203002_1] 35 (0, 0)) (by (with_reducible repeat (first | refine blk_drewN ?_ _ | refine blk_drew ?_ | refine blk_alloc ?_ _)); exact BK202.out) hb)
                  have n4_ := Aside0.mk (blk_below (g := gb211) (o := .cells #[.int .i64 ((rd_T57 y203 x20_1).f0), .int .u8 ((rd_T57 y203 x20_1).f1), .int .i64 ((rd_T57 y203 x20_1).f2)] 57 (0, 0)) (by (with_reducible repeat (first | refine blk_drewN ?_ _ | refine blk_drew ?_ | refine blk_alloc ?_ _)); exact BK211.out) hb)
                  have n5_ := Aside0.mk (blk_below (g := gb217) (o := .cells #[.int .i64 0, .int .i64 0, .int .u8 0] 56 (0, 0)) (by (with_reducible repeat (first | refine blk_drewN ?_ _ | refine blk_drew ?_ | refine blk_alloc ?_ _)); exact BK217.out) hb)
                  have n6_ := Aside0.mk (below_step (by repeat (first | (with_reducible first | exact HB.out | apply below_alloc | apply pw_below_drewN | apply below_drew1 | refine below_set ?_ GE200.out | refine below_set ?_ GE201.out | refine below_set ?_ GE202.out | refine below_set ?_ GE211.out | refine below_set ?_ GE217.out) | exact HB.out)) hb)
                  clear HO_18
                  clear BK200
                  clear BK201
                  clear BK202
                  clear BK211
                  clear BK217
                  clear HB
                  have HO_18 := n0_
                  have BK200 := n1_
                  have BK201 := n2_
                  have BK202 := n3_
                  have BK211 := n4_
                  have BK217 := n5_
                  have HB := n6_
                  clear n0_ n1_ n2_ n3_ n4_ n5_ n6_
                  (try clear hb)
                  (try clear hb2)
                  (try clear hk)
                  (try clear hi)
                  refine hK.out _ _ ⟨(blk_cell BK200.out 0).trans rfl, (blk_cell BK200.out 1).trans rfl, (blk_cell BK200.out 2).trans rfl, (blk_cell BK201.out 0).trans rfl, (blk_cell BK201.out 1).trans rfl, (blk_cell BK201.out 2).trans rfl, (blk_cell BK201.out 3).trans rfl, (blk_cell BK211.out 0).trans rfl, (blk_cell BK211.out 1).trans rfl, (blk_cell BK211.out 2).trans rfl⟩ (fun hHeld => ?_)
                  clear hK K
                  refine norm_ (a' := ?_) ?_ ?_
                  rotate_left
                  · show Act.put _ (some 32) _ = _
                    simp only [Act.put, List.setIfInBounds_toArray, List.set_cons_zero, List.set_cons_succ, i64_w, i32_w]
                    rfl
                  refine pure_ (i := 8) (N := some 24) (v := ?_) (a' := ?_) #[true, true, true, true, true, true, true, true, true, false, false, true, false, false] rfl rfl (any_of HT_.out (by kernel_rfl)) (fun _ _ _ h => h) (Or.inl ⟨by rfl, ?_⟩) ?_ ?_
                  rotate_left
                  · intro w'
                    go_simp
                    with_reducible rfl
                  rotate_left
                  · simp only [Act.put, List.setIfInBounds_toArray, List.set_cons_zero, List.set_cons_succ, i64_w, i32_w]
                    rfl
                  refine pure_ (i := 9) (N := some 33) (v := ?_) (a' := ?_) #[true, true, true, true, true, true, true, true, true, true, false, true, false, false] rfl rfl (any_of HT_.out (by kernel_rfl)) (fun _ _ _ h => h) (Or.inl ⟨by rfl, ?_⟩) ?_ ?_
                  rotate_left
                  · intro w'
                    go_simp
                    with_reducible rfl
                  rotate_left
                  · simp only [Act.put, List.setIfInBounds_toArray, List.set_cons_zero, List.set_cons_succ, i64_w, i32_w]
                    rfl
                  refine pure_ (i := 10) (N := some 34) (v := ?_) (a' := ?_) #[true, true, true, true, true, true, true, true, true, true, true, true, false, false] rfl rfl (any_of HT_.out (by kernel_rfl)) (fun _ _ _ h => h) (Or.inl ⟨by rfl, ?_⟩) ?_ ?_
                  rotate_left
                  · intro w'
                    go_simp
                    with_reducible rfl
                  rotate_left
                  · simp only [Act.put, List.setIfInBounds_toArray, List.set_cons_zero, List.set_cons_succ, i64_w, i32_w]
                    rfl
                  exact norm_ (by simp only [putAll, Act.put, List.setIfInBounds_toArray, List.set_cons_zero, List.set_cons_succ]) (hCont (gb217) _ ⟨hHeld, (by (with_reducible repeat (first | apply Kd.R_alloc | apply Kd.R_drewN | apply Kd.R_drew)); exact HO_18.out), (by (with_reducible repeat (first | refine blk_drewN ?_ _ | refine blk_drew ?_ | refine blk_alloc ?_ _)); exact BK200.out), (by (with_reducible repeat (first | refine blk_drewN ?_ _ | refine blk_drew ?_ | refine blk_alloc ?_ _)); exact BK201.out), (by (with_reducible repeat (first | refine blk_drewN ?_ _ | refine blk_drew ?_ | refine blk_alloc ?_ _)); exact BK202.out), (by (with_reducible repeat (first | refine blk_drewN ?_ _ | refine blk_drew ?_ | refine blk_alloc ?_ _)); exact BK211.out), (by (with_reducible repeat (first | refine blk_drewN ?_ _ | refine blk_drew ?_ | refine blk_alloc ?_ _)); exact BK217.out), GW217.out, GE217.out, NB200_217.out, NB217_200.out, NB201_217.out, NB217_201.out, NB202_217.out, NB217_202.out, NB211_217.out, NB217_211.out, (by repeat (first | (with_reducible first | exact HB.out | apply below_alloc | apply pw_below_drewN | apply below_drew1 | refine below_set ?_ GE200.out | refine below_set ?_ GE201.out | refine below_set ?_ GE202.out | refine below_set ?_ GE211.out | refine below_set ?_ GE217.out) | exact HB.out))⟩)
              rintro gb217 w29 ⟨hS_, h0_, h1_, h2_, h3_, h4_, h5_, h6_, h7_, h8_, h9_, h10_, h11_, h12_, h13_, h14_, h15_, h16_⟩
              have n0_ : Aside0 (Kd.R k57 57 w29 w.heap.size (fun k_ => k_ ≠ gb211) (.slice (some ad210) y203.length co11) y203) := ⟨h0_⟩
              have n1_ : Aside0 (w29.heap[gb200]? = some (.cells #[.int .i64 a0_0, .int .i64 a0_1, .bool a0_2] 26 (0, 0))) := ⟨h1_⟩
              have n2_ : Aside0 (w29.heap[gb201]? = some (.cells #[.int .i64 a1_0, .int .i64 a1_1, .int .u8 a1_2, .slice A1_3 l1_3.length c1_3] 30 (0, 0))) := ⟨h2_⟩
              have n3_ : Aside0 (w29.heap[gb202]? = some (.cells #[.int .i64 x203000_1, .int .i64 x203001_1, .int .i64 x203002_1] 35 (0, 0))) := ⟨h3_⟩
              have n4_ : Aside0 (w29.heap[gb211]? = some (.cells #[.int .i64 ((rd_T57 y203 x20_1).f0), .int .u8 ((rd_T57 y203 x20_1).f1), .int .i64 ((rd_T57 y203 x20_1).f2)] 57 (0, 0))) := ⟨h4_⟩
              have n5_ : Aside0 (w29.heap[gb217]? = some (.cells #[.int .i64 0, .int .i64 0, .int .u8 0] 56 (0, 0))) := ⟨h5_⟩
              have n6_ : Aside0 (w.heap.size ≤ gb217) := ⟨h6_⟩
              have n7_ : Aside0 (w.heap.size ≤ gb217) := ⟨h7_⟩
              have n8_ : Aside0 (gb200 ≠ gb217) := ⟨h8_⟩
              have n9_ : Aside0 (gb217 ≠ gb200) := ⟨h9_⟩
              have n10_ : Aside0 (gb201 ≠ gb217) := ⟨h10_⟩
              have n11_ : Aside0 (gb217 ≠ gb201) := ⟨h11_⟩
              have n12_ : Aside0 (gb202 ≠ gb217) := ⟨h12_⟩
              have n13_ : Aside0 (gb217 ≠ gb202) := ⟨h13_⟩
              have n14_ : Aside0 (gb211 ≠ gb217) := ⟨h14_⟩
              have n15_ : Aside0 (gb217 ≠ gb211) := ⟨h15_⟩
              have n16_ : Aside0 (Below w.heap.size w w29) := ⟨h16_⟩
              clear HO_18
              clear BK200
              clear BK201
              clear BK202
              clear BK211
              clear HB
              clear h0_ h1_ h2_ h3_ h4_ h5_ h6_ h7_ h8_ h9_ h10_ h11_ h12_ h13_ h14_ h15_ h16_
              have HO_18 := n0_
              have BK200 := n1_
              have BK201 := n2_
              have BK202 := n3_
              have BK211 := n4_
              have BK217 := n5_
              have GW217 := n6_
              have GE217 := n7_
              have NB200_217 := n8_
              have NB217_200 := n9_
              have NB201_217 := n10_
              have NB217_201 := n11_
              have NB202_217 := n12_
              have NB217_202 := n13_
              have NB211_217 := n14_
              have NB217_211 := n15_
              have HB := n16_
              clear n0_ n1_ n2_ n3_ n4_ n5_ n6_ n7_ n8_ n9_ n10_ n11_ n12_ n13_ n14_ n15_ n16_
              have hHeld : w29.cell? ⟨gb200, 0, none⟩ = some (.int .i64 a0_0) ∧ w29.cell? ⟨gb200, 1, none⟩ = some (.int .i64 a0_1) ∧ w29.cell? ⟨gb200, 2, none⟩ = some (.bool a0_2) ∧ w29.cell? ⟨gb201, 0, none⟩ = some (.int .i64 a1_0) ∧ w29.cell? ⟨gb201, 1, none⟩ = some (.int .i64 a1_1) ∧ w29.cell? ⟨gb201, 2, none⟩ = some (.int .u8 a1_2) ∧ w29.cell? ⟨gb201, 3, none⟩ = some (.slice A1_3 l1_3.length c1_3) ∧ w29.cell? ⟨gb211, 0, none⟩ = some (.int .i64 ((rd_T57 y203 x20_1).f0)) ∧ w29.cell? ⟨gb211, 1, none⟩ = some (.int .u8 ((rd_T57 y203 x20_1).f1)) ∧ w29.cell? ⟨gb211, 2, none⟩ = some (.int .i64 ((rd_T57 y203 x20_1).f2)) := hS_
              refine norm_ (a' := ?_) ?_ ?_
              rotate_left
              · simp only [putAll, Act.put, List.setIfInBounds_toArray, List.set_cons_zero, List.set_cons_succ]
                rfl
              refine one_ (i := 12) (N := none) #[true, true, true, true, true, true, true, true, true, true, true, true, true, false] rfl rfl (one_of HT_.out (by kernel_rfl)) (by decide) (fun K hK => ?_)
              have hs30 : w29.cell? ⟨gb217, 0, none⟩ = some (.int .i64 0) := (blk_cell BK217.out 0).trans rfl
              have hfs30 := blk_frozen BK217.out 0
              have hns30_0 := NB200_217.out
              have hns30_1 := NB201_217.out
              have hns30_2 := NB202_217.out
              have hns30_3 := NB211_217.out
              have hms30_0 := NB217_200.out
              have hms30_1 := NB217_201.out
              have hms30_2 := NB217_202.out
              have hms30_3 := NB217_211.out
              have hs31 : w29.cell? ⟨gb217, 1, none⟩ = some (.int .i64 0) := (blk_cell BK217.out 1).trans rfl
              have hfs31 := blk_frozen BK217.out 1
              have hns31_0 := NB200_217.out
              have hns31_1 := NB201_217.out
              have hns31_2 := NB202_217.out
              have hns31_3 := NB211_217.out
              have hms31_0 := NB217_200.out
              have hms31_1 := NB217_201.out
              have hms31_2 := NB217_202.out
              have hms31_3 := NB217_211.out
              have hs32 : w29.cell? ⟨gb217, 2, none⟩ = some (.int .u8 0) := (blk_cell BK217.out 2).trans rfl
              have hfs32 := blk_frozen BK217.out 2
              have hns32_0 := NB200_217.out
              have hns32_1 := NB201_217.out
              have hns32_2 := NB202_217.out
              have hns32_3 := NB211_217.out
              have hms32_0 := NB217_200.out
              have hms32_1 := NB217_201.out
              have hms32_2 := NB217_202.out
              have hms32_3 := NB217_211.out
              refine skip_ (w1 := ?_) (by rfl) rfl ?_ ?_
              rotate_left
              · go_simp
                rfl
              refine hK.out _ _ ⟨((cell_far (p := ⟨gb217, _, none⟩) NB200_217.out _).trans (((cell_far (p := ⟨gb217, _, none⟩) NB200_217.out _).trans (((cell_far (p := ⟨gb217, _, none⟩) NB200_217.out _).trans (hHeld.1)))))), ((cell_far (p := ⟨gb217, _, none⟩) NB200_217.out _).trans (((cell_far (p := ⟨gb217, _, none⟩) NB200_217.out _).trans (((cell_far (p := ⟨gb217, _, none⟩) NB200_217.out _).trans (hHeld.2.1)))))), ((cell_far (p := ⟨gb217, _, none⟩) NB200_217.out _).trans (((cell_far (p := ⟨gb217, _, none⟩) NB200_217.out _).trans (((cell_far (p := ⟨gb217, _, none⟩) NB200_217.out _).trans (hHeld.2.2.1)))))), ((cell_far (p := ⟨gb217, _, none⟩) NB201_217.out _).trans (((cell_far (p := ⟨gb217, _, none⟩) NB201_217.out _).trans (((cell_far (p := ⟨gb217, _, none⟩) NB201_217.out _).trans (hHeld.2.2.2.1)))))), ((cell_far (p := ⟨gb217, _, none⟩) NB201_217.out _).trans (((cell_far (p := ⟨gb217, _, none⟩) NB201_217.out _).trans (((cell_far (p := ⟨gb217, _, none⟩) NB201_217.out _).trans (hHeld.2.2.2.2.1)))))), ((cell_far (p := ⟨gb217, _, none⟩) NB201_217.out _).trans (((cell_far (p := ⟨gb217, _, none⟩) NB201_217.out _).trans (((cell_far (p := ⟨gb217, _, none⟩) NB201_217.out _).trans (hHeld.2.2.2.2.2.1)))))), ((cell_far (p := ⟨gb217, _, none⟩) NB201_217.out _).trans (((cell_far (p := ⟨gb217, _, none⟩) NB201_217.out _).trans (((cell_far (p := ⟨gb217, _, none⟩) NB201_217.out _).trans (hHeld.2.2.2.2.2.2.1)))))), ((cell_far (p := ⟨gb217, _, none⟩) NB211_217.out _).trans (((cell_far (p := ⟨gb217, _, none⟩) NB211_217.out _).trans (((cell_far (p := ⟨gb217, _, none⟩) NB211_217.out _).trans (hHeld.2.2.2.2.2.2.2.1)))))), ((cell_far (p := ⟨gb217, _, none⟩) NB211_217.out _).trans (((cell_far (p := ⟨gb217, _, none⟩) NB211_217.out _).trans (((cell_far (p := ⟨gb217, _, none⟩) NB211_217.out _).trans (hHeld.2.2.2.2.2.2.2.2.1)))))), ((cell_far (p := ⟨gb217, _, none⟩) NB211_217.out _).trans (((cell_far (p := ⟨gb217, _, none⟩) NB211_217.out _).trans (((cell_far (p := ⟨gb217, _, none⟩) NB211_217.out _).trans (hHeld.2.2.2.2.2.2.2.2.2))))))⟩ (fun hHeld => ?_)
              clear hK K
              refine pure_ (i := 13) (N := some 9) (v := ?_) (a' := ?_) #[true, true, true, true, true, true, true, true, true, true, true, true, true, true] rfl rfl (any_of HT_.out (by kernel_rfl)) (fun _ _ _ h => h) (Or.inl ⟨by rfl, ?_⟩) ?_ ?_
              rotate_left
              · intro w'
                go_simp
                with_reducible rfl
              rotate_left
              · simp only [Act.put, List.setIfInBounds_toArray, List.set_cons_zero, List.set_cons_succ, i64_w, i32_w]
                rfl
              refine done_ (done_of HT_.out (by kernel_rfl)) ?_
              have hnb33 := NB200_201.out
              have hnc33 := NB201_200.out
              have hnb34 := NB200_202.out
              have hnc34 := NB202_200.out
              have hnb35 := NB200_217.out
              have hnc35 := NB217_200.out
              have hcz36_0 : w29.cell? ⟨gb200, 0, none⟩ = some (.int .i64 a0_0) := (blk_cell BK200.out 0).trans rfl
              have hcz36_1 : w29.cell? ⟨gb200, 1, none⟩ = some (.int .i64 a0_1) := (blk_cell BK200.out 1).trans rfl
              have hcz36_2 : w29.cell? ⟨gb200, 2, none⟩ = some (.bool a0_2) := (blk_cell BK200.out 2).trans rfl
              have hfz36_0 := blk_frozen BK200.out 0
              have hfz36_1 := blk_frozen BK200.out 1
              have hfz36_2 := blk_frozen BK200.out 2
              have hnb37 := NB217_201.out
              have hnc37 := NB201_217.out
              have hnb38 := NB217_202.out
              have hnc38 := NB202_217.out
              have hnb39 := NB217_211.out
              have hnc39 := NB211_217.out
              have hcz40_0 : w29.cell? ⟨gb217, 0, none⟩ = some (.int .i64 0) := (blk_cell BK217.out 0).trans rfl
              have hcz40_1 : w29.cell? ⟨gb217, 1, none⟩ = some (.int .i64 0) := (blk_cell BK217.out 1).trans rfl
              have hcz40_2 : w29.cell? ⟨gb217, 2, none⟩ = some (.int .u8 0) := (blk_cell BK217.out 2).trans rfl
              have hfz40_0 := blk_frozen BK217.out 0
              have hfz40_1 := blk_frozen BK217.out 1
              have hfz40_2 := blk_frozen BK217.out 2
              have hcz41_0 : w29.cell? ⟨gb211, 0, none⟩ = some (.int .i64 ((rd_T57 y203 x20_1).f0)) := (blk_cell BK211.out 0).trans rfl
              have hcz41_1 : w29.cell? ⟨gb211, 1, none⟩ = some (.int .u8 ((rd_T57 y203 x20_1).f1)) := (blk_cell BK211.out 1).trans rfl
              have hcz41_2 : w29.cell? ⟨gb211, 2, none⟩ = some (.int .i64 ((rd_T57 y203 x20_1).f2)) := (blk_cell BK211.out 2).trans rfl
              have hfz41_0 := blk_frozen BK211.out 0
              have hfz41_1 := blk_frozen BK211.out 1
              have hfz41_2 := blk_frozen BK211.out 2
              try go_wp2_with (first | ((with_reducible refine gate_callee (f := 28) rfl ?_); refine goesL_ (some 41) rfl rfl Try.func28 (by kernel_rfl) rfl #[.agg #[.int .i64 a0_0, .int .i64 a0_1, .bool a0_2], .agg #[.int .i64 t213, .int .i64 t214, .int .u8 t215], .int .i64 ((rd_T57 y203 x20_1).f2)] rfl (by (try simp only [List.map_toArray, List.map_cons, List.map_nil]); first | done | rfl | (simp only [List.length_drop, List.length_take]; rfl)) ?_; (with_reducible refine (plan_cut.calls a0_0 a0_1 a0_2 t213 t214 t215 ((rd_T57 y203 x20_1).f2) t218 t219 _ A18.out).mono ?_); rintro e w42 ⟨rfl, hb⟩; refine ⟨_, rfl, ?_⟩; have n0_ := Aside0.mk (Kd.R_below (by (with_reducible repeat (first | apply Kd.R_alloc | apply Kd.R_drewN | apply Kd.R_drew)); exact (Kd.R_mono (Kd.R_far (p := ⟨gb217, 2, none⟩) (Kd.R_far (p := ⟨gb217, 1, none⟩) (Kd.R_far (p := ⟨gb217, 0, none⟩) (Kd.R_types HO_18.out BK217.out (by decide)) (fun _ hk => hk.2) (.int .i64 t213)) (fun _ hk => hk.2) (.int .i64 t214)) (fun _ hk => hk.2) (.int .u8 t215)) (fun _ h_ => h_.1))) hb); have n1_ := Aside0.mk (blk_below (g := gb200) (o := .cells #[.int .i64 a0_0, .int .i64 a0_1, .bool a0_2] 26 (0, 0)) (by (with_reducible repeat (first | refine blk_drewN ?_ _ | refine blk_drew ?_ | refine blk_alloc ?_ _)); refine blk_far ?_ NB200_217.out _; (with_reducible repeat (first | refine blk_drewN ?_ _ | refine blk_drew ?_ | refine blk_alloc ?_ _)); refine blk_far ?_ NB200_217.out _; (with_reducible repeat (first | refine blk_drewN ?_ _ | refine blk_drew ?_ | refine blk_alloc ?_ _)); refine blk_far ?_ NB200_217.out _; (with_reducible repeat (first | refine blk_drewN ?_ _ | refine blk_drew ?_ | refine blk_alloc ?_ _)); exact BK200.out) hb); have n2_ := Aside0.mk (blk_below (g := gb201) (o := .cells #[.int .i64 a1_0, .int .i64 a1_1, .int .u8 a1_2, .slice A1_3 l1_3.length c1_3] 30 (0, 0)) (by (with_reducible repeat (first | refine blk_drewN ?_ _ | refine blk_drew ?_ | refine blk_alloc ?_ _)); refine blk_far ?_ NB201_217.out _; (with_reducible repeat (first | refine blk_drewN ?_ _ | refine blk_drew ?_ | refine blk_alloc ?_ _)); refine blk_far ?_ NB201_217.out _; (with_reducible repeat (first | refine blk_drewN ?_ _ | refine blk_drew ?_ | refine blk_alloc ?_ _)); refine blk_far ?_ NB201_217.out _; (with_reducible repeat (first | refine blk_drewN ?_ _ | refine blk_drew ?_ | refine blk_alloc ?_ _)); exact BK201.out) hb); have n3_ := Aside0.mk (blk_below (g := gb202) (o := .cells #[.int .i64 x203000_1, .int .i64 x203001_1, .int .i64 x203002_1] 35 (0, 0)) (by (with_reducible repeat (first | refine blk_drewN ?_ _ | refine blk_drew ?_ | refine blk_alloc ?_ _)); refine blk_far ?_ NB202_217.out _; (with_reducible repeat (first | refine blk_drewN ?_ _ | refine blk_drew ?_ | refine blk_alloc ?_ _)); refine blk_far ?_ NB202_217.out _; (with_reducible repeat (first | refine blk_drewN ?_ _ | refine blk_drew ?_ | refine blk_alloc ?_ _)); refine blk_far ?_ NB202_217.out _; (with_reducible repeat (first | refine blk_drewN ?_ _ | refine blk_drew ?_ | refine blk_alloc ?_ _)); exact BK202.out) hb); have n4_ := Aside0.mk (blk_below (g := gb211) (o := .cells #[.int .i64 ((rd_T57 y203 x20_1).f0), .int .u8 ((rd_T57 y203 x20_1).f1), .int .i64 ((rd_T57 y203 x20_1).f2)] 57 (0, 0)) (by (with_reducible repeat (first | refine blk_drewN ?_ _ | refine blk_drew ?_ | refine blk_alloc ?_ _)); refine blk_far ?_ NB211_217.out _; (with_reducible repeat (first | refine blk_drewN ?_ _ | refine blk_drew ?_ | refine blk_alloc ?_ _)); refine blk_far ?_ NB211_217.out _; (with_reducible repeat (first | refine blk_drewN ?_ _ | refine blk_drew ?_ | refine blk_alloc ?_ _)); refine blk_far ?_ NB211_217.out _; (with_reducible repeat (first | refine blk_drewN ?_ _ | refine blk_drew ?_ | refine blk_alloc ?_ _)); exact BK211.out) hb); have n5_ := Aside0.mk (blk_below (g := gb217) (o := .cells #[.int .i64 t213, .int .i64 t214, .int .u8 t215] 56 (0, 0)) (by (with_reducible repeat (first | refine blk_drewN ?_ _ | refine blk_drew ?_ | refine blk_alloc ?_ _)); refine blk_put (cs := #[.int .i64 t213, .int .i64 t214, .int .u8 0]) ?_ 2 _ rfl; (with_reducible repeat (first | refine blk_drewN ?_ _ | refine blk_drew ?_ | refine blk_alloc ?_ _)); refine blk_put (cs := #[.int .i64 t213, .int .i64 0, .int .u8 0]) ?_ 1 _ rfl; (with_reducible repeat (first | refine blk_drewN ?_ _ | refine blk_drew ?_ | refine blk_alloc ?_ _)); refine blk_put (cs := #[.int .i64 0, .int .i64 0, .int .u8 0]) ?_ 0 _ rfl; (with_reducible repeat (first | refine blk_drewN ?_ _ | refine blk_drew ?_ | refine blk_alloc ?_ _)); exact BK217.out) hb); have n6_ := Aside0.mk (below_step (by repeat (first | (with_reducible first | exact HB.out | apply below_alloc | apply pw_below_drewN | apply below_drew1 | refine below_set ?_ GE200.out | refine below_set ?_ GE201.out | refine below_set ?_ GE202.out | refine below_set ?_ GE211.out | refine below_set ?_ GE217.out) | exact HB.out)) hb); clear HO_18; clear BK200; clear BK201; clear BK202; clear BK211; clear BK217; clear HB; have HO_18 := n0_; have BK200 := n1_; have BK201 := n2_; have BK202 := n3_; have BK211 := n4_; have BK217 := n5_; have HB := n6_; clear n0_ n1_ n2_ n3_ n4_ n5_ n6_; (try clear hb); (try clear hb2); (try clear hk); (try clear hi); have hcz43_0 : w42.cell? ⟨gb211, 0, none⟩ = some (.int .i64 ((rd_T57 y203 x20_1).f0)) := (blk_cell BK211.out 0).trans rfl; have hcz43_1 : w42.cell? ⟨gb211, 1, none⟩ = some (.int .u8 ((rd_T57 y203 x20_1).f1)) := (blk_cell BK211.out 1).trans rfl; have hcz43_2 : w42.cell? ⟨gb211, 2, none⟩ = some (.int .i64 ((rd_T57 y203 x20_1).f2)) := (blk_cell BK211.out 2).trans rfl; have hfz43_0 := blk_frozen BK211.out 0; have hfz43_1 := blk_frozen BK211.out 1; have hfz43_2 := blk_frozen BK211.out 2; have hnb44 := NB202_201.out; have hnc44 := NB201_202.out; have hcz45_0 : w42.cell? ⟨gb202, 0, none⟩ = some (.int .i64 x203000_1) := (blk_cell BK202.out 0).trans rfl; have hcz45_1 : w42.cell? ⟨gb202, 1, none⟩ = some (.int .i64 x203001_1) := (blk_cell BK202.out 1).trans rfl; have hcz45_2 : w42.cell? ⟨gb202, 2, none⟩ = some (.int .i64 x203002_1) := (blk_cell BK202.out 2).trans rfl; have hfz45_0 := blk_frozen BK202.out 0; have hfz45_1 := blk_frozen BK202.out 1; have hfz45_2 := blk_frozen BK202.out 2))
              refine bodyPost_ret (results_ct rfl _ _ gb202 35 #[.int .i64 ((rd_T57 y203 x20_1).f0), .int .i64 t218, .int .i64 t219] (0, 0) _ rfl (by (with_reducible repeat (first | refine blk_drewN ?_ _ | refine blk_drew ?_ | refine blk_alloc ?_ _)); refine blk_put (cs := #[.int .i64 ((rd_T57 y203 x20_1).f0), .int .i64 t218, .int .i64 x203002_1]) ?_ 2 _ rfl; (with_reducible repeat (first | refine blk_drewN ?_ _ | refine blk_drew ?_ | refine blk_alloc ?_ _)); refine blk_put (cs := #[.int .i64 ((rd_T57 y203 x20_1).f0), .int .i64 x203001_1, .int .i64 x203002_1]) ?_ 1 _ rfl; (with_reducible repeat (first | refine blk_drewN ?_ _ | refine blk_drew ?_ | refine blk_alloc ?_ _)); refine blk_put (cs := #[.int .i64 x203000_1, .int .i64 x203001_1, .int .i64 x203002_1]) ?_ 0 _ rfl; (with_reducible repeat (first | refine blk_drewN ?_ _ | refine blk_drew ?_ | refine blk_alloc ?_ _)); exact BK202.out) Try.underlying35 rfl (by kernel_rfl)) rfl ?_
              exact ⟨by first | rfl | (simp [errW_none, errW_some] <;> rfl) | (simp [*, errW_none, errW_some] <;> rfl), by repeat (first | (with_reducible first | exact HB.out | apply below_alloc | apply pw_below_drewN | apply below_drew1 | refine below_set ?_ GE200.out | refine below_set ?_ GE201.out | refine below_set ?_ GE202.out | refine below_set ?_ GE211.out | refine below_set ?_ GE217.out) | exact HB.out)⟩
            · replace c17 := Bool.eq_false_iff.mpr c17
              subst c17
              have H1 : (plan_next.l0 k1 y203 (y203.length : Int) (wrap64 (x20_1 + 1)) a0_0 a0_1 a0_2 a1_0 a1_1 a1_2 l1_3) = some (r1, r2, r3, r4) := by rw [if_neg (show ¬ (false = true) by decide)] at H; exact H
              clear H
              have H := H1
              clear H1
              have H' := Aside0.mk H
              clear H
              have p210 : 0 ≤ (x20_1 : Int) := of_decide_eq_true (by first | (with_reducible assumption) | assumption)
              have q210 : x20_1 < (y203.length : Int) := of_decide_eq_true (by first | (with_reducible assumption) | assumption)
              obtain ⟨ad210, e210, hx210_0, hx210_1, hx210_2⟩ := at_T57 (Kd.R_reads' HO_18.out).2.2 x20_1 p210 q210
              cases e210
              replace p210 := eq_true p210
              replace q210 := eq_true q210
              try go_wp2_with (first | ((with_reducible refine gate_dst (N := 7) rfl ?_); refine box_event ?hg (N := 7) ?hd (cs := #[.int .i64 0, .int .u8 0, .int .i64 0]) (t := 57) ?hr ?_; (case hd => rfl); (case hg => rfl); (case hr => first | (go_simp; done) | (go_simp; rfl)); intro gb211 hg w46 hbox hb; have n0_ := Aside0.mk (Kd.R_below (Kd.R_elderB (by (with_reducible repeat (first | apply Kd.R_alloc | apply Kd.R_drewN | apply Kd.R_drew)); exact HO_18.out) gb211 (Nat.le_of_eq hg.symm)) hb); have n1_ := Aside0.mk (blk_below (g := gb200) (o := .cells #[.int .i64 a0_0, .int .i64 a0_1, .bool a0_2] 26 (0, 0)) (by (with_reducible repeat (first | refine blk_drewN ?_ _ | refine blk_drew ?_ | refine blk_alloc ?_ _)); exact BK200.out) hb); have n2_ := Aside0.mk (blk_below (g := gb201) (o := .cells #[.int .i64 a1_0, .int .i64 a1_1, .int .u8 a1_2, .slice A1_3 l1_3.length c1_3] 30 (0, 0)) (by (with_reducible repeat (first | refine blk_drewN ?_ _ | refine blk_drew ?_ | refine blk_alloc ?_ _)); exact BK201.out) hb); have n3_ := Aside0.mk (blk_below (g := gb202) (o := .cells #[.int .i64 x203000_1, .int .i64 x203001_1, .int .i64 x203002_1] 35 (0, 0)) (by (with_reducible repeat (first | refine blk_drewN ?_ _ | refine blk_drew ?_ | refine blk_alloc ?_ _)); exact BK202.out) hb); have n4_ := Aside0.mk (below_step (by repeat (first | (with_reducible first | exact HB.out | apply below_alloc | apply pw_below_drewN | apply below_drew1 | refine below_set ?_ GE200.out | refine below_set ?_ GE201.out | refine below_set ?_ GE202.out) | exact HB.out)) hb); have n5_ := Aside0.mk (hbox); have n6_ := Aside0.mk ((by rw [hg]; exact (below_size (by repeat (first | (with_reducible first | exact HB.out | apply below_alloc | apply pw_below_drewN | apply below_drew1 | refine below_set ?_ GE200.out | refine below_set ?_ GE201.out | refine below_set ?_ GE202.out) | exact HB.out))) : w.heap.size ≤ gb211)); have n7_ := Aside0.mk ((by rw [hg]; exact (below_size (by repeat (first | (with_reducible first | exact HB.out | apply below_alloc | apply pw_below_drewN | apply below_drew1 | refine below_set ?_ GE200.out | refine below_set ?_ GE201.out | refine below_set ?_ GE202.out) | exact HB.out))) : w.heap.size ≤ gb211)); have n8_ := Aside0.mk ((by rw [hg]; exact Nat.ne_of_lt (blk_lt (g := gb200) (o := .cells #[.int .i64 a0_0, .int .i64 a0_1, .bool a0_2] 26 (0, 0)) (by (with_reducible repeat (first | refine blk_drewN ?_ _ | refine blk_drew ?_ | refine blk_alloc ?_ _)); exact BK200.out)) : gb200 ≠ gb211)); have n9_ := Aside0.mk ((by rw [hg]; exact Nat.ne_of_gt (blk_lt (g := gb200) (o := .cells #[.int .i64 a0_0, .int .i64 a0_1, .bool a0_2] 26 (0, 0)) (by (with_reducible repeat (first | refine blk_drewN ?_ _ | refine blk_drew ?_ | refine blk_alloc ?_ _)); exact BK200.out)) : gb211 ≠ gb200)); have n10_ := Aside0.mk ((by rw [hg]; exact Nat.ne_of_lt (blk_lt (g := gb201) (o := .cells #[.int .i64 a1_0, .int .i64 a1_1, .int .u8 a1_2, .slice A1_3 l1_3.length c1_3] 30 (0, 0)) (by (with_reducible repeat (first | refine blk_drewN ?_ _ | refine blk_drew ?_ | refine blk_alloc ?_ _)); exact BK201.out)) : gb201 ≠ gb211)); have n11_ := Aside0.mk ((by rw [hg]; exact Nat.ne_of_gt (blk_lt (g := gb201) (o := .cells #[.int .i64 a1_0, .int .i64 a1_1, .int .u8 a1_2, .slice A1_3 l1_3.length c1_3] 30 (0, 0)) (by (with_reducible repeat (first | refine blk_drewN ?_ _ | refine blk_drew ?_ | refine blk_alloc ?_ _)); exact BK201.out)) : gb211 ≠ gb201)); have n12_ := Aside0.mk ((by rw [hg]; exact Nat.ne_of_lt (blk_lt (g := gb202) (o := .cells #[.int .i64 x203000_1, .int .i64 x203001_1, .int .i64 x203002_1] 35 (0, 0)) (by (with_reducible repeat (first | refine blk_drewN ?_ _ | refine blk_drew ?_ | refine blk_alloc ?_ _)); exact BK202.out)) : gb202 ≠ gb211)); have n13_ := Aside0.mk ((by rw [hg]; exact Nat.ne_of_gt (blk_lt (g := gb202) (o := .cells #[.int .i64 x203000_1, .int .i64 x203001_1, .int .i64 x203002_1] 35 (0, 0)) (by (with_reducible repeat (first | refine blk_drewN ?_ _ | refine blk_drew ?_ | refine blk_alloc ?_ _)); exact BK202.out)) : gb211 ≠ gb202)); clear HO_18; clear BK200; clear BK201; clear BK202; clear HB; have HO_18 := n0_; have BK200 := n1_; have BK201 := n2_; have BK202 := n3_; have HB := n4_; have BK211 := n5_; have GW211 := n6_; have GE211 := n7_; have NB200_211 := n8_; have NB211_200 := n9_; have NB201_211 := n10_; have NB211_201 := n11_; have NB202_211 := n12_; have NB211_202 := n13_; clear n0_ n1_ n2_ n3_ n4_ n5_ n6_ n7_ n8_ n9_ n10_ n11_ n12_ n13_; clear hb hbox hg; have hnb47 := NB211_200.out; have hnc47 := NB200_211.out; have hnb48 := NB211_201.out; have hnc48 := NB201_211.out; have hnb49 := NB211_202.out; have hnc49 := NB202_211.out; have hcz50_0 : w46.cell? ⟨gb211, 0, none⟩ = some (.int .i64 0) := (blk_cell BK211.out 0).trans rfl; have hcz50_1 : w46.cell? ⟨gb211, 1, none⟩ = some (.int .u8 0) := (blk_cell BK211.out 1).trans rfl; have hcz50_2 : w46.cell? ⟨gb211, 2, none⟩ = some (.int .i64 0) := (blk_cell BK211.out 2).trans rfl; have hfz50_0 := blk_frozen BK211.out 0; have hfz50_1 := blk_frozen BK211.out 1; have hfz50_2 := blk_frozen BK211.out 2))
              have n0_ : Aside0 (Kd.R k57 57 (((w46.setCell ⟨gb211, 0, none⟩ (.int .i64 ((rd_T57 y203 x20_1).f0))).setCell ⟨gb211, 1, none⟩ (.int .u8 ((rd_T57 y203 x20_1).f1))).setCell ⟨gb211, 2, none⟩ (.int .i64 ((rd_T57 y203 x20_1).f2))) w.heap.size (fun k_ => k_ ≠ gb211) (.slice (some ad210) y203.length co11) y203) := ⟨by (with_reducible repeat (first | apply Kd.R_alloc | apply Kd.R_drewN | apply Kd.R_drew)); exact Kd.R_mono (Kd.R_far (p := ⟨gb211, 2, none⟩) (Kd.R_far (p := ⟨gb211, 1, none⟩) (Kd.R_far (p := ⟨gb211, 0, none⟩) (Kd.R_mono HO_18.out (fun k_ hk => (⟨hk, hk.2⟩ : _ ∧ k_ ≠ gb211))) (fun _ hk => hk.2) (.int .i64 ((rd_T57 y203 x20_1).f0))) (fun _ hk => hk.2) (.int .u8 ((rd_T57 y203 x20_1).f1))) (fun _ hk => hk.2) (.int .i64 ((rd_T57 y203 x20_1).f2))) (fun _ hk => hk.1.2)⟩
              have n1_ : Aside0 ((((w46.setCell ⟨gb211, 0, none⟩ (.int .i64 ((rd_T57 y203 x20_1).f0))).setCell ⟨gb211, 1, none⟩ (.int .u8 ((rd_T57 y203 x20_1).f1))).setCell ⟨gb211, 2, none⟩ (.int .i64 ((rd_T57 y203 x20_1).f2))).heap[gb200]? = some (.cells #[.int .i64 a0_0, .int .i64 a0_1, .bool a0_2] 26 (0, 0))) := ⟨by (with_reducible repeat (first | refine blk_drewN ?_ _ | refine blk_drew ?_ | refine blk_alloc ?_ _)); refine blk_far ?_ NB200_211.out _; (with_reducible repeat (first | refine blk_drewN ?_ _ | refine blk_drew ?_ | refine blk_alloc ?_ _)); refine blk_far ?_ NB200_211.out _; (with_reducible repeat (first | refine blk_drewN ?_ _ | refine blk_drew ?_ | refine blk_alloc ?_ _)); refine blk_far ?_ NB200_211.out _; (with_reducible repeat (first | refine blk_drewN ?_ _ | refine blk_drew ?_ | refine blk_alloc ?_ _)); exact BK200.out⟩
              have n2_ : Aside0 ((((w46.setCell ⟨gb211, 0, none⟩ (.int .i64 ((rd_T57 y203 x20_1).f0))).setCell ⟨gb211, 1, none⟩ (.int .u8 ((rd_T57 y203 x20_1).f1))).setCell ⟨gb211, 2, none⟩ (.int .i64 ((rd_T57 y203 x20_1).f2))).heap[gb201]? = some (.cells #[.int .i64 a1_0, .int .i64 a1_1, .int .u8 a1_2, .slice A1_3 l1_3.length c1_3] 30 (0, 0))) := ⟨by (with_reducible repeat (first | refine blk_drewN ?_ _ | refine blk_drew ?_ | refine blk_alloc ?_ _)); refine blk_far ?_ NB201_211.out _; (with_reducible repeat (first | refine blk_drewN ?_ _ | refine blk_drew ?_ | refine blk_alloc ?_ _)); refine blk_far ?_ NB201_211.out _; (with_reducible repeat (first | refine blk_drewN ?_ _ | refine blk_drew ?_ | refine blk_alloc ?_ _)); refine blk_far ?_ NB201_211.out _; (with_reducible repeat (first | refine blk_drewN ?_ _ | refine blk_drew ?_ | refine blk_alloc ?_ _)); exact BK201.out⟩
              have n3_ : Aside0 ((((w46.setCell ⟨gb211, 0, none⟩ (.int .i64 ((rd_T57 y203 x20_1).f0))).setCell ⟨gb211, 1, none⟩ (.int .u8 ((rd_T57 y203 x20_1).f1))).setCell ⟨gb211, 2, none⟩ (.int .i64 ((rd_T57 y203 x20_1).f2))).heap[gb202]? = some (.cells #[.int .i64 x203000_1, .int .i64 x203001_1, .int .i64 x203002_1] 35 (0, 0))) := ⟨by (with_reducible repeat (first | refine blk_drewN ?_ _ | refine blk_drew ?_ | refine blk_alloc ?_ _)); refine blk_far ?_ NB202_211.out _; (with_reducible repeat (first | refine blk_drewN ?_ _ | refine blk_drew ?_ | refine blk_alloc ?_ _)); refine blk_far ?_ NB202_211.out _; (with_reducible repeat (first | refine blk_drewN ?_ _ | refine blk_drew ?_ | refine blk_alloc ?_ _)); refine blk_far ?_ NB202_211.out _; (with_reducible repeat (first | refine blk_drewN ?_ _ | refine blk_drew ?_ | refine blk_alloc ?_ _)); exact BK202.out⟩
              have n4_ : Aside0 ((((w46.setCell ⟨gb211, 0, none⟩ (.int .i64 ((rd_T57 y203 x20_1).f0))).setCell ⟨gb211, 1, none⟩ (.int .u8 ((rd_T57 y203 x20_1).f1))).setCell ⟨gb211, 2, none⟩ (.int .i64 ((rd_T57 y203 x20_1).f2))).heap[gb211]? = some (.cells #[.int .i64 ((rd_T57 y203 x20_1).f0), .int .u8 ((rd_T57 y203 x20_1).f1), .int .i64 ((rd_T57 y203 x20_1).f2)] 57 (0, 0))) := ⟨by (with_reducible repeat (first | refine blk_drewN ?_ _ | refine blk_drew ?_ | refine blk_alloc ?_ _)); refine blk_put (cs := #[.int .i64 ((rd_T57 y203 x20_1).f0), .int .u8 ((rd_T57 y203 x20_1).f1), .int .i64 0]) ?_ 2 _ rfl; (with_reducible repeat (first | refine blk_drewN ?_ _ | refine blk_drew ?_ | refine blk_alloc ?_ _)); refine blk_put (cs := #[.int .i64 ((rd_T57 y203 x20_1).f0), .int .u8 0, .int .i64 0]) ?_ 1 _ rfl; (with_reducible repeat (first | refine blk_drewN ?_ _ | refine blk_drew ?_ | refine blk_alloc ?_ _)); refine blk_put (cs := #[.int .i64 0, .int .u8 0, .int .i64 0]) ?_ 0 _ rfl; (with_reducible repeat (first | refine blk_drewN ?_ _ | refine blk_drew ?_ | refine blk_alloc ?_ _)); exact BK211.out⟩
              have n5_ : Aside0 (Below w.heap.size w (((w46.setCell ⟨gb211, 0, none⟩ (.int .i64 ((rd_T57 y203 x20_1).f0))).setCell ⟨gb211, 1, none⟩ (.int .u8 ((rd_T57 y203 x20_1).f1))).setCell ⟨gb211, 2, none⟩ (.int .i64 ((rd_T57 y203 x20_1).f2)))) := ⟨by repeat (first | (with_reducible first | exact HB.out | apply below_alloc | apply pw_below_drewN | apply below_drew1 | refine below_set ?_ GE200.out | refine below_set ?_ GE201.out | refine below_set ?_ GE202.out | refine below_set ?_ GE211.out) | exact HB.out)⟩
              (try clear HO_18)
              (try clear BK200)
              (try clear BK201)
              (try clear BK202)
              (try clear BK211)
              (try clear HB)
              generalize (((w46.setCell ⟨gb211, 0, none⟩ (.int .i64 ((rd_T57 y203 x20_1).f0))).setCell ⟨gb211, 1, none⟩ (.int .u8 ((rd_T57 y203 x20_1).f1))).setCell ⟨gb211, 2, none⟩ (.int .i64 ((rd_T57 y203 x20_1).f2))) = w51 at n0_ n1_ n2_ n3_ n4_ n5_ ⊢
              have HO_18 := n0_
              have BK200 := n1_
              have BK201 := n2_
              have BK202 := n3_
              have BK211 := n4_
              have HB := n5_
              clear n0_ n1_ n2_ n3_ n4_ n5_
              have n0_ := Aside0.mk (Kd.R_drew HO_18.out)
              have n1_ := Aside0.mk (blk_drew BK200.out)
              have n2_ := Aside0.mk (blk_drew BK201.out)
              have n3_ := Aside0.mk (blk_drew BK202.out)
              have n4_ := Aside0.mk (blk_drew BK211.out)
              have n5_ := Aside0.mk (below_drew1 HB.out)
              clear HO_18
              clear BK200
              clear BK201
              clear BK202
              clear BK211
              clear HB
              have HO_18 := n0_
              have BK200 := n1_
              have BK201 := n2_
              have BK202 := n3_
              have BK211 := n4_
              have HB := n5_
              clear n0_ n1_ n2_ n3_ n4_ n5_
              refine start_ (n := 14) (S := fun w' => w'.cell? ⟨gb200, 0, none⟩ = some (.int .i64 a0_0) ∧ w'.cell? ⟨gb200, 1, none⟩ = some (.int .i64 a0_1) ∧ w'.cell? ⟨gb200, 2, none⟩ = some (.bool a0_2) ∧ w'.cell? ⟨gb201, 0, none⟩ = some (.int .i64 a1_0) ∧ w'.cell? ⟨gb201, 1, none⟩ = some (.int .i64 a1_1) ∧ w'.cell? ⟨gb201, 2, none⟩ = some (.int .u8 a1_2) ∧ w'.cell? ⟨gb201, 3, none⟩ = some (.slice A1_3 l1_3.length c1_3) ∧ w'.cell? ⟨gb211, 0, none⟩ = some (.int .i64 ((rd_T57 y203 x20_1).f0)) ∧ w'.cell? ⟨gb211, 1, none⟩ = some (.int .u8 ((rd_T57 y203 x20_1).f1)) ∧ w'.cell? ⟨gb211, 2, none⟩ = some (.int .i64 ((rd_T57 y203 x20_1).f2))) (ds := []) #[false, false, false, false, false, false, false, false, false, false, false, false, false, false] (by kernel_rfl) rfl rfl ⟨(blk_cell BK200.out 0).trans rfl, (blk_cell BK200.out 1).trans rfl, (blk_cell BK200.out 2).trans rfl, (blk_cell BK201.out 0).trans rfl, (blk_cell BK201.out 1).trans rfl, (blk_cell BK201.out 2).trans rfl, (blk_cell BK201.out 3).trans rfl, (blk_cell BK211.out 0).trans rfl, (blk_cell BK211.out 1).trans rfl, (blk_cell BK211.out 2).trans rfl⟩ (fun hHeld => ?_); refine with_tabW plan_next.tab4 plan_next.bits4 (fun HT_ HW_ => ?_)
              generalize w51.drew = w52 at HO_18 BK200 BK201 BK202 BK211 HB hHeld ⊢
              refine pure_ (i := 2) (N := some 27) (v := ?_) (a' := ?_) #[false, false, true, false, false, false, false, false, false, false, false, false, false, false] rfl rfl (any_of HT_.out (by kernel_rfl)) (fun _ _ _ h => h) (Or.inl ⟨by rfl, ?_⟩) ?_ ?_
              rotate_left
              · intro w'
                go_simp
                with_reducible rfl
              rotate_left
              · simp only [Act.put, List.setIfInBounds_toArray, List.set_cons_zero, List.set_cons_succ, i64_w, i32_w]
                rfl
              refine take_ (i := 0) (N := some 25) (v := ?_) (a' := ?_) #[true, false, true, false, false, false, false, false, false, false, false, false, false, false] rfl rfl (take_ofW HT_.out HW_.out (by kernel_rfl)) (fun _ _ _ h => h) (Or.inl ⟨by rfl, ?_⟩) hHeld ?_ ?_
              rotate_left
              · rintro w' ⟨s0, s1, s2, s3, s4, s5, s6, s7, s8, s9⟩
                go_simp
                with_reducible rfl
              rotate_left
              · simp only [Act.put, List.setIfInBounds_toArray, List.set_cons_zero, List.set_cons_succ, i64_w, i32_w]
                rfl
              refine take_ (i := 1) (N := some 26) (v := ?_) (a' := ?_) #[true, true, true, false, false, false, false, false, false, false, false, false, false, false] rfl rfl (take_ofW HT_.out HW_.out (by kernel_rfl)) (fun _ _ _ h => h) (Or.inl ⟨by rfl, ?_⟩) hHeld ?_ ?_
              rotate_left
              · rintro w' ⟨s0, s1, s2, s3, s4, s5, s6, s7, s8, s9⟩
                go_simp
                with_reducible rfl
              rotate_left
              · simp only [Act.put, List.setIfInBounds_toArray, List.set_cons_zero, List.set_cons_succ, i64_w, i32_w]
                rfl
              refine take_ (i := 3) (N := some 28) (v := ?_) (a' := ?_) #[true, true, true, true, false, false, false, false, false, false, false, false, false, false] rfl rfl (take_ofW HT_.out HW_.out (by kernel_rfl)) (fun _ _ _ h => h) (Or.inl ⟨by rfl, ?_⟩) hHeld ?_ ?_
              rotate_left
              · rintro w' ⟨s0, s1, s2, s3, s4, s5, s6, s7, s8, s9⟩
                go_simp
                with_reducible rfl
              rotate_left
              · simp only [Act.put, List.setIfInBounds_toArray, List.set_cons_zero, List.set_cons_succ, i64_w, i32_w]
                rfl
              refine take_ (i := 4) (N := some 29) (v := ?_) (a' := ?_) #[true, true, true, true, true, false, false, false, false, false, false, false, false, false] rfl rfl (take_ofW HT_.out HW_.out (by kernel_rfl)) (fun _ _ _ h => h) (Or.inl ⟨by rfl, ?_⟩) hHeld ?_ ?_
              rotate_left
              · rintro w' ⟨s0, s1, s2, s3, s4, s5, s6, s7, s8, s9⟩
                go_simp
                with_reducible rfl
              rotate_left
              · simp only [Act.put, List.setIfInBounds_toArray, List.set_cons_zero, List.set_cons_succ, i64_w, i32_w]
                rfl
              refine take_ (i := 5) (N := some 30) (v := ?_) (a' := ?_) #[true, true, true, true, true, true, false, false, false, false, false, false, false, false] rfl rfl (take_ofW HT_.out HW_.out (by kernel_rfl)) (fun _ _ _ h => h) (Or.inl ⟨by rfl, ?_⟩) hHeld ?_ ?_
              rotate_left
              · rintro w' ⟨s0, s1, s2, s3, s4, s5, s6, s7, s8, s9⟩
                go_simp
                with_reducible rfl
              rotate_left
              · simp only [Act.put, List.setIfInBounds_toArray, List.set_cons_zero, List.set_cons_succ, i64_w, i32_w]
                rfl
              refine join_ (σ := Nat) 2 #[true, true, true, true, true, true, true, true, true, true, true, true, false, false] (fun s_ => [(31, .int .i64 t212), (32, .tuple #[.agg #[.int .i64 t213, .int .i64 t214, .int .u8 t215], .bool false]), (8, .pointer (some ⟨s_, 0, none⟩)), (24, .tuple #[.agg #[.int .i64 t213, .int .i64 t214, .int .u8 t215], .bool false]), (33, .agg #[.int .i64 t213, .int .i64 t214, .int .u8 t215]), (34, .bool false)]) (fun s_ w' => (w'.cell? ⟨gb200, 0, none⟩ = some (.int .i64 a0_0) ∧ w'.cell? ⟨gb200, 1, none⟩ = some (.int .i64 a0_1) ∧ w'.cell? ⟨gb200, 2, none⟩ = some (.bool a0_2) ∧ w'.cell? ⟨gb201, 0, none⟩ = some (.int .i64 a1_0) ∧ w'.cell? ⟨gb201, 1, none⟩ = some (.int .i64 a1_1) ∧ w'.cell? ⟨gb201, 2, none⟩ = some (.int .u8 a1_2) ∧ w'.cell? ⟨gb201, 3, none⟩ = some (.slice A1_3 l1_3.length c1_3) ∧ w'.cell? ⟨gb211, 0, none⟩ = some (.int .i64 ((rd_T57 y203 x20_1).f0)) ∧ w'.cell? ⟨gb211, 1, none⟩ = some (.int .u8 ((rd_T57 y203 x20_1).f1)) ∧ w'.cell? ⟨gb211, 2, none⟩ = some (.int .i64 ((rd_T57 y203 x20_1).f2))) ∧ (Kd.R k57 57 w' w.heap.size (fun k_ => k_ ≠ gb211) (.slice (some ad210) y203.length co11) y203) ∧ (w'.heap[gb200]? = some (.cells #[.int .i64 a0_0, .int .i64 a0_1, .bool a0_2] 26 (0, 0))) ∧ (w'.heap[gb201]? = some (.cells #[.int .i64 a1_0, .int .i64 a1_1, .int .u8 a1_2, .slice A1_3 l1_3.length c1_3] 30 (0, 0))) ∧ (w'.heap[gb202]? = some (.cells #[.int .i64 x203000_1, .int .i64 x203001_1, .int .i64 x203002_1] 35 (0, 0))) ∧ (w'.heap[gb211]? = some (.cells #[.int .i64 ((rd_T57 y203 x20_1).f0), .int .u8 ((rd_T57 y203 x20_1).f1), .int .i64 ((rd_T57 y203 x20_1).f2)] 57 (0, 0))) ∧ (w'.heap[s_]? = some (.cells #[.int .i64 0, .int .i64 0, .int .u8 0] 56 (0, 0))) ∧ (w.heap.size ≤ s_) ∧ (w.heap.size ≤ s_) ∧ (gb200 ≠ s_) ∧ (s_ ≠ gb200) ∧ (gb201 ≠ s_) ∧ (s_ ≠ gb201) ∧ (gb202 ≠ s_) ∧ (s_ ≠ gb202) ∧ (gb211 ≠ s_) ∧ (s_ ≠ gb211) ∧ (Below w.heap.size w w')) ?_ ?_
              rotate_left
              · intro hCont
                refine two_ (i := 6) (j := 11) (Ni := some 31) (Nj := some 8) #[true, true, true, true, true, true, true, false, false, false, false, false, false, false] #[true, true, true, true, true, true, false, false, false, false, false, true, false, false] rfl rfl rfl rfl (two_of HT_.out (by kernel_rfl)) (by decide) (by decide) (fun K hK => ?_) (fun K hK => ?_)
                · skip
                  refine goes_ Try.func27 (by kernel_rfl) rfl #[.agg #[.int .i64 a0_0, .int .i64 a0_1, .bool a0_2], .agg #[.int .i64 a1_0, .int .i64 a1_1, .int .u8 a1_2, .slice A1_3 l1_3.length c1_3]] (by rfl) rfl rfl (by (try simp only [List.map_toArray, List.map_cons, List.map_nil]); first | done | rfl | (simp only [List.length_drop, List.length_take]; rfl)) ?_
                  with_reducible refine (plan_edge.calls a0_0 a0_1 a0_2 a1_0 a1_1 a1_2 _ _ l1_3 t212 _ ?side1 ?side2 A15.out).mono ?_
                  (case side1 => repeat (first | exact (Kd.C_below HR1_3.out HB.out) | (with_reducible refine Kd.C_alloc ?_ _) | (with_reducible refine Kd.C_drewN ?_ _) | (with_reducible refine Kd.C_drew ?_)))
                  (case side2 => exact HC1_3.out)
                  rintro e w53 ⟨rfl, hb⟩
                  refine ⟨_, rfl, ?_⟩
                  have n0_ := Aside0.mk (Kd.R_below (by (with_reducible repeat (first | apply Kd.R_alloc | apply Kd.R_drewN | apply Kd.R_drew)); exact HO_18.out) hb)
                  have n1_ := Aside0.mk (blk_below (g := gb200) (o := .cells #[.int .i64 a0_0, .int .i64 a0_1, .bool a0_2] 26 (0, 0)) (by (with_reducible repeat (first | refine blk_drewN ?_ _ | refine blk_drew ?_ | refine blk_alloc ?_ _)); exact BK200.out) hb)
                  have n2_ := Aside0.mk (blk_below (g := gb201) (o := .cells #[.int .i64 a1_0, .int .i64 a1_1, .int .u8 a1_2, .slice A1_3 l1_3.length c1_3] 30 (0, 0)) (by (with_reducible repeat (first | refine blk_drewN ?_ _ | refine blk_drew ?_ | refine blk_alloc ?_ _)); exact BK201.out) hb)
                  have n3_ := Aside0.mk (blk_below (g := gb202) (o := .cells #[.int .i64 x203000_1, .int .i64 x203001_1, .int .i64 x203002_1] 35 (0, 0)) (by (with_reducible repeat (first | refine blk_drewN ?_ _ | refine blk_drew ?_ | refine blk_alloc ?_ _)); exact BK202.out) hb)
                  have n4_ := Aside0.mk (blk_below (g := gb211) (o := .cells #[.int .i64 ((rd_T57 y203 x20_1).f0), .int .u8 ((rd_T57 y203 x20_1).f1), .int .i64 ((rd_T57 y203 x20_1).f2)] 57 (0, 0)) (by (with_reducible repeat (first | refine blk_drewN ?_ _ | refine blk_drew ?_ | refine blk_alloc ?_ _)); exact BK211.out) hb)
                  have n5_ := Aside0.mk (below_step (by repeat (first | (with_reducible first | exact HB.out | apply below_alloc | apply pw_below_drewN | apply below_drew1 | refine below_set ?_ GE200.out | refine below_set ?_ GE201.out | refine below_set ?_ GE202.out | refine below_set ?_ GE211.out) | exact HB.out)) hb)
                  clear HO_18
                  clear BK200
                  clear BK201
                  clear BK202
                  clear BK211
                  clear HB
                  have HO_18 := n0_
                  have BK200 := n1_
                  have BK201 := n2_
                  have BK202 := n3_
                  have BK211 := n4_
                  have HB := n5_
                  clear n0_ n1_ n2_ n3_ n4_ n5_
                  (try clear hb)
                  (try clear hb2)
                  (try clear hk)
                  (try clear hi)
                  refine hK.out _ _ ⟨(blk_cell BK200.out 0).trans rfl, (blk_cell BK200.out 1).trans rfl, (blk_cell BK200.out 2).trans rfl, (blk_cell BK201.out 0).trans rfl, (blk_cell BK201.out 1).trans rfl, (blk_cell BK201.out 2).trans rfl, (blk_cell BK201.out 3).trans rfl, (blk_cell BK211.out 0).trans rfl, (blk_cell BK211.out 1).trans rfl, (blk_cell BK211.out 2).trans rfl⟩ (fun hHeld => ?_)
                  clear hK K
                  refine norm_ (a' := ?_) ?_ ?_
                  rotate_left
                  · show Act.put _ (some 31) _ = _
                    simp only [Act.put, List.setIfInBounds_toArray, List.set_cons_zero, List.set_cons_succ, i64_w, i32_w]
                    rfl
                  refine two_ (i := 7) (j := 11) (Ni := some 32) (Nj := some 8) #[true, true, true, true, true, true, true, true, false, false, false, false, false, false] #[true, true, true, true, true, true, true, false, false, false, false, true, false, false] rfl rfl rfl rfl (two_of HT_.out (by kernel_rfl)) (by decide) (by decide) (fun K hK => ?_) (fun K hK => ?_)
                  · skip
                    refine goes_ Try.func26 (by kernel_rfl) rfl #[.agg #[.int .i64 a0_0, .int .i64 a0_1, .bool a0_2], .agg #[.int .i64 a1_0, .int .i64 a1_1, .int .u8 a1_2, .slice A1_3 l1_3.length c1_3], .int .u8 ((rd_T57 y203 x20_1).f1), .int .i64 t212] (by rfl) rfl rfl (by (try simp only [List.map_toArray, List.map_cons, List.map_nil]); first | done | rfl | (simp only [List.length_drop, List.length_take]; rfl)) ?_
                    with_reducible refine (plan_seek.calls k1 a0_0 a0_1 a0_2 a1_0 a1_1 a1_2 _ _ l1_3 ((rd_T57 y203 x20_1).f1) t212 t213 t214 t215 false _ ?side1 ?side2 A16.out).mono ?_
                    (case side1 => repeat (first | exact (Kd.C_below HR1_3.out HB.out) | (with_reducible refine Kd.C_alloc ?_ _) | (with_reducible refine Kd.C_drewN ?_ _) | (with_reducible refine Kd.C_drew ?_)))
                    (case side2 => exact HC1_3.out)
                    rintro e w54 ⟨rfl, hb⟩
                    refine ⟨_, rfl, ?_⟩
                    have n0_ := Aside0.mk (Kd.R_below (by (with_reducible repeat (first | apply Kd.R_alloc | apply Kd.R_drewN | apply Kd.R_drew)); exact HO_18.out) hb)
                    have n1_ := Aside0.mk (blk_below (g := gb200) (o := .cells #[.int .i64 a0_0, .int .i64 a0_1, .bool a0_2] 26 (0, 0)) (by (with_reducible repeat (first | refine blk_drewN ?_ _ | refine blk_drew ?_ | refine blk_alloc ?_ _)); exact BK200.out) hb)
                    have n2_ := Aside0.mk (blk_below (g := gb201) (o := .cells #[.int .i64 a1_0, .int .i64 a1_1, .int .u8 a1_2, .slice A1_3 l1_3.length c1_3] 30 (0, 0)) (by (with_reducible repeat (first | refine blk_drewN ?_ _ | refine blk_drew ?_ | refine blk_alloc ?_ _)); exact BK201.out) hb)
                    have n3_ := Aside0.mk (blk_below (g := gb202) (o := .cells #[.int .i64 x203000_1, .int .i64 x203001_1, .int .i64 x203002_1] 35 (0, 0)) (by (with_reducible repeat (first | refine blk_drewN ?_ _ | refine blk_drew ?_ | refine blk_alloc ?_ _)); exact BK202.out) hb)
                    have n4_ := Aside0.mk (blk_below (g := gb211) (o := .cells #[.int .i64 ((rd_T57 y203 x20_1).f0), .int .u8 ((rd_T57 y203 x20_1).f1), .int .i64 ((rd_T57 y203 x20_1).f2)] 57 (0, 0)) (by (with_reducible repeat (first | refine blk_drewN ?_ _ | refine blk_drew ?_ | refine blk_alloc ?_ _)); exact BK211.out) hb)
                    have n5_ := Aside0.mk (below_step (by repeat (first | (with_reducible first | exact HB.out | apply below_alloc | apply pw_below_drewN | apply below_drew1 | refine below_set ?_ GE200.out | refine below_set ?_ GE201.out | refine below_set ?_ GE202.out | refine below_set ?_ GE211.out) | exact HB.out)) hb)
                    clear HO_18
                    clear BK200
                    clear BK201
                    clear BK202
                    clear BK211
                    clear HB
                    have HO_18 := n0_
                    have BK200 := n1_
                    have BK201 := n2_
                    have BK202 := n3_
                    have BK211 := n4_
                    have HB := n5_
                    clear n0_ n1_ n2_ n3_ n4_ n5_
                    (try clear hb)
                    (try clear hb2)
                    (try clear hk)
                    (try clear hi)
                    refine hK.out _ _ ⟨(blk_cell BK200.out 0).trans rfl, (blk_cell BK200.out 1).trans rfl, (blk_cell BK200.out 2).trans rfl, (blk_cell BK201.out 0).trans rfl, (blk_cell BK201.out 1).trans rfl, (blk_cell BK201.out 2).trans rfl, (blk_cell BK201.out 3).trans rfl, (blk_cell BK211.out 0).trans rfl, (blk_cell BK211.out 1).trans rfl, (blk_cell BK211.out 2).trans rfl⟩ (fun hHeld => ?_)
                    clear hK K
                    refine norm_ (a' := ?_) ?_ ?_
                    rotate_left
                    · show Act.put _ (some 32) _ = _
                      simp only [Act.put, List.setIfInBounds_toArray, List.set_cons_zero, List.set_cons_succ, i64_w, i32_w]
                      rfl
                    refine pure_ (i := 8) (N := some 24) (v := ?_) (a' := ?_) #[true, true, true, true, true, true, true, true, true, false, false, false, false, false] rfl rfl (any_of HT_.out (by kernel_rfl)) (fun _ _ _ h => h) (Or.inl ⟨by rfl, ?_⟩) ?_ ?_
                    rotate_left
                    · intro w'
                      go_simp
                      with_reducible rfl
                    rotate_left
                    · simp only [Act.put, List.setIfInBounds_toArray, List.set_cons_zero, List.set_cons_succ, i64_w, i32_w]
                      rfl
                    refine pure_ (i := 9) (N := some 33) (v := ?_) (a' := ?_) #[true, true, true, true, true, true, true, true, true, true, false, false, false, false] rfl rfl (any_of HT_.out (by kernel_rfl)) (fun _ _ _ h => h) (Or.inl ⟨by rfl, ?_⟩) ?_ ?_
                    rotate_left
                    · intro w'
                      go_simp
                      with_reducible rfl
                    rotate_left
                    · simp only [Act.put, List.setIfInBounds_toArray, List.set_cons_zero, List.set_cons_succ, i64_w, i32_w]
                      rfl
                    refine pure_ (i := 10) (N := some 34) (v := ?_) (a' := ?_) #[true, true, true, true, true, true, true, true, true, true, true, false, false, false] rfl rfl (any_of HT_.out (by kernel_rfl)) (fun _ _ _ h => h) (Or.inl ⟨by rfl, ?_⟩) ?_ ?_
                    rotate_left
                    · intro w'
                      go_simp
                      with_reducible rfl
                    rotate_left
                    · simp only [Act.put, List.setIfInBounds_toArray, List.set_cons_zero, List.set_cons_succ, i64_w, i32_w]
                      rfl
                    refine one_ (i := 11) (N := some 8) #[true, true, true, true, true, true, true, true, true, true, true, true, false, false] rfl rfl (one_of HT_.out (by kernel_rfl)) (by decide) (fun K hK => ?_)
                    refine box_step ?hg (N := 8) ?hd (cs := #[.int .i64 0, .int .i64 0, .int .u8 0]) (t := 56) ?hr ?_; (case hd => rfl); (case hg => rfl); (case hr => first | (go_simp; done) | (go_simp; rfl))
                    intro gb217 hg w55 hbox hb
                    have n0_ := Aside0.mk (Kd.R_below (by (with_reducible repeat (first | apply Kd.R_alloc | apply Kd.R_drewN | apply Kd.R_drew)); exact HO_18.out) hb)
                    have n1_ := Aside0.mk (blk_below (g := gb200) (o := .cells #[.int .i64 a0_0, .int .i64 a0_1, .bool a0_2] 26 (0, 0)) (by (with_reducible repeat (first | refine blk_drewN ?_ _ | refine blk_drew ?_ | refine blk_alloc ?_ _)); exact BK200.out) hb)
                    have n2_ := Aside0.mk (blk_below (g := gb201) (o := .cells #[.int .i64 a1_0, .int .i64 a1_1, .int .u8 a1_2, .slice A1_3 l1_3.length c1_3] 30 (0, 0)) (by (with_reducible repeat (first | refine blk_drewN ?_ _ | refine blk_drew ?_ | refine blk_alloc ?_ _)); exact BK201.out) hb)
                    have n3_ := Aside0.mk (blk_below (g := gb202) (o := .cells #[.int .i64 x203000_1, .int .i64 x203001_1, .int .i64 x203002_1] 35 (0, 0)) (by (with_reducible repeat (first | refine blk_drewN ?_ _ | refine blk_drew ?_ | refine blk_alloc ?_ _)); exact BK202.out) hb)
                    have n4_ := Aside0.mk (blk_below (g := gb211) (o := .cells #[.int .i64 ((rd_T57 y203 x20_1).f0), .int .u8 ((rd_T57 y203 x20_1).f1), .int .i64 ((rd_T57 y203 x20_1).f2)] 57 (0, 0)) (by (with_reducible repeat (first | refine blk_drewN ?_ _ | refine blk_drew ?_ | refine blk_alloc ?_ _)); exact BK211.out) hb)
                    have n5_ := Aside0.mk (below_step (by repeat (first | (with_reducible first | exact HB.out | apply below_alloc | apply pw_below_drewN | apply below_drew1 | refine below_set ?_ GE200.out | refine below_set ?_ GE201.out | refine below_set ?_ GE202.out | refine below_set ?_ GE211.out) | exact HB.out)) hb)
                    have n6_ := Aside0.mk (hbox)
                    have n7_ := Aside0.mk ((by rw [hg]; exact (below_size (by repeat (first | (with_reducible first | exact HB.out | apply below_alloc | apply pw_below_drewN | apply below_drew1 | refine below_set ?_ GE200.out | refine below_set ?_ GE201.out | refine below_set ?_ GE202.out | refine below_set ?_ GE211.out) | exact HB.out))) : w.heap.size ≤ gb217))
                    have n8_ := Aside0.mk ((by rw [hg]; exact (below_size (by repeat (first | (with_reducible first | exact HB.out | apply below_alloc | apply pw_below_drewN | apply below_drew1 | refine below_set ?_ GE200.out | refine below_set ?_ GE201.out | refine below_set ?_ GE202.out | refine below_set ?_ GE211.out) | exact HB.out))) : w.heap.size ≤ gb217))
                    have n9_ := Aside0.mk ((by rw [hg]; exact Nat.ne_of_lt (blk_lt (g := gb200) (o := .cells #[.int .i64 a0_0, .int .i64 a0_1, .bool a0_2] 26 (0, 0)) (by (with_reducible repeat (first | refine blk_drewN ?_ _ | refine blk_drew ?_ | refine blk_alloc ?_ _)); exact BK200.out)) : gb200 ≠ gb217))
                    have n10_ := Aside0.mk ((by rw [hg]; exact Nat.ne_of_gt (blk_lt (g := gb200) (o := .cells #[.int .i64 a0_0, .int .i64 a0_1, .bool a0_2] 26 (0, 0)) (by (with_reducible repeat (first | refine blk_drewN ?_ _ | refine blk_drew ?_ | refine blk_alloc ?_ _)); exact BK200.out)) : gb217 ≠ gb200))
                    have n11_ := Aside0.mk ((by rw [hg]; exact Nat.ne_of_lt (blk_lt (g := gb201) (o := .cells #[.int .i64 a1_0, .int .i64 a1_1, .int .u8 a1_2, .slice A1_3 l1_3.length c1_3] 30 (0, 0)) (by (with_reducible repeat (first | refine blk_drewN ?_ _ | refine blk_drew ?_ | refine blk_alloc ?_ _)); exact BK201.out)) : gb201 ≠ gb217))
                    have n12_ := Aside0.mk ((by rw [hg]; exact Nat.ne_of_gt (blk_lt (g := gb201) (o := .cells #[.int .i64 a1_0, .int .i64 a1_1, .int .u8 a1_2, .slice A1_3 l1_3.length c1_3] 30 (0, 0)) (by (with_reducible repeat (first | refine blk_drewN ?_ _ | refine blk_drew ?_ | refine blk_alloc ?_ _)); exact BK201.out)) : gb217 ≠ gb201))
                    have n13_ := Aside0.mk ((by rw [hg]; exact Nat.ne_of_lt (blk_lt (g := gb202) (o := .cells #[.int .i64 x203000_1, .int .i64 x203001_1, .int .i64 x203002_1] 35 (0, 0)) (by (with_reducible repeat (first | refine blk_drewN ?_ _ | refine blk_drew ?_ | refine blk_alloc ?_ _)); exact BK202.out)) : gb202 ≠ gb217))
                    have n14_ := Aside0.mk ((by rw [hg]; exact Nat.ne_of_gt (blk_lt (g := gb202) (o := .cells #[.int .i64 x203000_1, .int .i64 x203001_1, .int .i64 x203002_1] 35 (0, 0)) (by (with_reducible repeat (first | refine blk_drewN ?_ _ | refine blk_drew ?_ | refine blk_alloc ?_ _)); exact BK202.out)) : gb217 ≠ gb202))
                    have n15_ := Aside0.mk ((by rw [hg]; exact Nat.ne_of_lt (blk_lt (g := gb211) (o := .cells #[.int .i64 ((rd_T57 y203 x20_1).f0), .int .u8 ((rd_T57 y203 x20_1).f1), .int .i64 ((rd_T57 y203 x20_1).f2)] 57 (0, 0)) (by (with_reducible repeat (first | refine blk_drewN ?_ _ | refine blk_drew ?_ | refine blk_alloc ?_ _)); exact BK211.out)) : gb211 ≠ gb217))
                    have n16_ := Aside0.mk ((by rw [hg]; exact Nat.ne_of_gt (blk_lt (g := gb211) (o := .cells #[.int .i64 ((rd_T57 y203 x20_1).f0), .int .u8 ((rd_T57 y203 x20_1).f1), .int .i64 ((rd_T57 y203 x20_1).f2)] 57 (0, 0)) (by (with_reducible repeat (first | refine blk_drewN ?_ _ | refine blk_drew ?_ | refine blk_alloc ?_ _)); exact BK211.out)) : gb217 ≠ gb211))
                    clear HO_18
                    clear BK200
                    clear BK201
                    clear BK202
                    clear BK211
                    clear HB
                    have HO_18 := n0_
                    have BK200 := n1_
                    have BK201 := n2_
                    have BK202 := n3_
                    have BK211 := n4_
                    have HB := n5_
                    have BK217 := n6_
                    have GW217 := n7_
                    have GE217 := n8_
                    have NB200_217 := n9_
                    have NB217_200 := n10_
                    have NB201_217 := n11_
                    have NB217_201 := n12_
                    have NB202_217 := n13_
                    have NB217_202 := n14_
                    have NB211_217 := n15_
                    have NB217_211 := n16_
                    clear n0_ n1_ n2_ n3_ n4_ n5_ n6_ n7_ n8_ n9_ n10_ n11_ n12_ n13_ n14_ n15_ n16_
                    clear hb hbox hg
                    refine hK.out _ _ ⟨(blk_cell BK200.out 0).trans rfl, (blk_cell BK200.out 1).trans rfl, (blk_cell BK200.out 2).trans rfl, (blk_cell BK201.out 0).trans rfl, (blk_cell BK201.out 1).trans rfl, (blk_cell BK201.out 2).trans rfl, (blk_cell BK201.out 3).trans rfl, (blk_cell BK211.out 0).trans rfl, (blk_cell BK211.out 1).trans rfl, (blk_cell BK211.out 2).trans rfl⟩ (fun hHeld => ?_)
                    clear hK K
                    refine norm_ (a' := ?_) ?_ ?_
                    rotate_left
                    · show Act.put _ (some 8) _ = _
                      simp only [Act.put, List.setIfInBounds_toArray, List.set_cons_zero, List.set_cons_succ, i64_w, i32_w]
                      rfl
                    exact norm_ (by simp only [putAll, Act.put, List.setIfInBounds_toArray, List.set_cons_zero, List.set_cons_succ]) (hCont (gb217) _ ⟨hHeld, (by (with_reducible repeat (first | apply Kd.R_alloc | apply Kd.R_drewN | apply Kd.R_drew)); exact HO_18.out), (by (with_reducible repeat (first | refine blk_drewN ?_ _ | refine blk_drew ?_ | refine blk_alloc ?_ _)); exact BK200.out), (by (with_reducible repeat (first | refine blk_drewN ?_ _ | refine blk_drew ?_ | refine blk_alloc ?_ _)); exact BK201.out), (by (with_reducible repeat (first | refine blk_drewN ?_ _ | refine blk_drew ?_ | refine blk_alloc ?_ _)); exact BK202.out), (by (with_reducible repeat (first | refine blk_drewN ?_ _ | refine blk_drew ?_ | refine blk_alloc ?_ _)); exact BK211.out), (by (with_reducible repeat (first | refine blk_drewN ?_ _ | refine blk_drew ?_ | refine blk_alloc ?_ _)); exact BK217.out), GW217.out, GE217.out, NB200_217.out, NB217_200.out, NB201_217.out, NB217_201.out, NB202_217.out, NB217_202.out, NB211_217.out, NB217_211.out, (by repeat (first | (with_reducible first | exact HB.out | apply below_alloc | apply pw_below_drewN | apply below_drew1 | refine below_set ?_ GE200.out | refine below_set ?_ GE201.out | refine below_set ?_ GE202.out | refine below_set ?_ GE211.out | refine below_set ?_ GE217.out) | exact HB.out))⟩)
                  · skip
                    refine box_step ?hg (N := 8) ?hd (cs := #[.int .i64 0, .int .i64 0, .int .u8 0]) (t := 56) ?hr ?_; (case hd => rfl); (case hg => rfl); (case hr => first | (go_simp; done) | (go_simp; rfl))
                    intro gb217 hg w54 hbox hb
                    have n0_ := Aside0.mk (Kd.R_below (by (with_reducible repeat (first | apply Kd.R_alloc | apply Kd.R_drewN | apply Kd.R_drew)); exact HO_18.out) hb)
                    have n1_ := Aside0.mk (blk_below (g := gb200) (o := .cells #[.int .i64 a0_0, .int .i64 a0_1, .bool a0_2] 26 (0, 0)) (by (with_reducible repeat (first | refine blk_drewN ?_ _ | refine blk_drew ?_ | refine blk_alloc ?_ _)); exact BK200.out) hb)
                    have n2_ := Aside0.mk (blk_below (g := gb201) (o := .cells #[.int .i64 a1_0, .int .i64 a1_1, .int .u8 a1_2, .slice A1_3 l1_3.length c1_3] 30 (0, 0)) (by (with_reducible repeat (first | refine blk_drewN ?_ _ | refine blk_drew ?_ | refine blk_alloc ?_ _)); exact BK201.out) hb)
                    have n3_ := Aside0.mk (blk_below (g := gb202) (o := .cells #[.int .i64 x203000_1, .int .i64 x203001_1, .int .i64 x203002_1] 35 (0, 0)) (by (with_reducible repeat (first | refine blk_drewN ?_ _ | refine blk_drew ?_ | refine blk_alloc ?_ _)); exact BK202.out) hb)
                    have n4_ := Aside0.mk (blk_below (g := gb211) (o := .cells #[.int .i64 ((rd_T57 y203 x20_1).f0), .int .u8 ((rd_T57 y203 x20_1).f1), .int .i64 ((rd_T57 y203 x20_1).f2)] 57 (0, 0)) (by (with_reducible repeat (first | refine blk_drewN ?_ _ | refine blk_drew ?_ | refine blk_alloc ?_ _)); exact BK211.out) hb)
                    have n5_ := Aside0.mk (below_step (by repeat (first | (with_reducible first | exact HB.out | apply below_alloc | apply pw_below_drewN | apply below_drew1 | refine below_set ?_ GE200.out | refine below_set ?_ GE201.out | refine below_set ?_ GE202.out | refine below_set ?_ GE211.out) | exact HB.out)) hb)
                    have n6_ := Aside0.mk (hbox)
                    have n7_ := Aside0.mk ((by rw [hg]; exact (below_size (by repeat (first | (with_reducible first | exact HB.out | apply below_alloc | apply pw_below_drewN | apply below_drew1 | refine below_set ?_ GE200.out | refine below_set ?_ GE201.out | refine below_set ?_ GE202.out | refine below_set ?_ GE211.out) | exact HB.out))) : w.heap.size ≤ gb217))
                    have n8_ := Aside0.mk ((by rw [hg]; exact (below_size (by repeat (first | (with_reducible first | exact HB.out | apply below_alloc | apply pw_below_drewN | apply below_drew1 | refine below_set ?_ GE200.out | refine below_set ?_ GE201.out | refine below_set ?_ GE202.out | refine below_set ?_ GE211.out) | exact HB.out))) : w.heap.size ≤ gb217))
                    have n9_ := Aside0.mk ((by rw [hg]; exact Nat.ne_of_lt (blk_lt (g := gb200) (o := .cells #[.int .i64 a0_0, .int .i64 a0_1, .bool a0_2] 26 (0, 0)) (by (with_reducible repeat (first | refine blk_drewN ?_ _ | refine blk_drew ?_ | refine blk_alloc ?_ _)); exact BK200.out)) : gb200 ≠ gb217))
                    have n10_ := Aside0.mk ((by rw [hg]; exact Nat.ne_of_gt (blk_lt (g := gb200) (o := .cells #[.int .i64 a0_0, .int .i64 a0_1, .bool a0_2] 26 (0, 0)) (by (with_reducible repeat (first | refine blk_drewN ?_ _ | refine blk_drew ?_ | refine blk_alloc ?_ _)); exact BK200.out)) : gb217 ≠ gb200))
                    have n11_ := Aside0.mk ((by rw [hg]; exact Nat.ne_of_lt (blk_lt (g := gb201) (o := .cells #[.int .i64 a1_0, .int .i64 a1_1, .int .u8 a1_2, .slice A1_3 l1_3.length c1_3] 30 (0, 0)) (by (with_reducible repeat (first | refine blk_drewN ?_ _ | refine blk_drew ?_ | refine blk_alloc ?_ _)); exact BK201.out)) : gb201 ≠ gb217))
                    have n12_ := Aside0.mk ((by rw [hg]; exact Nat.ne_of_gt (blk_lt (g := gb201) (o := .cells #[.int .i64 a1_0, .int .i64 a1_1, .int .u8 a1_2, .slice A1_3 l1_3.length c1_3] 30 (0, 0)) (by (with_reducible repeat (first | refine blk_drewN ?_ _ | refine blk_drew ?_ | refine blk_alloc ?_ _)); exact BK201.out)) : gb217 ≠ gb201))
                    have n13_ := Aside0.mk ((by rw [hg]; exact Nat.ne_of_lt (blk_lt (g := gb202) (o := .cells #[.int .i64 x203000_1, .int .i64 x203001_1, .int .i64 x203002_1] 35 (0, 0)) (by (with_reducible repeat (first | refine blk_drewN ?_ _ | refine blk_drew ?_ | refine blk_alloc ?_ _)); exact BK202.out)) : gb202 ≠ gb217))
                    have n14_ := Aside0.mk ((by rw [hg]; exact Nat.ne_of_gt (blk_lt (g := gb202) (o := .cells #[.int .i64 x203000_1, .int .i64 x203001_1, .int .i64 x203002_1] 35 (0, 0)) (by (with_reducible repeat (first | refine blk_drewN ?_ _ | refine blk_drew ?_ | refine blk_alloc ?_ _)); exact BK202.out)) : gb217 ≠ gb202))
                    have n15_ := Aside0.mk ((by rw [hg]; exact Nat.ne_of_lt (blk_lt (g := gb211) (o := .cells #[.int .i64 ((rd_T57 y203 x20_1).f0), .int .u8 ((rd_T57 y203 x20_1).f1), .int .i64 ((rd_T57 y203 x20_1).f2)] 57 (0, 0)) (by (with_reducible repeat (first | refine blk_drewN ?_ _ | refine blk_drew ?_ | refine blk_alloc ?_ _)); exact BK211.out)) : gb211 ≠ gb217))
                    have n16_ := Aside0.mk ((by rw [hg]; exact Nat.ne_of_gt (blk_lt (g := gb211) (o := .cells #[.int .i64 ((rd_T57 y203 x20_1).f0), .int .u8 ((rd_T57 y203 x20_1).f1), .int .i64 ((rd_T57 y203 x20_1).f2)] 57 (0, 0)) (by (with_reducible repeat (first | refine blk_drewN ?_ _ | refine blk_drew ?_ | refine blk_alloc ?_ _)); exact BK211.out)) : gb217 ≠ gb211))
                    clear HO_18
                    clear BK200
                    clear BK201
                    clear BK202
                    clear BK211
                    clear HB
                    have HO_18 := n0_
                    have BK200 := n1_
                    have BK201 := n2_
                    have BK202 := n3_
                    have BK211 := n4_
                    have HB := n5_
                    have BK217 := n6_
                    have GW217 := n7_
                    have GE217 := n8_
                    have NB200_217 := n9_
                    have NB217_200 := n10_
                    have NB201_217 := n11_
                    have NB217_201 := n12_
                    have NB202_217 := n13_
                    have NB217_202 := n14_
                    have NB211_217 := n15_
                    have NB217_211 := n16_
                    clear n0_ n1_ n2_ n3_ n4_ n5_ n6_ n7_ n8_ n9_ n10_ n11_ n12_ n13_ n14_ n15_ n16_
                    clear hb hbox hg
                    refine hK.out _ _ ⟨(blk_cell BK200.out 0).trans rfl, (blk_cell BK200.out 1).trans rfl, (blk_cell BK200.out 2).trans rfl, (blk_cell BK201.out 0).trans rfl, (blk_cell BK201.out 1).trans rfl, (blk_cell BK201.out 2).trans rfl, (blk_cell BK201.out 3).trans rfl, (blk_cell BK211.out 0).trans rfl, (blk_cell BK211.out 1).trans rfl, (blk_cell BK211.out 2).trans rfl⟩ (fun hHeld => ?_)
                    clear hK K
                    refine norm_ (a' := ?_) ?_ ?_
                    rotate_left
                    · show Act.put _ (some 8) _ = _
                      simp only [Act.put, List.setIfInBounds_toArray, List.set_cons_zero, List.set_cons_succ, i64_w, i32_w]
                      rfl
                    refine one_ (i := 7) (N := some 32) #[true, true, true, true, true, true, true, true, false, false, false, true, false, false] rfl rfl (one_of HT_.out (by kernel_rfl)) (by decide) (fun K hK => ?_)
                    refine goes_ Try.func26 (by kernel_rfl) rfl #[.agg #[.int .i64 a0_0, .int .i64 a0_1, .bool a0_2], .agg #[.int .i64 a1_0, .int .i64 a1_1, .int .u8 a1_2, .slice A1_3 l1_3.length c1_3], .int .u8 ((rd_T57 y203 x20_1).f1), .int .i64 t212] (by rfl) rfl rfl (by (try simp only [List.map_toArray, List.map_cons, List.map_nil]); first | done | rfl | (simp only [List.length_drop, List.length_take]; rfl)) ?_
                    with_reducible refine (plan_seek.calls k1 a0_0 a0_1 a0_2 a1_0 a1_1 a1_2 _ _ l1_3 ((rd_T57 y203 x20_1).f1) t212 t213 t214 t215 false _ ?side1 ?side2 A16.out).mono ?_
                    (case side1 => repeat (first | exact (Kd.C_below HR1_3.out HB.out) | (with_reducible refine Kd.C_alloc ?_ _) | (with_reducible refine Kd.C_drewN ?_ _) | (with_reducible refine Kd.C_drew ?_)))
                    (case side2 => exact HC1_3.out)
                    rintro e w55 ⟨rfl, hb⟩
                    refine ⟨_, rfl, ?_⟩
                    have n0_ := Aside0.mk (Kd.R_below (by (with_reducible repeat (first | apply Kd.R_alloc | apply Kd.R_drewN | apply Kd.R_drew)); exact HO_18.out) hb)
                    have n1_ := Aside0.mk (blk_below (g := gb200) (o := .cells #[.int .i64 a0_0, .int .i64 a0_1, .bool a0_2] 26 (0, 0)) (by (with_reducible repeat (first | refine blk_drewN ?_ _ | refine blk_drew ?_ | refine blk_alloc ?_ _)); exact BK200.out) hb)
                    have n2_ := Aside0.mk (blk_below (g := gb201) (o := .cells #[.int .i64 a1_0, .int .i64 a1_1, .int .u8 a1_2, .slice A1_3 l1_3.length c1_3] 30 (0, 0)) (by (with_reducible repeat (first | refine blk_drewN ?_ _ | refine blk_drew ?_ | refine blk_alloc ?_ _)); exact BK201.out) hb)
                    have n3_ := Aside0.mk (blk_below (g := gb202) (o := .cells #[.int .i64 x203000_1, .int .i64 x203001_1, .int .i64 x203002_1] 35 (0, 0)) (by (with_reducible repeat (first | refine blk_drewN ?_ _ | refine blk_drew ?_ | refine blk_alloc ?_ _)); exact BK202.out) hb)
                    have n4_ := Aside0.mk (blk_below (g := gb211) (o := .cells #[.int .i64 ((rd_T57 y203 x20_1).f0), .int .u8 ((rd_T57 y203 x20_1).f1), .int .i64 ((rd_T57 y203 x20_1).f2)] 57 (0, 0)) (by (with_reducible repeat (first | refine blk_drewN ?_ _ | refine blk_drew ?_ | refine blk_alloc ?_ _)); exact BK211.out) hb)
                    have n5_ := Aside0.mk (blk_below (g := gb217) (o := .cells #[.int .i64 0, .int .i64 0, .int .u8 0] 56 (0, 0)) (by (with_reducible repeat (first | refine blk_drewN ?_ _ | refine blk_drew ?_ | refine blk_alloc ?_ _)); exact BK217.out) hb)
                    have n6_ := Aside0.mk (below_step (by repeat (first | (with_reducible first | exact HB.out | apply below_alloc | apply pw_below_drewN | apply below_drew1 | refine below_set ?_ GE200.out | refine below_set ?_ GE201.out | refine below_set ?_ GE202.out | refine below_set ?_ GE211.out | refine below_set ?_ GE217.out) | exact HB.out)) hb)
                    clear HO_18
                    clear BK200
                    clear BK201
                    clear BK202
                    clear BK211
                    clear BK217
                    clear HB
                    have HO_18 := n0_
                    have BK200 := n1_
                    have BK201 := n2_
                    have BK202 := n3_
                    have BK211 := n4_
                    have BK217 := n5_
                    have HB := n6_
                    clear n0_ n1_ n2_ n3_ n4_ n5_ n6_
                    (try clear hb)
                    (try clear hb2)
                    (try clear hk)
                    (try clear hi)
                    refine hK.out _ _ ⟨(blk_cell BK200.out 0).trans rfl, (blk_cell BK200.out 1).trans rfl, (blk_cell BK200.out 2).trans rfl, (blk_cell BK201.out 0).trans rfl, (blk_cell BK201.out 1).trans rfl, (blk_cell BK201.out 2).trans rfl, (blk_cell BK201.out 3).trans rfl, (blk_cell BK211.out 0).trans rfl, (blk_cell BK211.out 1).trans rfl, (blk_cell BK211.out 2).trans rfl⟩ (fun hHeld => ?_)
                    clear hK K
                    refine norm_ (a' := ?_) ?_ ?_
                    rotate_left
                    · show Act.put _ (some 32) _ = _
                      simp only [Act.put, List.setIfInBounds_toArray, List.set_cons_zero, List.set_cons_succ, i64_w, i32_w]
                      rfl
                    refine pure_ (i := 8) (N := some 24) (v := ?_) (a' := ?_) #[true, true, true, true, true, true, true, true, true, false, false, true, false, false] rfl rfl (any_of HT_.out (by kernel_rfl)) (fun _ _ _ h => h) (Or.inl ⟨by rfl, ?_⟩) ?_ ?_
                    rotate_left
                    · intro w'
                      go_simp
                      with_reducible rfl
                    rotate_left
                    · simp only [Act.put, List.setIfInBounds_toArray, List.set_cons_zero, List.set_cons_succ, i64_w, i32_w]
                      rfl
                    refine pure_ (i := 9) (N := some 33) (v := ?_) (a' := ?_) #[true, true, true, true, true, true, true, true, true, true, false, true, false, false] rfl rfl (any_of HT_.out (by kernel_rfl)) (fun _ _ _ h => h) (Or.inl ⟨by rfl, ?_⟩) ?_ ?_
                    rotate_left
                    · intro w'
                      go_simp
                      with_reducible rfl
                    rotate_left
                    · simp only [Act.put, List.setIfInBounds_toArray, List.set_cons_zero, List.set_cons_succ, i64_w, i32_w]
                      rfl
                    refine pure_ (i := 10) (N := some 34) (v := ?_) (a' := ?_) #[true, true, true, true, true, true, true, true, true, true, true, true, false, false] rfl rfl (any_of HT_.out (by kernel_rfl)) (fun _ _ _ h => h) (Or.inl ⟨by rfl, ?_⟩) ?_ ?_
                    rotate_left
                    · intro w'
                      go_simp
                      with_reducible rfl
                    rotate_left
                    · simp only [Act.put, List.setIfInBounds_toArray, List.set_cons_zero, List.set_cons_succ, i64_w, i32_w]
                      rfl
                    exact norm_ (by simp only [putAll, Act.put, List.setIfInBounds_toArray, List.set_cons_zero, List.set_cons_succ]) (hCont (gb217) _ ⟨hHeld, (by (with_reducible repeat (first | apply Kd.R_alloc | apply Kd.R_drewN | apply Kd.R_drew)); exact HO_18.out), (by (with_reducible repeat (first | refine blk_drewN ?_ _ | refine blk_drew ?_ | refine blk_alloc ?_ _)); exact BK200.out), (by (with_reducible repeat (first | refine blk_drewN ?_ _ | refine blk_drew ?_ | refine blk_alloc ?_ _)); exact BK201.out), (by (with_reducible repeat (first | refine blk_drewN ?_ _ | refine blk_drew ?_ | refine blk_alloc ?_ _)); exact BK202.out), (by (with_reducible repeat (first | refine blk_drewN ?_ _ | refine blk_drew ?_ | refine blk_alloc ?_ _)); exact BK211.out), (by (with_reducible repeat (first | refine blk_drewN ?_ _ | refine blk_drew ?_ | refine blk_alloc ?_ _)); exact BK217.out), GW217.out, GE217.out, NB200_217.out, NB217_200.out, NB201_217.out, NB217_201.out, NB202_217.out, NB217_202.out, NB211_217.out, NB217_211.out, (by repeat (first | (with_reducible first | exact HB.out | apply below_alloc | apply pw_below_drewN | apply below_drew1 | refine below_set ?_ GE200.out | refine below_set ?_ GE201.out | refine below_set ?_ GE202.out | refine below_set ?_ GE211.out | refine below_set ?_ GE217.out) | exact HB.out))⟩)
                · skip
                  refine box_step ?hg (N := 8) ?hd (cs := #[.int .i64 0, .int .i64 0, .int .u8 0]) (t := 56) ?hr ?_; (case hd => rfl); (case hg => rfl); (case hr => first | (go_simp; done) | (go_simp; rfl))
                  intro gb217 hg w53 hbox hb
                  have n0_ := Aside0.mk (Kd.R_below (by (with_reducible repeat (first | apply Kd.R_alloc | apply Kd.R_drewN | apply Kd.R_drew)); exact HO_18.out) hb)
                  have n1_ := Aside0.mk (blk_below (g := gb200) (o := .cells #[.int .i64 a0_0, .int .i64 a0_1, .bool a0_2] 26 (0, 0)) (by (with_reducible repeat (first | refine blk_drewN ?_ _ | refine blk_drew ?_ | refine blk_alloc ?_ _)); exact BK200.out) hb)
                  have n2_ := Aside0.mk (blk_below (g := gb201) (o := .cells #[.int .i64 a1_0, .int .i64 a1_1, .int .u8 a1_2, .slice A1_3 l1_3.length c1_3] 30 (0, 0)) (by (with_reducible repeat (first | refine blk_drewN ?_ _ | refine blk_drew ?_ | refine blk_alloc ?_ _)); exact BK201.out) hb)
                  have n3_ := Aside0.mk (blk_below (g := gb202) (o := .cells #[.int .i64 x203000_1, .int .i64 x203001_1, .int .i64 x203002_1] 35 (0, 0)) (by (with_reducible repeat (first | refine blk_drewN ?_ _ | refine blk_drew ?_ | refine blk_alloc ?_ _)); exact BK202.out) hb)
                  have n4_ := Aside0.mk (blk_below (g := gb211) (o := .cells #[.int .i64 ((rd_T57 y203 x20_1).f0), .int .u8 ((rd_T57 y203 x20_1).f1), .int .i64 ((rd_T57 y203 x20_1).f2)] 57 (0, 0)) (by (with_reducible repeat (first | refine blk_drewN ?_ _ | refine blk_drew ?_ | refine blk_alloc ?_ _)); exact BK211.out) hb)
                  have n5_ := Aside0.mk (below_step (by repeat (first | (with_reducible first | exact HB.out | apply below_alloc | apply pw_below_drewN | apply below_drew1 | refine below_set ?_ GE200.out | refine below_set ?_ GE201.out | refine below_set ?_ GE202.out | refine below_set ?_ GE211.out) | exact HB.out)) hb)
                  have n6_ := Aside0.mk (hbox)
                  have n7_ := Aside0.mk ((by rw [hg]; exact (below_size (by repeat (first | (with_reducible first | exact HB.out | apply below_alloc | apply pw_below_drewN | apply below_drew1 | refine below_set ?_ GE200.out | refine below_set ?_ GE201.out | refine below_set ?_ GE202.out | refine below_set ?_ GE211.out) | exact HB.out))) : w.heap.size ≤ gb217))
                  have n8_ := Aside0.mk ((by rw [hg]; exact (below_size (by repeat (first | (with_reducible first | exact HB.out | apply below_alloc | apply pw_below_drewN | apply below_drew1 | refine below_set ?_ GE200.out | refine below_set ?_ GE201.out | refine below_set ?_ GE202.out | refine below_set ?_ GE211.out) | exact HB.out))) : w.heap.size ≤ gb217))
                  have n9_ := Aside0.mk ((by rw [hg]; exact Nat.ne_of_lt (blk_lt (g := gb200) (o := .cells #[.int .i64 a0_0, .int .i64 a0_1, .bool a0_2] 26 (0, 0)) (by (with_reducible repeat (first | refine blk_drewN ?_ _ | refine blk_drew ?_ | refine blk_alloc ?_ _)); exact BK200.out)) : gb200 ≠ gb217))
                  have n10_ := Aside0.mk ((by rw [hg]; exact Nat.ne_of_gt (blk_lt (g := gb200) (o := .cells #[.int .i64 a0_0, .int .i64 a0_1, .bool a0_2] 26 (0, 0)) (by (with_reducible repeat (first | refine blk_drewN ?_ _ | refine blk_drew ?_ | refine blk_alloc ?_ _)); exact BK200.out)) : gb217 ≠ gb200))
                  have n11_ := Aside0.mk ((by rw [hg]; exact Nat.ne_of_lt (blk_lt (g := gb201) (o := .cells #[.int .i64 a1_0, .int .i64 a1_1, .int .u8 a1_2, .slice A1_3 l1_3.length c1_3] 30 (0, 0)) (by (with_reducible repeat (first | refine blk_drewN ?_ _ | refine blk_drew ?_ | refine blk_alloc ?_ _)); exact BK201.out)) : gb201 ≠ gb217))
                  have n12_ := Aside0.mk ((by rw [hg]; exact Nat.ne_of_gt (blk_lt (g := gb201) (o := .cells #[.int .i64 a1_0, .int .i64 a1_1, .int .u8 a1_2, .slice A1_3 l1_3.length c1_3] 30 (0, 0)) (by (with_reducible repeat (first | refine blk_drewN ?_ _ | refine blk_drew ?_ | refine blk_alloc ?_ _)); exact BK201.out)) : gb217 ≠ gb201))
                  have n13_ := Aside0.mk ((by rw [hg]; exact Nat.ne_of_lt (blk_lt (g := gb202) (o := .cells #[.int .i64 x203000_1, .int .i64 x203001_1, .int .i64 x203002_1] 35 (0, 0)) (by (with_reducible repeat (first | refine blk_drewN ?_ _ | refine blk_drew ?_ | refine blk_alloc ?_ _)); exact BK202.out)) : gb202 ≠ gb217))
                  have n14_ := Aside0.mk ((by rw [hg]; exact Nat.ne_of_gt (blk_lt (g := gb202) (o := .cells #[.int .i64 x203000_1, .int .i64 x203001_1, .int .i64 x203002_1] 35 (0, 0)) (by (with_reducible repeat (first | refine blk_drewN ?_ _ | refine blk_drew ?_ | refine blk_alloc ?_ _)); exact BK202.out)) : gb217 ≠ gb202))
                  have n15_ := Aside0.mk ((by rw [hg]; exact Nat.ne_of_lt (blk_lt (g := gb211) (o := .cells #[.int .i64 ((rd_T57 y203 x20_1).f0), .int .u8 ((rd_T57 y203 x20_1).f1), .int .i64 ((rd_T57 y203 x20_1).f2)] 57 (0, 0)) (by (with_reducible repeat (first | refine blk_drewN ?_ _ | refine blk_drew ?_ | refine blk_alloc ?_ _)); exact BK211.out)) : gb211 ≠ gb217))
                  have n16_ := Aside0.mk ((by rw [hg]; exact Nat.ne_of_gt (blk_lt (g := gb211) (o := .cells #[.int .i64 ((rd_T57 y203 x20_1).f0), .int .u8 ((rd_T57 y203 x20_1).f1), .int .i64 ((rd_T57 y203 x20_1).f2)] 57 (0, 0)) (by (with_reducible repeat (first | refine blk_drewN ?_ _ | refine blk_drew ?_ | refine blk_alloc ?_ _)); exact BK211.out)) : gb217 ≠ gb211))
                  clear HO_18
                  clear BK200
                  clear BK201
                  clear BK202
                  clear BK211
                  clear HB
                  have HO_18 := n0_
                  have BK200 := n1_
                  have BK201 := n2_
                  have BK202 := n3_
                  have BK211 := n4_
                  have HB := n5_
                  have BK217 := n6_
                  have GW217 := n7_
                  have GE217 := n8_
                  have NB200_217 := n9_
                  have NB217_200 := n10_
                  have NB201_217 := n11_
                  have NB217_201 := n12_
                  have NB202_217 := n13_
                  have NB217_202 := n14_
                  have NB211_217 := n15_
                  have NB217_211 := n16_
                  clear n0_ n1_ n2_ n3_ n4_ n5_ n6_ n7_ n8_ n9_ n10_ n11_ n12_ n13_ n14_ n15_ n16_
                  clear hb hbox hg
                  refine hK.out _ _ ⟨(blk_cell BK200.out 0).trans rfl, (blk_cell BK200.out 1).trans rfl, (blk_cell BK200.out 2).trans rfl, (blk_cell BK201.out 0).trans rfl, (blk_cell BK201.out 1).trans rfl, (blk_cell BK201.out 2).trans rfl, (blk_cell BK201.out 3).trans rfl, (blk_cell BK211.out 0).trans rfl, (blk_cell BK211.out 1).trans rfl, (blk_cell BK211.out 2).trans rfl⟩ (fun hHeld => ?_)
                  clear hK K
                  refine norm_ (a' := ?_) ?_ ?_
                  rotate_left
                  · show Act.put _ (some 8) _ = _
                    simp only [Act.put, List.setIfInBounds_toArray, List.set_cons_zero, List.set_cons_succ, i64_w, i32_w]
                    rfl
                  refine one_ (i := 6) (N := some 31) #[true, true, true, true, true, true, true, false, false, false, false, true, false, false] rfl rfl (one_of HT_.out (by kernel_rfl)) (by decide) (fun K hK => ?_)
                  refine goes_ Try.func27 (by kernel_rfl) rfl #[.agg #[.int .i64 a0_0, .int .i64 a0_1, .bool a0_2], .agg #[.int .i64 a1_0, .int .i64 a1_1, .int .u8 a1_2, .slice A1_3 l1_3.length c1_3]] (by rfl) rfl rfl (by (try simp only [List.map_toArray, List.map_cons, List.map_nil]); first | done | rfl | (simp only [List.length_drop, List.length_take]; rfl)) ?_
                  with_reducible refine (plan_edge.calls a0_0 a0_1 a0_2 a1_0 a1_1 a1_2 _ _ l1_3 t212 _ ?side1 ?side2 A15.out).mono ?_
                  (case side1 => repeat (first | exact (Kd.C_below HR1_3.out HB.out) | (with_reducible refine Kd.C_alloc ?_ _) | (with_reducible refine Kd.C_drewN ?_ _) | (with_reducible refine Kd.C_drew ?_)))
                  (case side2 => exact HC1_3.out)
                  rintro e w54 ⟨rfl, hb⟩
                  refine ⟨_, rfl, ?_⟩
                  have n0_ := Aside0.mk (Kd.R_below (by (with_reducible repeat (first | apply Kd.R_alloc | apply Kd.R_drewN | apply Kd.R_drew)); exact HO_18.out) hb)
                  have n1_ := Aside0.mk (blk_below (g := gb200) (o := .cells #[.int .i64 a0_0, .int .i64 a0_1, .bool a0_2] 26 (0, 0)) (by (with_reducible repeat (first | refine blk_drewN ?_ _ | refine blk_drew ?_ | refine blk_alloc ?_ _)); exact BK200.out) hb)
                  have n2_ := Aside0.mk (blk_below (g := gb201) (o := .cells #[.int .i64 a1_0, .int .i64 a1_1, .int .u8 a1_2, .slice A1_3 l1_3.length c1_3] 30 (0, 0)) (by (with_reducible repeat (first | refine blk_drewN ?_ _ | refine blk_drew ?_ | refine blk_alloc ?_ _)); exact BK201.out) hb)
                  have n3_ := Aside0.mk (blk_below (g := gb202) (o := .cells #[.int .i64 x203000_1, .int .i64 x203001_1, .int .i64 x203002_1] 35 (0, 0)) (by (with_reducible repeat (first | refine blk_drewN ?_ _ | refine blk_drew ?_ | refine blk_alloc ?_ _)); exact BK202.out) hb)
                  have n4_ := Aside0.mk (blk_below (g := gb211) (o := .cells #[.int .i64 ((rd_T57 y203 x20_1).f0), .int .u8 ((rd_T57 y203 x20_1).f1), .int .i64 ((rd_T57 y203 x20_1).f2)] 57 (0, 0)) (by (with_reducible repeat (first | refine blk_drewN ?_ _ | refine blk_drew ?_ | refine blk_alloc ?_ _)); exact BK211.out) hb)
                  have n5_ := Aside0.mk (blk_below (g := gb217) (o := .cells #[.int .i64 0, .int .i64 0, .int .u8 0] 56 (0, 0)) (by (with_reducible repeat (first | refine blk_drewN ?_ _ | refine blk_drew ?_ | refine blk_alloc ?_ _)); exact BK217.out) hb)
                  have n6_ := Aside0.mk (below_step (by repeat (first | (with_reducible first | exact HB.out | apply below_alloc | apply pw_below_drewN | apply below_drew1 | refine below_set ?_ GE200.out | refine below_set ?_ GE201.out | refine below_set ?_ GE202.out | refine below_set ?_ GE211.out | refine below_set ?_ GE217.out) | exact HB.out)) hb)
                  clear HO_18
                  clear BK200
                  clear BK201
                  clear BK202
                  clear BK211
                  clear BK217
                  clear HB
                  have HO_18 := n0_
                  have BK200 := n1_
                  have BK201 := n2_
                  have BK202 := n3_
                  have BK211 := n4_
                  have BK217 := n5_
                  have HB := n6_
                  clear n0_ n1_ n2_ n3_ n4_ n5_ n6_
                  (try clear hb)
                  (try clear hb2)
                  (try clear hk)
                  (try clear hi)
                  refine hK.out _ _ ⟨(blk_cell BK200.out 0).trans rfl, (blk_cell BK200.out 1).trans rfl, (blk_cell BK200.out 2).trans rfl, (blk_cell BK201.out 0).trans rfl, (blk_cell BK201.out 1).trans rfl, (blk_cell BK201.out 2).trans rfl, (blk_cell BK201.out 3).trans rfl, (blk_cell BK211.out 0).trans rfl, (blk_cell BK211.out 1).trans rfl, (blk_cell BK211.out 2).trans rfl⟩ (fun hHeld => ?_)
                  clear hK K
                  refine norm_ (a' := ?_) ?_ ?_
                  rotate_left
                  · show Act.put _ (some 31) _ = _
                    simp only [Act.put, List.setIfInBounds_toArray, List.set_cons_zero, List.set_cons_succ, i64_w, i32_w]
                    rfl
                  refine one_ (i := 7) (N := some 32) #[true, true, true, true, true, true, true, true, false, false, false, true, false, false] rfl rfl (one_of HT_.out (by kernel_rfl)) (by decide) (fun K hK => ?_)
                  refine goes_ Try.func26 (by kernel_rfl) rfl #[.agg #[.int .i64 a0_0, .int .i64 a0_1, .bool a0_2], .agg #[.int .i64 a1_0, .int .i64 a1_1, .int .u8 a1_2, .slice A1_3 l1_3.length c1_3], .int .u8 ((rd_T57 y203 x20_1).f1), .int .i64 t212] (by rfl) rfl rfl (by (try simp only [List.map_toArray, List.map_cons, List.map_nil]); first | done | rfl | (simp only [List.length_drop, List.length_take]; rfl)) ?_
                  with_reducible refine (plan_seek.calls k1 a0_0 a0_1 a0_2 a1_0 a1_1 a1_2 _ _ l1_3 ((rd_T57 y203 x20_1).f1) t212 t213 t214 t215 false _ ?side1 ?side2 A16.out).mono ?_
                  (case side1 => repeat (first | exact (Kd.C_below HR1_3.out HB.out) | (with_reducible refine Kd.C_alloc ?_ _) | (with_reducible refine Kd.C_drewN ?_ _) | (with_reducible refine Kd.C_drew ?_)))
                  (case side2 => exact HC1_3.out)
                  rintro e w55 ⟨rfl, hb⟩
                  refine ⟨_, rfl, ?_⟩
                  have n0_ := Aside0.mk (Kd.R_below (by (with_reducible repeat (first | apply Kd.R_alloc | apply Kd.R_drewN | apply Kd.R_drew)); exact HO_18.out) hb)
                  have n1_ := Aside0.mk (blk_below (g := gb200) (o := .cells #[.int .i64 a0_0, .int .i64 a0_1, .bool a0_2] 26 (0, 0)) (by (with_reducible repeat (first | refine blk_drewN ?_ _ | refine blk_drew ?_ | refine blk_alloc ?_ _)); exact BK200.out) hb)
                  have n2_ := Aside0.mk (blk_below (g := gb201) (o := .cells #[.int .i64 a1_0, .int .i64 a1_1, .int .u8 a1_2, .slice A1_3 l1_3.length c1_3] 30 (0, 0)) (by (with_reducible repeat (first | refine blk_drewN ?_ _ | refine blk_drew ?_ | refine blk_alloc ?_ _)); exact BK201.out) hb)
                  have n3_ := Aside0.mk (blk_below (g := gb202) (o := .cells #[.int .i64 x203000_1, .int .i64 x203001_1, .int .i64 x203002_1] 35 (0, 0)) (by (with_reducible repeat (first | refine blk_drewN ?_ _ | refine blk_drew ?_ | refine blk_alloc ?_ _)); exact BK202.out) hb)
                  have n4_ := Aside0.mk (blk_below (g := gb211) (o := .cells #[.int .i64 ((rd_T57 y203 x20_1).f0), .int .u8 ((rd_T57 y203 x20_1).f1), .int .i64 ((rd_T57 y203 x20_1).f2)] 57 (0, 0)) (by (with_reducible repeat (first | refine blk_drewN ?_ _ | refine blk_drew ?_ | refine blk_alloc ?_ _)); exact BK211.out) hb)
                  have n5_ := Aside0.mk (blk_below (g := gb217) (o := .cells #[.int .i64 0, .int .i64 0, .int .u8 0] 56 (0, 0)) (by (with_reducible repeat (first | refine blk_drewN ?_ _ | refine blk_drew ?_ | refine blk_alloc ?_ _)); exact BK217.out) hb)
                  have n6_ := Aside0.mk (below_step (by repeat (first | (with_reducible first | exact HB.out | apply below_alloc | apply pw_below_drewN | apply below_drew1 | refine below_set ?_ GE200.out | refine below_set ?_ GE201.out | refine below_set ?_ GE202.out | refine below_set ?_ GE211.out | refine below_set ?_ GE217.out) | exact HB.out)) hb)
                  clear HO_18
                  clear BK200
                  clear BK201
                  clear BK202
                  clear BK211
                  clear BK217
                  clear HB
                  have HO_18 := n0_
                  have BK200 := n1_
                  have BK201 := n2_
                  have BK202 := n3_
                  have BK211 := n4_
                  have BK217 := n5_
                  have HB := n6_
                  clear n0_ n1_ n2_ n3_ n4_ n5_ n6_
                  (try clear hb)
                  (try clear hb2)
                  (try clear hk)
                  (try clear hi)
                  refine hK.out _ _ ⟨(blk_cell BK200.out 0).trans rfl, (blk_cell BK200.out 1).trans rfl, (blk_cell BK200.out 2).trans rfl, (blk_cell BK201.out 0).trans rfl, (blk_cell BK201.out 1).trans rfl, (blk_cell BK201.out 2).trans rfl, (blk_cell BK201.out 3).trans rfl, (blk_cell BK211.out 0).trans rfl, (blk_cell BK211.out 1).trans rfl, (blk_cell BK211.out 2).trans rfl⟩ (fun hHeld => ?_)
                  clear hK K
                  refine norm_ (a' := ?_) ?_ ?_
                  rotate_left
                  · show Act.put _ (some 32) _ = _
                    simp only [Act.put, List.setIfInBounds_toArray, List.set_cons_zero, List.set_cons_succ, i64_w, i32_w]
                    rfl
                  refine pure_ (i := 8) (N := some 24) (v := ?_) (a' := ?_) #[true, true, true, true, true, true, true, true, true, false, false, true, false, false] rfl rfl (any_of HT_.out (by kernel_rfl)) (fun _ _ _ h => h) (Or.inl ⟨by rfl, ?_⟩) ?_ ?_
                  rotate_left
                  · intro w'
                    go_simp
                    with_reducible rfl
                  rotate_left
                  · simp only [Act.put, List.setIfInBounds_toArray, List.set_cons_zero, List.set_cons_succ, i64_w, i32_w]
                    rfl
                  refine pure_ (i := 9) (N := some 33) (v := ?_) (a' := ?_) #[true, true, true, true, true, true, true, true, true, true, false, true, false, false] rfl rfl (any_of HT_.out (by kernel_rfl)) (fun _ _ _ h => h) (Or.inl ⟨by rfl, ?_⟩) ?_ ?_
                  rotate_left
                  · intro w'
                    go_simp
                    with_reducible rfl
                  rotate_left
                  · simp only [Act.put, List.setIfInBounds_toArray, List.set_cons_zero, List.set_cons_succ, i64_w, i32_w]
                    rfl
                  refine pure_ (i := 10) (N := some 34) (v := ?_) (a' := ?_) #[true, true, true, true, true, true, true, true, true, true, true, true, false, false] rfl rfl (any_of HT_.out (by kernel_rfl)) (fun _ _ _ h => h) (Or.inl ⟨by rfl, ?_⟩) ?_ ?_
                  rotate_left
                  · intro w'
                    go_simp
                    with_reducible rfl
                  rotate_left
                  · simp only [Act.put, List.setIfInBounds_toArray, List.set_cons_zero, List.set_cons_succ, i64_w, i32_w]
                    rfl
                  exact norm_ (by simp only [putAll, Act.put, List.setIfInBounds_toArray, List.set_cons_zero, List.set_cons_succ]) (hCont (gb217) _ ⟨hHeld, (by (with_reducible repeat (first | apply Kd.R_alloc | apply Kd.R_drewN | apply Kd.R_drew)); exact HO_18.out), (by (with_reducible repeat (first | refine blk_drewN ?_ _ | refine blk_drew ?_ | refine blk_alloc ?_ _)); exact BK200.out), (by (with_reducible repeat (first | refine blk_drewN ?_ _ | refine blk_drew ?_ | refine blk_alloc ?_ _)); exact BK201.out), (by (with_reducible repeat (first | refine blk_drewN ?_ _ | refine blk_drew ?_ | refine blk_alloc ?_ _)); exact BK202.out), (by (with_reducible repeat (first | refine blk_drewN ?_ _ | refine blk_drew ?_ | refine blk_alloc ?_ _)); exact BK211.out), (by (with_reducible repeat (first | refine blk_drewN ?_ _ | refine blk_drew ?_ | refine blk_alloc ?_ _)); exact BK217.out), GW217.out, GE217.out, NB200_217.out, NB217_200.out, NB201_217.out, NB217_201.out, NB202_217.out, NB217_202.out, NB211_217.out, NB217_211.out, (by repeat (first | (with_reducible first | exact HB.out | apply below_alloc | apply pw_below_drewN | apply below_drew1 | refine below_set ?_ GE200.out | refine below_set ?_ GE201.out | refine below_set ?_ GE202.out | refine below_set ?_ GE211.out | refine below_set ?_ GE217.out) | exact HB.out))⟩)
              rintro gb217 w56 ⟨hS_, h0_, h1_, h2_, h3_, h4_, h5_, h6_, h7_, h8_, h9_, h10_, h11_, h12_, h13_, h14_, h15_, h16_⟩
              have n0_ : Aside0 (Kd.R k57 57 w56 w.heap.size (fun k_ => k_ ≠ gb211) (.slice (some ad210) y203.length co11) y203) := ⟨h0_⟩
              have n1_ : Aside0 (w56.heap[gb200]? = some (.cells #[.int .i64 a0_0, .int .i64 a0_1, .bool a0_2] 26 (0, 0))) := ⟨h1_⟩
              have n2_ : Aside0 (w56.heap[gb201]? = some (.cells #[.int .i64 a1_0, .int .i64 a1_1, .int .u8 a1_2, .slice A1_3 l1_3.length c1_3] 30 (0, 0))) := ⟨h2_⟩
              have n3_ : Aside0 (w56.heap[gb202]? = some (.cells #[.int .i64 x203000_1, .int .i64 x203001_1, .int .i64 x203002_1] 35 (0, 0))) := ⟨h3_⟩
              have n4_ : Aside0 (w56.heap[gb211]? = some (.cells #[.int .i64 ((rd_T57 y203 x20_1).f0), .int .u8 ((rd_T57 y203 x20_1).f1), .int .i64 ((rd_T57 y203 x20_1).f2)] 57 (0, 0))) := ⟨h4_⟩
              have n5_ : Aside0 (w56.heap[gb217]? = some (.cells #[.int .i64 0, .int .i64 0, .int .u8 0] 56 (0, 0))) := ⟨h5_⟩
              have n6_ : Aside0 (w.heap.size ≤ gb217) := ⟨h6_⟩
              have n7_ : Aside0 (w.heap.size ≤ gb217) := ⟨h7_⟩
              have n8_ : Aside0 (gb200 ≠ gb217) := ⟨h8_⟩
              have n9_ : Aside0 (gb217 ≠ gb200) := ⟨h9_⟩
              have n10_ : Aside0 (gb201 ≠ gb217) := ⟨h10_⟩
              have n11_ : Aside0 (gb217 ≠ gb201) := ⟨h11_⟩
              have n12_ : Aside0 (gb202 ≠ gb217) := ⟨h12_⟩
              have n13_ : Aside0 (gb217 ≠ gb202) := ⟨h13_⟩
              have n14_ : Aside0 (gb211 ≠ gb217) := ⟨h14_⟩
              have n15_ : Aside0 (gb217 ≠ gb211) := ⟨h15_⟩
              have n16_ : Aside0 (Below w.heap.size w w56) := ⟨h16_⟩
              clear HO_18
              clear BK200
              clear BK201
              clear BK202
              clear BK211
              clear HB
              clear h0_ h1_ h2_ h3_ h4_ h5_ h6_ h7_ h8_ h9_ h10_ h11_ h12_ h13_ h14_ h15_ h16_
              have HO_18 := n0_
              have BK200 := n1_
              have BK201 := n2_
              have BK202 := n3_
              have BK211 := n4_
              have BK217 := n5_
              have GW217 := n6_
              have GE217 := n7_
              have NB200_217 := n8_
              have NB217_200 := n9_
              have NB201_217 := n10_
              have NB217_201 := n11_
              have NB202_217 := n12_
              have NB217_202 := n13_
              have NB211_217 := n14_
              have NB217_211 := n15_
              have HB := n16_
              clear n0_ n1_ n2_ n3_ n4_ n5_ n6_ n7_ n8_ n9_ n10_ n11_ n12_ n13_ n14_ n15_ n16_
              have hHeld : w56.cell? ⟨gb200, 0, none⟩ = some (.int .i64 a0_0) ∧ w56.cell? ⟨gb200, 1, none⟩ = some (.int .i64 a0_1) ∧ w56.cell? ⟨gb200, 2, none⟩ = some (.bool a0_2) ∧ w56.cell? ⟨gb201, 0, none⟩ = some (.int .i64 a1_0) ∧ w56.cell? ⟨gb201, 1, none⟩ = some (.int .i64 a1_1) ∧ w56.cell? ⟨gb201, 2, none⟩ = some (.int .u8 a1_2) ∧ w56.cell? ⟨gb201, 3, none⟩ = some (.slice A1_3 l1_3.length c1_3) ∧ w56.cell? ⟨gb211, 0, none⟩ = some (.int .i64 ((rd_T57 y203 x20_1).f0)) ∧ w56.cell? ⟨gb211, 1, none⟩ = some (.int .u8 ((rd_T57 y203 x20_1).f1)) ∧ w56.cell? ⟨gb211, 2, none⟩ = some (.int .i64 ((rd_T57 y203 x20_1).f2)) := hS_
              refine norm_ (a' := ?_) ?_ ?_
              rotate_left
              · simp only [putAll, Act.put, List.setIfInBounds_toArray, List.set_cons_zero, List.set_cons_succ]
                rfl
              refine one_ (i := 12) (N := none) #[true, true, true, true, true, true, true, true, true, true, true, true, true, false] rfl rfl (one_of HT_.out (by kernel_rfl)) (by decide) (fun K hK => ?_)
              have hs57 : w56.cell? ⟨gb217, 0, none⟩ = some (.int .i64 0) := (blk_cell BK217.out 0).trans rfl
              have hfs57 := blk_frozen BK217.out 0
              have hns57_0 := NB200_217.out
              have hns57_1 := NB201_217.out
              have hns57_2 := NB202_217.out
              have hns57_3 := NB211_217.out
              have hms57_0 := NB217_200.out
              have hms57_1 := NB217_201.out
              have hms57_2 := NB217_202.out
              have hms57_3 := NB217_211.out
              have hs58 : w56.cell? ⟨gb217, 1, none⟩ = some (.int .i64 0) := (blk_cell BK217.out 1).trans rfl
              have hfs58 := blk_frozen BK217.out 1
              have hns58_0 := NB200_217.out
              have hns58_1 := NB201_217.out
              have hns58_2 := NB202_217.out
              have hns58_3 := NB211_217.out
              have hms58_0 := NB217_200.out
              have hms58_1 := NB217_201.out
              have hms58_2 := NB217_202.out
              have hms58_3 := NB217_211.out
              have hs59 : w56.cell? ⟨gb217, 2, none⟩ = some (.int .u8 0) := (blk_cell BK217.out 2).trans rfl
              have hfs59 := blk_frozen BK217.out 2
              have hns59_0 := NB200_217.out
              have hns59_1 := NB201_217.out
              have hns59_2 := NB202_217.out
              have hns59_3 := NB211_217.out
              have hms59_0 := NB217_200.out
              have hms59_1 := NB217_201.out
              have hms59_2 := NB217_202.out
              have hms59_3 := NB217_211.out
              refine skip_ (w1 := ?_) (by rfl) rfl ?_ ?_
              rotate_left
              · go_simp
                rfl
              refine hK.out _ _ ⟨((cell_far (p := ⟨gb217, _, none⟩) NB200_217.out _).trans (((cell_far (p := ⟨gb217, _, none⟩) NB200_217.out _).trans (((cell_far (p := ⟨gb217, _, none⟩) NB200_217.out _).trans (hHeld.1)))))), ((cell_far (p := ⟨gb217, _, none⟩) NB200_217.out _).trans (((cell_far (p := ⟨gb217, _, none⟩) NB200_217.out _).trans (((cell_far (p := ⟨gb217, _, none⟩) NB200_217.out _).trans (hHeld.2.1)))))), ((cell_far (p := ⟨gb217, _, none⟩) NB200_217.out _).trans (((cell_far (p := ⟨gb217, _, none⟩) NB200_217.out _).trans (((cell_far (p := ⟨gb217, _, none⟩) NB200_217.out _).trans (hHeld.2.2.1)))))), ((cell_far (p := ⟨gb217, _, none⟩) NB201_217.out _).trans (((cell_far (p := ⟨gb217, _, none⟩) NB201_217.out _).trans (((cell_far (p := ⟨gb217, _, none⟩) NB201_217.out _).trans (hHeld.2.2.2.1)))))), ((cell_far (p := ⟨gb217, _, none⟩) NB201_217.out _).trans (((cell_far (p := ⟨gb217, _, none⟩) NB201_217.out _).trans (((cell_far (p := ⟨gb217, _, none⟩) NB201_217.out _).trans (hHeld.2.2.2.2.1)))))), ((cell_far (p := ⟨gb217, _, none⟩) NB201_217.out _).trans (((cell_far (p := ⟨gb217, _, none⟩) NB201_217.out _).trans (((cell_far (p := ⟨gb217, _, none⟩) NB201_217.out _).trans (hHeld.2.2.2.2.2.1)))))), ((cell_far (p := ⟨gb217, _, none⟩) NB201_217.out _).trans (((cell_far (p := ⟨gb217, _, none⟩) NB201_217.out _).trans (((cell_far (p := ⟨gb217, _, none⟩) NB201_217.out _).trans (hHeld.2.2.2.2.2.2.1)))))), ((cell_far (p := ⟨gb217, _, none⟩) NB211_217.out _).trans (((cell_far (p := ⟨gb217, _, none⟩) NB211_217.out _).trans (((cell_far (p := ⟨gb217, _, none⟩) NB211_217.out _).trans (hHeld.2.2.2.2.2.2.2.1)))))), ((cell_far (p := ⟨gb217, _, none⟩) NB211_217.out _).trans (((cell_far (p := ⟨gb217, _, none⟩) NB211_217.out _).trans (((cell_far (p := ⟨gb217, _, none⟩) NB211_217.out _).trans (hHeld.2.2.2.2.2.2.2.2.1)))))), ((cell_far (p := ⟨gb217, _, none⟩) NB211_217.out _).trans (((cell_far (p := ⟨gb217, _, none⟩) NB211_217.out _).trans (((cell_far (p := ⟨gb217, _, none⟩) NB211_217.out _).trans (hHeld.2.2.2.2.2.2.2.2.2))))))⟩ (fun hHeld => ?_)
              clear hK K
              refine pure_ (i := 13) (N := some 9) (v := ?_) (a' := ?_) #[true, true, true, true, true, true, true, true, true, true, true, true, true, true] rfl rfl (any_of HT_.out (by kernel_rfl)) (fun _ _ _ h => h) (Or.inl ⟨by rfl, ?_⟩) ?_ ?_
              rotate_left
              · intro w'
                go_simp
                with_reducible rfl
              rotate_left
              · simp only [Act.put, List.setIfInBounds_toArray, List.set_cons_zero, List.set_cons_succ, i64_w, i32_w]
                rfl
              refine done_ (done_of HT_.out (by kernel_rfl)) ?_
              try go_wp2
              go_roundg k1
              case measure => have := HK1.out; omega
              case rel => exact ⟨(wrap64 (x20_1 + 1)), (x203000_1), (x203001_1), (x203002_1), (by first | rfl | (simp; done) | (simp [*]; done)), H', ⟨by have := HK1.out; omega⟩, ⟨by (with_reducible repeat (first | apply Kd.R_alloc | apply Kd.R_drewN | apply Kd.R_drew)); exact Kd.R_mono (Kd.R_far (p := ⟨gb217, 2, none⟩) (Kd.R_far (p := ⟨gb217, 1, none⟩) (Kd.R_far (p := ⟨gb217, 0, none⟩) (Kd.R_types HO_18.out BK217.out (by decide)) (fun _ hk => hk.2) (.int .i64 t213)) (fun _ hk => hk.2) (.int .i64 t214)) (fun _ hk => hk.2) (.int .u8 t215)) (fun _ hk => trivial)⟩, ⟨by (with_reducible repeat (first | refine blk_drewN ?_ _ | refine blk_drew ?_ | refine blk_alloc ?_ _)); refine blk_far ?_ NB200_217.out _; (with_reducible repeat (first | refine blk_drewN ?_ _ | refine blk_drew ?_ | refine blk_alloc ?_ _)); refine blk_far ?_ NB200_217.out _; (with_reducible repeat (first | refine blk_drewN ?_ _ | refine blk_drew ?_ | refine blk_alloc ?_ _)); refine blk_far ?_ NB200_217.out _; (with_reducible repeat (first | refine blk_drewN ?_ _ | refine blk_drew ?_ | refine blk_alloc ?_ _)); exact BK200.out⟩, ⟨by (with_reducible repeat (first | refine blk_drewN ?_ _ | refine blk_drew ?_ | refine blk_alloc ?_ _)); refine blk_far ?_ NB201_217.out _; (with_reducible repeat (first | refine blk_drewN ?_ _ | refine blk_drew ?_ | refine blk_alloc ?_ _)); refine blk_far ?_ NB201_217.out _; (with_reducible repeat (first | refine blk_drewN ?_ _ | refine blk_drew ?_ | refine blk_alloc ?_ _)); refine blk_far ?_ NB201_217.out _; (with_reducible repeat (first | refine blk_drewN ?_ _ | refine blk_drew ?_ | refine blk_alloc ?_ _)); exact BK201.out⟩, ⟨by (with_reducible repeat (first | refine blk_drewN ?_ _ | refine blk_drew ?_ | refine blk_alloc ?_ _)); refine blk_far ?_ NB202_217.out _; (with_reducible repeat (first | refine blk_drewN ?_ _ | refine blk_drew ?_ | refine blk_alloc ?_ _)); refine blk_far ?_ NB202_217.out _; (with_reducible repeat (first | refine blk_drewN ?_ _ | refine blk_drew ?_ | refine blk_alloc ?_ _)); refine blk_far ?_ NB202_217.out _; (with_reducible repeat (first | refine blk_drewN ?_ _ | refine blk_drew ?_ | refine blk_alloc ?_ _)); exact BK202.out⟩, ⟨by repeat (first | (with_reducible first | exact HB.out | apply below_alloc | apply pw_below_drewN | apply below_drew1 | refine below_set ?_ GE200.out | refine below_set ?_ GE201.out | refine below_set ?_ GE202.out | refine below_set ?_ GE211.out | refine below_set ?_ GE217.out) | exact HB.out)⟩⟩
          · rw [if_neg c14] at H
            exact absurd H (by simp)
        · rw [if_neg c13] at H
          exact absurd H (by simp)
      · rw [if_neg c12] at H
        have c12b0 : decide (x20_1 < (y203.length : Int)) = false := decide_eq_false c12
        clear c12
        replace H := Option.bind_eq_some_iff.mp H
        obtain ⟨⟨t206, t207, t208, t209⟩, A600, H⟩ := H
        replace H : (some (t206, t207, t208, t209)) = some (r1, r2, r3, r4) := H
        have A60 := Aside0.mk A600
        clear A600
        simp only [Option.some.injEq, Prod.mk.injEq] at H
        obtain ⟨rfl, rfl, rfl, rfl⟩ := H
        have hnb61 := NB200_201.out
        have hnc61 := NB201_200.out
        have hnb62 := NB200_202.out
        have hnc62 := NB202_200.out
        have hcz63_0 : wr.cell? ⟨gb200, 0, none⟩ = some (.int .i64 a0_0) := (blk_cell BK200.out 0).trans rfl
        have hcz63_1 : wr.cell? ⟨gb200, 1, none⟩ = some (.int .i64 a0_1) := (blk_cell BK200.out 1).trans rfl
        have hcz63_2 : wr.cell? ⟨gb200, 2, none⟩ = some (.bool a0_2) := (blk_cell BK200.out 2).trans rfl
        have hfz63_0 := blk_frozen BK200.out 0
        have hfz63_1 := blk_frozen BK200.out 1
        have hfz63_2 := blk_frozen BK200.out 2
        have hnb64 := NB201_202.out
        have hnc64 := NB202_201.out
        have hcz65_0 : wr.cell? ⟨gb201, 0, none⟩ = some (.int .i64 a1_0) := (blk_cell BK201.out 0).trans rfl
        have hcz65_1 : wr.cell? ⟨gb201, 1, none⟩ = some (.int .i64 a1_1) := (blk_cell BK201.out 1).trans rfl
        have hcz65_2 : wr.cell? ⟨gb201, 2, none⟩ = some (.int .u8 a1_2) := (blk_cell BK201.out 2).trans rfl
        have hcz65_3 : wr.cell? ⟨gb201, 3, none⟩ = some (.slice A1_3 l1_3.length c1_3) := (blk_cell BK201.out 3).trans rfl
        have hfz65_0 := blk_frozen BK201.out 0
        have hfz65_1 := blk_frozen BK201.out 1
        have hfz65_2 := blk_frozen BK201.out 2
        have hfz65_3 := blk_frozen BK201.out 3
        go_wp2_with (first | ((with_reducible refine gate_callee (f := 29) rfl ?_); refine goesL_ (some 52) rfl rfl Try.func29 (by kernel_rfl) rfl #[.agg #[.int .i64 a0_0, .int .i64 a0_1, .bool a0_2], .agg #[.int .i64 a1_0, .int .i64 a1_1, .int .u8 a1_2, .slice A1_3 l1_3.length c1_3]] rfl (by (try simp only [List.map_toArray, List.map_cons, List.map_nil]); first | done | rfl | (simp only [List.length_drop, List.length_take]; rfl)) ?_; (with_reducible refine (plan_retry.calls k1 a0_0 a0_1 a0_2 a1_0 a1_1 a1_2 _ _ l1_3 t206 t207 t208 t209 _ ?side1 ?side2 A60.out).mono ?_); (case side1 => repeat (first | exact (Kd.C_below HR1_3.out HB.out) | (with_reducible refine Kd.C_alloc ?_ _) | (with_reducible refine Kd.C_drewN ?_ _) | (with_reducible refine Kd.C_drew ?_))); (case side2 => exact HC1_3.out); rintro e w66 ⟨rfl, hb⟩; refine ⟨_, rfl, ?_⟩; have n0_ := Aside0.mk (Kd.R_below (by (with_reducible repeat (first | apply Kd.R_alloc | apply Kd.R_drewN | apply Kd.R_drew)); exact HO_18.out) hb); have n1_ := Aside0.mk (blk_below (g := gb200) (o := .cells #[.int .i64 a0_0, .int .i64 a0_1, .bool a0_2] 26 (0, 0)) (by (with_reducible repeat (first | refine blk_drewN ?_ _ | refine blk_drew ?_ | refine blk_alloc ?_ _)); exact BK200.out) hb); have n2_ := Aside0.mk (blk_below (g := gb201) (o := .cells #[.int .i64 a1_0, .int .i64 a1_1, .int .u8 a1_2, .slice A1_3 l1_3.length c1_3] 30 (0, 0)) (by (with_reducible repeat (first | refine blk_drewN ?_ _ | refine blk_drew ?_ | refine blk_alloc ?_ _)); exact BK201.out) hb); have n3_ := Aside0.mk (blk_below (g := gb202) (o := .cells #[.int .i64 x203000_1, .int .i64 x203001_1, .int .i64 x203002_1] 35 (0, 0)) (by (with_reducible repeat (first | refine blk_drewN ?_ _ | refine blk_drew ?_ | refine blk_alloc ?_ _)); exact BK202.out) hb); have n4_ := Aside0.mk (below_step (by repeat (first | (with_reducible first | exact HB.out | apply below_alloc | apply pw_below_drewN | apply below_drew1 | refine below_set ?_ GE200.out | refine below_set ?_ GE201.out | refine below_set ?_ GE202.out) | exact HB.out)) hb); clear HO_18; clear BK200; clear BK201; clear BK202; clear HB; have HO_18 := n0_; have BK200 := n1_; have BK201 := n2_; have BK202 := n3_; have HB := n4_; clear n0_ n1_ n2_ n3_ n4_; (try clear hb); (try clear hb2); (try clear hk); (try clear hi); have hcz67_0 : w66.cell? ⟨gb202, 0, none⟩ = some (.int .i64 x203000_1) := (blk_cell BK202.out 0).trans rfl; have hcz67_1 : w66.cell? ⟨gb202, 1, none⟩ = some (.int .i64 x203001_1) := (blk_cell BK202.out 1).trans rfl; have hcz67_2 : w66.cell? ⟨gb202, 2, none⟩ = some (.int .i64 x203002_1) := (blk_cell BK202.out 2).trans rfl; have hfz67_0 := blk_frozen BK202.out 0; have hfz67_1 := blk_frozen BK202.out 1; have hfz67_2 := blk_frozen BK202.out 2))
        refine bodyPost_ret (results_ct rfl _ _ gb202 35 #[.int .i64 t206, .int .i64 t207, .int .i64 t208] (0, 0) _ rfl (by (with_reducible repeat (first | refine blk_drewN ?_ _ | refine blk_drew ?_ | refine blk_alloc ?_ _)); refine blk_put (cs := #[.int .i64 t206, .int .i64 t207, .int .i64 x203002_1]) ?_ 2 _ rfl; (with_reducible repeat (first | refine blk_drewN ?_ _ | refine blk_drew ?_ | refine blk_alloc ?_ _)); refine blk_put (cs := #[.int .i64 t206, .int .i64 x203001_1, .int .i64 x203002_1]) ?_ 1 _ rfl; (with_reducible repeat (first | refine blk_drewN ?_ _ | refine blk_drew ?_ | refine blk_alloc ?_ _)); refine blk_put (cs := #[.int .i64 x203000_1, .int .i64 x203001_1, .int .i64 x203002_1]) ?_ 0 _ rfl; (with_reducible repeat (first | refine blk_drewN ?_ _ | refine blk_drew ?_ | refine blk_alloc ?_ _)); exact BK202.out) Try.underlying35 rfl (by kernel_rfl)) rfl ?_
        exact ⟨by first | rfl | (simp [errW_none, errW_some] <;> rfl) | (simp [*, errW_none, errW_some] <;> rfl), by repeat (first | (with_reducible first | exact HB.out | apply below_alloc | apply pw_below_drewN | apply below_drew1 | refine below_set ?_ GE200.out | refine below_set ?_ GE201.out | refine below_set ?_ GE202.out) | exact HB.out)⟩

end Go.Proofs.Ytiaopkgmhpjeeaa.MBoundHolds

-- printed by myprint.py (a program of this session's, over the kit's printer)
namespace Go.Proofs.Ytiaopkgmhpjeeaa.MBoundHolds
open Go.RowKit Go.Proofs.YtiaopkgmhpjeeaaW.PrintWords Go.Proofs.YtiaopkgmhpjeeaaW.PrintLast Go.Proofs.YtiaopkgmhpjeeaaW.PrintMore
attribute [local go_sem] max2_int min2_int max_two min_two max_three min_three max_four min_four   -- for this text's walks alone
set_option linter.unusedVariables false
set_option linter.unusedSimpArgs false

/-! ### plan_Next: function 9 -/
def plan_Next.f (k : Nat) (a0_0 : Int) (a0_1 : Int) (a0_2 : Bool) (a1_0 : Int) (a1_1 : Int) (a1_2 : Int) (l1_3 : List (S56)) : Option (Int × Int × Int) := (plan_May.f a0_0 a0_1 a0_2).bind fun t223 => (if t223 = true then ((maptext_May.f a1_0 a1_1 a1_2 l1_3).bind fun t224 => (if t224 = true then ((plan_next.f k a0_0 a0_1 a0_2 a1_0 a1_1 a1_2 l1_3).bind fun bt225 => (some (bt225.1, bt225.2.1, bt225.2.2.1))) else (some (0, 0, 0)))) else (some (0, 0, 0)))
theorem plan_Next.mono : ∀ a0 a1 a2 a3 a4 a5 a6 k, LeO (plan_Next.f k a0 a1 a2 a3 a4 a5 a6) (plan_Next.f (k + 1) a0 a1 a2 a3 a4 a5 a6) := by
  intro a0 a1 a2 a3 a4 a5 a6 k
  unfold plan_Next.f
  repeat' first
      | (with_reducible exact plan_next.mono _ _ _ _ _ _ _ _)
      | (with_reducible exact LeO.refl _)
      | (with_reducible exact LeO.none _)
      | (with_reducible refine LeO.ite ?_ ?_)
      | (with_reducible refine LeO.bind ?_ (fun _ => ?_))
      | exact plan_next.mono _ _ _ _ _ _ _ _
      | exact LeO.none _
      | refine LeO.ite ?_ ?_
      | refine LeO.bind ?_ (fun _ => ?_)
set_option maxHeartbeats 8000000 in
set_option maxRecDepth 100000 in
theorem plan_Next.calls (k : Nat) (a0_0 : Int) (a0_1 : Int) (a0_2 : Bool) (a1_0 : Int) (a1_1 : Int) (a1_2 : Int) (A1_3 : Option Addr) (c1_3 : Nat) (l1_3 : List (S56)) (r1 : Int) (r2 : Int) (r3 : Int) (w : World) (hr1_3 : Kd.C k56 w A1_3 l1_3.length l1_3) (hc1_3 : l1_3.length ≤ c1_3) (h : plan_Next.f k a0_0 a0_1 a0_2 a1_0 a1_1 a1_2 l1_3 = some (r1, r2, r3)) :
    Calls Try.prog 9 #[.agg #[.int .i64 a0_0, .int .i64 a0_1, .bool a0_2], .agg #[.int .i64 a1_0, .int .i64 a1_1, .int .u8 a1_2, .slice A1_3 l1_3.length c1_3]] w fun e w' => e = .returned (.agg #[.int .i64 r1, .int .i64 r2, .int .i64 r3]) ∧ Below w.heap.size w w' := by
  have hu26 := Try.underlying26
  have hu30 := Try.underlying30
  have hu35 := Try.underlying35
  have HR1_3 := Aside0.mk hr1_3
  have HC1_3 := Aside0.mk hc1_3
  clear hr1_3 hc1_3
  have HB := Aside0.mk (Below.refl w.heap.size w)
  have H : ((plan_May.f a0_0 a0_1 a0_2).bind fun t223 => (if t223 = true then ((maptext_May.f a1_0 a1_1 a1_2 l1_3).bind fun t224 => (if t224 = true then ((plan_next.f k a0_0 a0_1 a0_2 a1_0 a1_1 a1_2 l1_3).bind fun bt225 => (some (bt225.1, bt225.2.1, bt225.2.2.1))) else (some (0, 0, 0)))) else (some (0, 0, 0)))) = some (r1, r2, r3) := h
  clear h
  replace H := Option.bind_eq_some_iff.mp H
  obtain ⟨t223, A30, H⟩ := H
  replace H : (if t223 = true then ((maptext_May.f a1_0 a1_1 a1_2 l1_3).bind fun t224 => (if t224 = true then ((plan_next.f k a0_0 a0_1 a0_2 a1_0 a1_1 a1_2 l1_3).bind fun bt225 => (some (bt225.1, bt225.2.1, bt225.2.2.1))) else (some (0, 0, 0)))) else (some (0, 0, 0))) = some (r1, r2, r3) := H
  have A3 := Aside0.mk A30
  clear A30
  by_cases c4 : t223 = true
  · subst c4
    have H1 : ((maptext_May.f a1_0 a1_1 a1_2 l1_3).bind fun t224 => (if t224 = true then ((plan_next.f k a0_0 a0_1 a0_2 a1_0 a1_1 a1_2 l1_3).bind fun bt225 => (some (bt225.1, bt225.2.1, bt225.2.2.1))) else (some (0, 0, 0)))) = some (r1, r2, r3) := by rw [if_pos rfl] at H; exact H
    clear H
    have H := H1
    clear H1
    replace H := Option.bind_eq_some_iff.mp H
    obtain ⟨t224, A50, H⟩ := H
    replace H : (if t224 = true then ((plan_next.f k a0_0 a0_1 a0_2 a1_0 a1_1 a1_2 l1_3).bind fun bt225 => (some (bt225.1, bt225.2.1, bt225.2.2.1))) else (some (0, 0, 0))) = some (r1, r2, r3) := H
    have A5 := Aside0.mk A50
    clear A50
    by_cases c6 : t224 = true
    · subst c6
      have H1 : ((plan_next.f k a0_0 a0_1 a0_2 a1_0 a1_1 a1_2 l1_3).bind fun bt225 => (some (bt225.1, bt225.2.1, bt225.2.2.1))) = some (r1, r2, r3) := by rw [if_pos rfl] at H; exact H
      clear H
      have H := H1
      clear H1
      replace H := Option.bind_eq_some_iff.mp H
      obtain ⟨⟨t225, t226, t227, t228⟩, A70, H⟩ := H
      replace H : (some (t225, t226, t227)) = some (r1, r2, r3) := H
      have A7 := Aside0.mk A70
      clear A70
      simp only [Option.some.injEq, Prod.mk.injEq] at H
      obtain ⟨rfl, rfl, rfl⟩ := H
      go_enter Try.func9, Try.ntmps9
      go_wp2_with (first | ((with_reducible refine gate_dst (N := 2) rfl ?_); refine box_event ?hg (N := 2) ?hd (cs := #[.int .i64 a0_0, .int .i64 a0_1, .bool a0_2]) (t := 26) ?hr ?_; (case hd => rfl); (case hg => rfl); (case hr => first | (go_simp; done) | (go_simp; rfl)); intro gb220 hg w8 hbox hb; have n0_ := Aside0.mk (below_step (by repeat (first | (with_reducible first | exact HB.out | apply below_alloc | apply pw_below_drewN | apply below_drew1) | exact HB.out)) hb); have n1_ := Aside0.mk (hbox); have n2_ := Aside0.mk ((by rw [hg]; exact (below_size (by repeat (first | (with_reducible first | exact HB.out | apply below_alloc | apply pw_below_drewN | apply below_drew1) | exact HB.out))) : w.heap.size ≤ gb220)); have n3_ := Aside0.mk ((by rw [hg]; exact (below_size (by repeat (first | (with_reducible first | exact HB.out | apply below_alloc | apply pw_below_drewN | apply below_drew1) | exact HB.out))) : w.heap.size ≤ gb220)); clear HB; have HB := n0_; have BK220 := n1_; have GW220 := n2_; have GE220 := n3_; clear n0_ n1_ n2_ n3_; clear hb hbox hg) | ((with_reducible refine gate_dst (N := 3) rfl ?_); refine box_event ?hg (N := 3) ?hd (cs := #[.int .i64 a1_0, .int .i64 a1_1, .int .u8 a1_2, .slice A1_3 l1_3.length c1_3]) (t := 30) ?hr ?_; (case hd => rfl); (case hg => rfl); (case hr => first | (go_simp; done) | (go_simp; rfl)); intro gb221 hg w9 hbox hb; have n0_ := Aside0.mk (blk_below (g := gb220) (o := .cells #[.int .i64 a0_0, .int .i64 a0_1, .bool a0_2] 26 (0, 0)) (by (with_reducible repeat (first | refine blk_drewN ?_ _ | refine blk_drew ?_ | refine blk_alloc ?_ _)); exact BK220.out) hb); have n1_ := Aside0.mk (below_step (by repeat (first | (with_reducible first | exact HB.out | apply below_alloc | apply pw_below_drewN | apply below_drew1 | refine below_set ?_ GE220.out) | exact HB.out)) hb); have n2_ := Aside0.mk (hbox); have n3_ := Aside0.mk ((by rw [hg]; exact (below_size (by repeat (first | (with_reducible first | exact HB.out | apply below_alloc | apply pw_below_drewN | apply below_drew1 | refine below_set ?_ GE220.out) | exact HB.out))) : w.heap.size ≤ gb221)); have n4_ := Aside0.mk ((by rw [hg]; exact (below_size (by repeat (first | (with_reducible first | exact HB.out | apply below_alloc | apply pw_below_drewN | apply below_drew1 | refine below_set ?_ GE220.out) | exact HB.out))) : w.heap.size ≤ gb221)); have n5_ := Aside0.mk ((by rw [hg]; exact Nat.ne_of_lt (blk_lt (g := gb220) (o := .cells #[.int .i64 a0_0, .int .i64 a0_1, .bool a0_2] 26 (0, 0)) (by (with_reducible repeat (first | refine blk_drewN ?_ _ | refine blk_drew ?_ | refine blk_alloc ?_ _)); exact BK220.out)) : gb220 ≠ gb221)); have n6_ := Aside0.mk ((by rw [hg]; exact Nat.ne_of_gt (blk_lt (g := gb220) (o := .cells #[.int .i64 a0_0, .int .i64 a0_1, .bool a0_2] 26 (0, 0)) (by (with_reducible repeat (first | refine blk_drewN ?_ _ | refine blk_drew ?_ | refine blk_alloc ?_ _)); exact BK220.out)) : gb221 ≠ gb220)); clear BK220; clear HB; have BK220 := n0_; have HB := n1_; have BK221 := n2_; have GW221 := n3_; have GE221 := n4_; have NB220_221 := n5_; have NB221_220 := n6_; clear n0_ n1_ n2_ n3_ n4_ n5_ n6_; clear hb hbox hg) | ((with_reducible refine gate_dst (N := 4) rfl ?_); refine box_event ?hg (N := 4) ?hd (cs := #[.int .i64 0, .int .i64 0, .int .i64 0]) (t := 35) ?hr ?_; (case hd => rfl); (case hg => rfl); (case hr => first | (go_simp; done) | (go_simp; rfl)); intro gb222 hg w10 hbox hb; have n0_ := Aside0.mk (blk_below (g := gb220) (o := .cells #[.int .i64 a0_0, .int .i64 a0_1, .bool a0_2] 26 (0, 0)) (by (with_reducible repeat (first | refine blk_drewN ?_ _ | refine blk_drew ?_ | refine blk_alloc ?_ _)); exact BK220.out) hb); have n1_ := Aside0.mk (blk_below (g := gb221) (o := .cells #[.int .i64 a1_0, .int .i64 a1_1, .int .u8 a1_2, .slice A1_3 l1_3.length c1_3] 30 (0, 0)) (by (with_reducible repeat (first | refine blk_drewN ?_ _ | refine blk_drew ?_ | refine blk_alloc ?_ _)); exact BK221.out) hb); have n2_ := Aside0.mk (below_step (by repeat (first | (with_reducible first | exact HB.out | apply below_alloc | apply pw_below_drewN | apply below_drew1 | refine below_set ?_ GE220.out | refine below_set ?_ GE221.out) | exact HB.out)) hb); have n3_ := Aside0.mk (hbox); have n4_ := Aside0.mk ((by rw [hg]; exact (below_size (by repeat (first | (with_reducible first | exact HB.out | apply below_alloc | apply pw_below_drewN | apply below_drew1 | refine below_set ?_ GE220.out | refine below_set ?_ GE221.out) | exact HB.out))) : w.heap.size ≤ gb222)); have n5_ := Aside0.mk ((by rw [hg]; exact (below_size (by repeat (first | (with_reducible first | exact HB.out | apply below_alloc | apply pw_below_drewN | apply below_drew1 | refine below_set ?_ GE220.out | refine below_set ?_ GE221.out) | exact HB.out))) : w.heap.size ≤ gb222)); have n6_ := Aside0.mk ((by rw [hg]; exact Nat.ne_of_lt (blk_lt (g := gb220) (o := .cells #[.int .i64 a0_0, .int .i64 a0_1, .bool a0_2] 26 (0, 0)) (by (with_reducible repeat (first | refine blk_drewN ?_ _ | refine blk_drew ?_ | refine blk_alloc ?_ _)); exact BK220.out)) : gb220 ≠ gb222)); have n7_ := Aside0.mk ((by rw [hg]; exact Nat.ne_of_gt (blk_lt (g := gb220) (o := .cells #[.int .i64 a0_0, .int .i64 a0_1, .bool a0_2] 26 (0, 0)) (by (with_reducible repeat (first | refine blk_drewN ?_ _ | refine blk_drew ?_ | refine blk_alloc ?_ _)); exact BK220.out)) : gb222 ≠ gb220)); have n8_ := Aside0.mk ((by rw [hg]; exact Nat.ne_of_lt (blk_lt (g := gb221) (o := .cells #[.int .i64 a1_0, .int .i64 a1_1, .int .u8 a1_2, .slice A1_3 l1_3.length c1_3] 30 (0, 0)) (by (with_reducible repeat (first | refine blk_drewN ?_ _ | refine blk_drew ?_ | refine blk_alloc ?_ _)); exact BK221.out)) : gb221 ≠ gb222)); have n9_ := Aside0.mk ((by rw [hg]; exact Nat.ne_of_gt (blk_lt (g := gb221) (o := .cells #[.int .i64 a1_0, .int .i64 a1_1, .int .u8 a1_2, .slice A1_3 l1_3.length c1_3] 30 (0, 0)) (by (with_reducible repeat (first | refine blk_drewN ?_ _ | refine blk_drew ?_ | refine blk_alloc ?_ _)); exact BK221.out)) : gb222 ≠ gb221)); clear BK220; clear BK221; clear HB; have BK220 := n0_; have BK221 := n1_; have HB := n2_; have BK222 := n3_; have GW222 := n4_; have GE222 := n5_; have NB220_222 := n6_; have NB222_220 := n7_; have NB221_222 := n8_; have NB222_221 := n9_; clear n0_ n1_ n2_ n3_ n4_ n5_ n6_ n7_ n8_ n9_; clear hb hbox hg; have hnb11 := NB220_221.out; have hnc11 := NB221_220.out; have hnb12 := NB220_222.out; have hnc12 := NB222_220.out; have hcz13_0 : w10.cell? ⟨gb220, 0, none⟩ = some (.int .i64 a0_0) := (blk_cell BK220.out 0).trans rfl; have hcz13_1 : w10.cell? ⟨gb220, 1, none⟩ = some (.int .i64 a0_1) := (blk_cell BK220.out 1).trans rfl; have hcz13_2 : w10.cell? ⟨gb220, 2, none⟩ = some (.bool a0_2) := (blk_cell BK220.out 2).trans rfl; have hfz13_0 := blk_frozen BK220.out 0; have hfz13_1 := blk_frozen BK220.out 1; have hfz13_2 := blk_frozen BK220.out 2) | ((with_reducible refine gate_callee (f := 17) rfl ?_); refine goesL_ (some 8) rfl rfl Try.func17 (by kernel_rfl) rfl #[.agg #[.int .i64 a0_0, .int .i64 a0_1, .bool a0_2]] rfl (by (try simp only [List.map_toArray, List.map_cons, List.map_nil]); first | done | rfl | (simp only [List.length_drop, List.length_take]; rfl)) ?_; (with_reducible refine (plan_May.calls a0_0 a0_1 a0_2 true _ A3.out).mono ?_); rintro e w14 ⟨rfl, hb⟩; refine ⟨_, rfl, ?_⟩; have n0_ := Aside0.mk (blk_below (g := gb220) (o := .cells #[.int .i64 a0_0, .int .i64 a0_1, .bool a0_2] 26 (0, 0)) (by (with_reducible repeat (first | refine blk_drewN ?_ _ | refine blk_drew ?_ | refine blk_alloc ?_ _)); exact BK220.out) hb); have n1_ := Aside0.mk (blk_below (g := gb221) (o := .cells #[.int .i64 a1_0, .int .i64 a1_1, .int .u8 a1_2, .slice A1_3 l1_3.length c1_3] 30 (0, 0)) (by (with_reducible repeat (first | refine blk_drewN ?_ _ | refine blk_drew ?_ | refine blk_alloc ?_ _)); exact BK221.out) hb); have n2_ := Aside0.mk (blk_below (g := gb222) (o := .cells #[.int .i64 0, .int .i64 0, .int .i64 0] 35 (0, 0)) (by (with_reducible repeat (first | refine blk_drewN ?_ _ | refine blk_drew ?_ | refine blk_alloc ?_ _)); exact BK222.out) hb); have n3_ := Aside0.mk (below_step (by repeat (first | (with_reducible first | exact HB.out | apply below_alloc | apply pw_below_drewN | apply below_drew1 | refine below_set ?_ GE220.out | refine below_set ?_ GE221.out | refine below_set ?_ GE222.out) | exact HB.out)) hb); clear BK220; clear BK221; clear BK222; clear HB; have BK220 := n0_; have BK221 := n1_; have BK222 := n2_; have HB := n3_; clear n0_ n1_ n2_ n3_; (try clear hb); (try clear hb2); (try clear hk); (try clear hi); have hnb15 := NB221_222.out; have hnc15 := NB222_221.out; have hcz16_0 : w14.cell? ⟨gb221, 0, none⟩ = some (.int .i64 a1_0) := (blk_cell BK221.out 0).trans rfl; have hcz16_1 : w14.cell? ⟨gb221, 1, none⟩ = some (.int .i64 a1_1) := (blk_cell BK221.out 1).trans rfl; have hcz16_2 : w14.cell? ⟨gb221, 2, none⟩ = some (.int .u8 a1_2) := (blk_cell BK221.out 2).trans rfl; have hcz16_3 : w14.cell? ⟨gb221, 3, none⟩ = some (.slice A1_3 l1_3.length c1_3) := (blk_cell BK221.out 3).trans rfl; have hfz16_0 := blk_frozen BK221.out 0; have hfz16_1 := blk_frozen BK221.out 1; have hfz16_2 := blk_frozen BK221.out 2; have hfz16_3 := blk_frozen BK221.out 3) | (go_at_call 7; (with_reducible refine (maptext_May.calls a1_0 a1_1 a1_2 _ _ l1_3 true _ ?side1 ?side2 A5.out).mono ?_); (case side1 => repeat (first | exact (Kd.C_below HR1_3.out HB.out) | (with_reducible refine Kd.C_alloc ?_ _) | (with_reducible refine Kd.C_drewN ?_ _) | (with_reducible refine Kd.C_drew ?_))); (case side2 => exact HC1_3.out); rintro e w17 ⟨rfl, hb⟩; have n0_ := Aside0.mk (blk_below (g := gb220) (o := .cells #[.int .i64 a0_0, .int .i64 a0_1, .bool a0_2] 26 (0, 0)) (by (with_reducible repeat (first | refine blk_drewN ?_ _ | refine blk_drew ?_ | refine blk_alloc ?_ _)); exact BK220.out) hb); have n1_ := Aside0.mk (blk_below (g := gb221) (o := .cells #[.int .i64 a1_0, .int .i64 a1_1, .int .u8 a1_2, .slice A1_3 l1_3.length c1_3] 30 (0, 0)) (by (with_reducible repeat (first | refine blk_drewN ?_ _ | refine blk_drew ?_ | refine blk_alloc ?_ _)); exact BK221.out) hb); have n2_ := Aside0.mk (blk_below (g := gb222) (o := .cells #[.int .i64 0, .int .i64 0, .int .i64 0] 35 (0, 0)) (by (with_reducible repeat (first | refine blk_drewN ?_ _ | refine blk_drew ?_ | refine blk_alloc ?_ _)); exact BK222.out) hb); have n3_ := Aside0.mk (below_step (by repeat (first | (with_reducible first | exact HB.out | apply below_alloc | apply pw_below_drewN | apply below_drew1 | refine below_set ?_ GE220.out | refine below_set ?_ GE221.out | refine below_set ?_ GE222.out) | exact HB.out)) hb); clear BK220; clear BK221; clear BK222; clear HB; have BK220 := n0_; have BK221 := n1_; have BK222 := n2_; have HB := n3_; clear n0_ n1_ n2_ n3_; (try clear hb); (try clear hb2); (try clear hk); (try clear hi); have hcz18_0 : w17.cell? ⟨gb220, 0, none⟩ = some (.int .i64 a0_0) := (blk_cell BK220.out 0).trans rfl; have hcz18_1 : w17.cell? ⟨gb220, 1, none⟩ = some (.int .i64 a0_1) := (blk_cell BK220.out 1).trans rfl; have hcz18_2 : w17.cell? ⟨gb220, 2, none⟩ = some (.bool a0_2) := (blk_cell BK220.out 2).trans rfl; have hfz18_0 := blk_frozen BK220.out 0; have hfz18_1 := blk_frozen BK220.out 1; have hfz18_2 := blk_frozen BK220.out 2; have hcz19_0 : w17.cell? ⟨gb221, 0, none⟩ = some (.int .i64 a1_0) := (blk_cell BK221.out 0).trans rfl; have hcz19_1 : w17.cell? ⟨gb221, 1, none⟩ = some (.int .i64 a1_1) := (blk_cell BK221.out 1).trans rfl; have hcz19_2 : w17.cell? ⟨gb221, 2, none⟩ = some (.int .u8 a1_2) := (blk_cell BK221.out 2).trans rfl; have hcz19_3 : w17.cell? ⟨gb221, 3, none⟩ = some (.slice A1_3 l1_3.length c1_3) := (blk_cell BK221.out 3).trans rfl; have hfz19_0 := blk_frozen BK221.out 0; have hfz19_1 := blk_frozen BK221.out 1; have hfz19_2 := blk_frozen BK221.out 2; have hfz19_3 := blk_frozen BK221.out 3) | ((with_reducible refine gate_callee (f := 18) rfl ?_); refine goesL_ (some 19) rfl rfl Try.func18 (by kernel_rfl) rfl #[.agg #[.int .i64 a0_0, .int .i64 a0_1, .bool a0_2], .agg #[.int .i64 a1_0, .int .i64 a1_1, .int .u8 a1_2, .slice A1_3 l1_3.length c1_3]] rfl (by (try simp only [List.map_toArray, List.map_cons, List.map_nil]); first | done | rfl | (simp only [List.length_drop, List.length_take]; rfl)) ?_; (with_reducible refine (plan_next.calls k a0_0 a0_1 a0_2 a1_0 a1_1 a1_2 _ _ l1_3 t225 t226 t227 t228 _ ?side1 ?side2 A7.out).mono ?_); (case side1 => repeat (first | exact (Kd.C_below HR1_3.out HB.out) | (with_reducible refine Kd.C_alloc ?_ _) | (with_reducible refine Kd.C_drewN ?_ _) | (with_reducible refine Kd.C_drew ?_))); (case side2 => exact HC1_3.out); rintro e w20 ⟨rfl, hb⟩; refine ⟨_, rfl, ?_⟩; have n0_ := Aside0.mk (blk_below (g := gb220) (o := .cells #[.int .i64 a0_0, .int .i64 a0_1, .bool a0_2] 26 (0, 0)) (by (with_reducible repeat (first | refine blk_drewN ?_ _ | refine blk_drew ?_ | refine blk_alloc ?_ _)); exact BK220.out) hb); have n1_ := Aside0.mk (blk_below (g := gb221) (o := .cells #[.int .i64 a1_0, .int .i64 a1_1, .int .u8 a1_2, .slice A1_3 l1_3.length c1_3] 30 (0, 0)) (by (with_reducible repeat (first | refine blk_drewN ?_ _ | refine blk_drew ?_ | refine blk_alloc ?_ _)); exact BK221.out) hb); have n2_ := Aside0.mk (blk_below (g := gb222) (o := .cells #[.int .i64 0, .int .i64 0, .int .i64 0] 35 (0, 0)) (by (with_reducible repeat (first | refine blk_drewN ?_ _ | refine blk_drew ?_ | refine blk_alloc ?_ _)); exact BK222.out) hb); have n3_ := Aside0.mk (below_step (by repeat (first | (with_reducible first | exact HB.out | apply below_alloc | apply pw_below_drewN | apply below_drew1 | refine below_set ?_ GE220.out | refine below_set ?_ GE221.out | refine below_set ?_ GE222.out) | exact HB.out)) hb); clear BK220; clear BK221; clear BK222; clear HB; have BK220 := n0_; have BK221 := n1_; have BK222 := n2_; have HB := n3_; clear n0_ n1_ n2_ n3_; (try clear hb); (try clear hb2); (try clear hk); (try clear hi)) | ((with_reducible refine gate_dst (N := 5) rfl ?_); refine box_event ?hg (N := 5) ?hd (cs := #[.int .i64 0, .int .i64 0, .int .i64 0]) (t := 35) ?hr ?_; (case hd => rfl); (case hg => rfl); (case hr => first | (go_simp; done) | (go_simp; rfl)); intro gb229 hg w21 hbox hb; have n0_ := Aside0.mk (blk_below (g := gb220) (o := .cells #[.int .i64 a0_0, .int .i64 a0_1, .bool a0_2] 26 (0, 0)) (by (with_reducible repeat (first | refine blk_drewN ?_ _ | refine blk_drew ?_ | refine blk_alloc ?_ _)); exact BK220.out) hb); have n1_ := Aside0.mk (blk_below (g := gb221) (o := .cells #[.int .i64 a1_0, .int .i64 a1_1, .int .u8 a1_2, .slice A1_3 l1_3.length c1_3] 30 (0, 0)) (by (with_reducible repeat (first | refine blk_drewN ?_ _ | refine blk_drew ?_ | refine blk_alloc ?_ _)); exact BK221.out) hb); have n2_ := Aside0.mk (blk_below (g := gb222) (o := .cells #[.int .i64 0, .int .i64 0, .int .i64 0] 35 (0, 0)) (by (with_reducible repeat (first | refine blk_drewN ?_ _ | refine blk_drew ?_ | refine blk_alloc ?_ _)); exact BK222.out) hb); have n3_ := Aside0.mk (below_step (by repeat (first | (with_reducible first | exact HB.out | apply below_alloc | apply pw_below_drewN | apply below_drew1 | refine below_set ?_ GE220.out | refine below_set ?_ GE221.out | refine below_set ?_ GE222.out) | exact HB.out)) hb); have n4_ := Aside0.mk (hbox); have n5_ := Aside0.mk ((by rw [hg]; exact (below_size (by repeat (first | (with_reducible first | exact HB.out | apply below_alloc | apply pw_below_drewN | apply below_drew1 | refine below_set ?_ GE220.out | refine below_set ?_ GE221.out | refine below_set ?_ GE222.out) | exact HB.out))) : w.heap.size ≤ gb229)); have n6_ := Aside0.mk ((by rw [hg]; exact (below_size (by repeat (first | (with_reducible first | exact HB.out | apply below_alloc | apply pw_below_drewN | apply below_drew1 | refine below_set ?_ GE220.out | refine below_set ?_ GE221.out | refine below_set ?_ GE222.out) | exact HB.out))) : w.heap.size ≤ gb229)); have n7_ := Aside0.mk ((by rw [hg]; exact Nat.ne_of_lt (blk_lt (g := gb220) (o := .cells #[.int .i64 a0_0, .int .i64 a0_1, .bool a0_2] 26 (0, 0)) (by (with_reducible repeat (first | refine blk_drewN ?_ _ | refine blk_drew ?_ | refine blk_alloc ?_ _)); exact BK220.out)) : gb220 ≠ gb229)); have n8_ := Aside0.mk ((by rw [hg]; exact Nat.ne_of_gt (blk_lt (g := gb220) (o := .cells #[.int .i64 a0_0, .int .i64 a0_1, .bool a0_2] 26 (0, 0)) (by (with_reducible repeat (first | refine blk_drewN ?_ _ | refine blk_drew ?_ | refine blk_alloc ?_ _)); exact BK220.out)) : gb229 ≠ gb220)); have n9_ := Aside0.mk ((by rw [hg]; exact Nat.ne_of_lt (blk_lt (g := gb221) (o := .cells #[.int .i64 a1_0, .int .i64 a1_1, .int .u8 a1_2, .slice A1_3 l1_3.length c1_3] 30 (0, 0)) (by (with_reducible repeat (first | refine blk_drewN ?_ _ | refine blk_drew ?_ | refine blk_alloc ?_ _)); exact BK221.out)) : gb221 ≠ gb229)); have n10_ := Aside0.mk ((by rw [hg]; exact Nat.ne_of_gt (blk_lt (g := gb221) (o := .cells #[.int .i64 a1_0, .int .i64 a1_1, .int .u8 a1_2, .slice A1_3 l1_3.length c1_3] 30 (0, 0)) (by (with_reducible repeat (first | refine blk_drewN ?_ _ | refine blk_drew ?_ | refine blk_alloc ?_ _)); exact BK221.out)) : gb229 ≠ gb221)); have n11_ := Aside0.mk ((by rw [hg]; exact Nat.ne_of_lt (blk_lt (g := gb222) (o := .cells #[.int .i64 0, .int .i64 0, .int .i64 0] 35 (0, 0)) (by (with_reducible repeat (first | refine blk_drewN ?_ _ | refine blk_drew ?_ | refine blk_alloc ?_ _)); exact BK222.out)) : gb222 ≠ gb229)); have n12_ := Aside0.mk ((by rw [hg]; exact Nat.ne_of_gt (blk_lt (g := gb222) (o := .cells #[.int .i64 0, .int .i64 0, .int .i64 0] 35 (0, 0)) (by (with_reducible repeat (first | refine blk_drewN ?_ _ | refine blk_drew ?_ | refine blk_alloc ?_ _)); exact BK222.out)) : gb229 ≠ gb222)); clear BK220; clear BK221; clear BK222; clear HB; have BK220 := n0_; have BK221 := n1_; have BK222 := n2_; have HB := n3_; have BK229 := n4_; have GW229 := n5_; have GE229 := n6_; have NB220_229 := n7_; have NB229_220 := n8_; have NB221_229 := n9_; have NB229_221 := n10_; have NB222_229 := n11_; have NB229_222 := n12_; clear n0_ n1_ n2_ n3_ n4_ n5_ n6_ n7_ n8_ n9_ n10_ n11_ n12_; clear hb hbox hg; have hnb22 := NB229_220.out; have hnc22 := NB220_229.out; have hnb23 := NB229_221.out; have hnc23 := NB221_229.out; have hnb24 := NB229_222.out; have hnc24 := NB222_229.out; have hcz25_0 : w21.cell? ⟨gb229, 0, none⟩ = some (.int .i64 0) := (blk_cell BK229.out 0).trans rfl; have hcz25_1 : w21.cell? ⟨gb229, 1, none⟩ = some (.int .i64 0) := (blk_cell BK229.out 1).trans rfl; have hcz25_2 : w21.cell? ⟨gb229, 2, none⟩ = some (.int .i64 0) := (blk_cell BK229.out 2).trans rfl; have hfz25_0 := blk_frozen BK229.out 0; have hfz25_1 := blk_frozen BK229.out 1; have hfz25_2 := blk_frozen BK229.out 2; have hcz26_0 : w21.cell? ⟨gb222, 0, none⟩ = some (.int .i64 0) := (blk_cell BK222.out 0).trans rfl; have hcz26_1 : w21.cell? ⟨gb222, 1, none⟩ = some (.int .i64 0) := (blk_cell BK222.out 1).trans rfl; have hcz26_2 : w21.cell? ⟨gb222, 2, none⟩ = some (.int .i64 0) := (blk_cell BK222.out 2).trans rfl; have hfz26_0 := blk_frozen BK222.out 0; have hfz26_1 := blk_frozen BK222.out 1; have hfz26_2 := blk_frozen BK222.out 2))
      refine bodyPost_ret (results_cell_row rfl _ _ gb222 35 #[.int .i64 t225, .int .i64 t226, .int .i64 t227] (0, 0) _ rfl (by (with_reducible repeat (first | refine blk_drewN ?_ _ | refine blk_drew ?_ | refine blk_alloc ?_ _)); refine blk_put (cs := #[.int .i64 t225, .int .i64 t226, .int .i64 0]) ?_ 2 _ rfl; (with_reducible repeat (first | refine blk_drewN ?_ _ | refine blk_drew ?_ | refine blk_alloc ?_ _)); refine blk_put (cs := #[.int .i64 t225, .int .i64 0, .int .i64 0]) ?_ 1 _ rfl; (with_reducible repeat (first | refine blk_drewN ?_ _ | refine blk_drew ?_ | refine blk_alloc ?_ _)); refine blk_put (cs := #[.int .i64 0, .int .i64 0, .int .i64 0]) ?_ 0 _ rfl; (with_reducible repeat (first | refine blk_drewN ?_ _ | refine blk_drew ?_ | refine blk_alloc ?_ _)); refine blk_far ?_ NB222_229.out _; (with_reducible repeat (first | refine blk_drewN ?_ _ | refine blk_drew ?_ | refine blk_alloc ?_ _)); refine blk_far ?_ NB222_229.out _; (with_reducible repeat (first | refine blk_drewN ?_ _ | refine blk_drew ?_ | refine blk_alloc ?_ _)); refine blk_far ?_ NB222_229.out _; (with_reducible repeat (first | refine blk_drewN ?_ _ | refine blk_drew ?_ | refine blk_alloc ?_ _)); exact BK222.out) Try.underlying35 rfl (by kernel_rfl)) rfl ?_
      exact ⟨by first | rfl | (simp [errW_none, errW_some] <;> rfl) | (simp [*, errW_none, errW_some] <;> rfl), by repeat (first | (with_reducible first | exact HB.out | apply below_alloc | apply pw_below_drewN | apply below_drew1 | refine below_set ?_ GE220.out | refine below_set ?_ GE221.out | refine below_set ?_ GE222.out | refine below_set ?_ GE229.out) | exact HB.out)⟩
    · replace c6 := Bool.eq_false_iff.mpr c6
      subst c6
      have H1 : (some (0, 0, 0)) = some (r1, r2, r3) := by rw [if_neg (show ¬ (false = true) by decide)] at H; exact H
      clear H
      have H := H1
      clear H1
      simp only [Option.some.injEq, Prod.mk.injEq] at H
      obtain ⟨rfl, rfl, rfl⟩ := H
      go_enter Try.func9, Try.ntmps9
      go_wp2_with (first | ((with_reducible refine gate_dst (N := 2) rfl ?_); refine box_event ?hg (N := 2) ?hd (cs := #[.int .i64 a0_0, .int .i64 a0_1, .bool a0_2]) (t := 26) ?hr ?_; (case hd => rfl); (case hg => rfl); (case hr => first | (go_simp; done) | (go_simp; rfl)); intro gb220 hg w27 hbox hb; have n0_ := Aside0.mk (below_step (by repeat (first | (with_reducible first | exact HB.out | apply below_alloc | apply pw_below_drewN | apply below_drew1) | exact HB.out)) hb); have n1_ := Aside0.mk (hbox); have n2_ := Aside0.mk ((by rw [hg]; exact (below_size (by repeat (first | (with_reducible first | exact HB.out | apply below_alloc | apply pw_below_drewN | apply below_drew1) | exact HB.out))) : w.heap.size ≤ gb220)); have n3_ := Aside0.mk ((by rw [hg]; exact (below_size (by repeat (first | (with_reducible first | exact HB.out | apply below_alloc | apply pw_below_drewN | apply below_drew1) | exact HB.out))) : w.heap.size ≤ gb220)); clear HB; have HB := n0_; have BK220 := n1_; have GW220 := n2_; have GE220 := n3_; clear n0_ n1_ n2_ n3_; clear hb hbox hg) | ((with_reducible refine gate_dst (N := 3) rfl ?_); refine box_event ?hg (N := 3) ?hd (cs := #[.int .i64 a1_0, .int .i64 a1_1, .int .u8 a1_2, .slice A1_3 l1_3.length c1_3]) (t := 30) ?hr ?_; (case hd => rfl); (case hg => rfl); (case hr => first | (go_simp; done) | (go_simp; rfl)); intro gb221 hg w28 hbox hb; have n0_ := Aside0.mk (blk_below (g := gb220) (o := .cells #[.int .i64 a0_0, .int .i64 a0_1, .bool a0_2] 26 (0, 0)) (by (with_reducible repeat (first | refine blk_drewN ?_ _ | refine blk_drew ?_ | refine blk_alloc ?_ _)); exact BK220.out) hb); have n1_ := Aside0.mk (below_step (by repeat (first | (with_reducible first | exact HB.out | apply below_alloc | apply pw_below_drewN | apply below_drew1 | refine below_set ?_ GE220.out) | exact HB.out)) hb); have n2_ := Aside0.mk (hbox); have n3_ := Aside0.mk ((by rw [hg]; exact (below_size (by repeat (first | (with_reducible first | exact HB.out | apply below_alloc | apply pw_below_drewN | apply below_drew1 | refine below_set ?_ GE220.out) | exact HB.out))) : w.heap.size ≤ gb221)); have n4_ := Aside0.mk ((by rw [hg]; exact (below_size (by repeat (first | (with_reducible first | exact HB.out | apply below_alloc | apply pw_below_drewN | apply below_drew1 | refine below_set ?_ GE220.out) | exact HB.out))) : w.heap.size ≤ gb221)); have n5_ := Aside0.mk ((by rw [hg]; exact Nat.ne_of_lt (blk_lt (g := gb220) (o := .cells #[.int .i64 a0_0, .int .i64 a0_1, .bool a0_2] 26 (0, 0)) (by (with_reducible repeat (first | refine blk_drewN ?_ _ | refine blk_drew ?_ | refine blk_alloc ?_ _)); exact BK220.out)) : gb220 ≠ gb221)); have n6_ := Aside0.mk ((by rw [hg]; exact Nat.ne_of_gt (blk_lt (g := gb220) (o := .cells #[.int .i64 a0_0, .int .i64 a0_1, .bool a0_2] 26 (0, 0)) (by (with_reducible repeat (first | refine blk_drewN ?_ _ | refine blk_drew ?_ | refine blk_alloc ?_ _)); exact BK220.out)) : gb221 ≠ gb220)); clear BK220; clear HB; have BK220 := n0_; have HB := n1_; have BK221 := n2_; have GW221 := n3_; have GE221 := n4_; have NB220_221 := n5_; have NB221_220 := n6_; clear n0_ n1_ n2_ n3_ n4_ n5_ n6_; clear hb hbox hg) | ((with_reducible refine gate_dst (N := 4) rfl ?_); refine box_event ?hg (N := 4) ?hd (cs := #[.int .i64 0, .int .i64 0, .int .i64 0]) (t := 35) ?hr ?_; (case hd => rfl); (case hg => rfl); (case hr => first | (go_simp; done) | (go_simp; rfl)); intro gb222 hg w29 hbox hb; have n0_ := Aside0.mk (blk_below (g := gb220) (o := .cells #[.int .i64 a0_0, .int .i64 a0_1, .bool a0_2] 26 (0, 0)) (by (with_reducible repeat (first | refine blk_drewN ?_ _ | refine blk_drew ?_ | refine blk_alloc ?_ _)); exact BK220.out) hb); have n1_ := Aside0.mk (blk_below (g := gb221) (o := .cells #[.int .i64 a1_0, .int .i64 a1_1, .int .u8 a1_2, .slice A1_3 l1_3.length c1_3] 30 (0, 0)) (by (with_reducible repeat (first | refine blk_drewN ?_ _ | refine blk_drew ?_ | refine blk_alloc ?_ _)); exact BK221.out) hb); have n2_ := Aside0.mk (below_step (by repeat (first | (with_reducible first | exact HB.out | apply below_alloc | apply pw_below_drewN | apply below_drew1 | refine below_set ?_ GE220.out | refine below_set ?_ GE221.out) | exact HB.out)) hb); have n3_ := Aside0.mk (hbox); have n4_ := Aside0.mk ((by rw [hg]; exact (below_size (by repeat (first | (with_reducible first | exact HB.out | apply below_alloc | apply pw_below_drewN | apply below_drew1 | refine below_set ?_ GE220.out | refine below_set ?_ GE221.out) | exact HB.out))) : w.heap.size ≤ gb222)); have n5_ := Aside0.mk ((by rw [hg]; exact (below_size (by repeat (first | (with_reducible first | exact HB.out | apply below_alloc | apply pw_below_drewN | apply below_drew1 | refine below_set ?_ GE220.out | refine below_set ?_ GE221.out) | exact HB.out))) : w.heap.size ≤ gb222)); have n6_ := Aside0.mk ((by rw [hg]; exact Nat.ne_of_lt (blk_lt (g := gb220) (o := .cells #[.int .i64 a0_0, .int .i64 a0_1, .bool a0_2] 26 (0, 0)) (by (with_reducible repeat (first | refine blk_drewN ?_ _ | refine blk_drew ?_ | refine blk_alloc ?_ _)); exact BK220.out)) : gb220 ≠ gb222)); have n7_ := Aside0.mk ((by rw [hg]; exact Nat.ne_of_gt (blk_lt (g := gb220) (o := .cells #[.int .i64 a0_0, .int .i64 a0_1, .bool a0_2] 26 (0, 0)) (by (with_reducible repeat (first | refine blk_drewN ?_ _ | refine blk_drew ?_ | refine blk_alloc ?_ _)); exact BK220.out)) : gb222 ≠ gb220)); have n8_ := Aside0.mk ((by rw [hg]; exact Nat.ne_of_lt (blk_lt (g := gb221) (o := .cells #[.int .i64 a1_0, .int .i64 a1_1, .int .u8 a1_2, .slice A1_3 l1_3.length c1_3] 30 (0, 0)) (by (with_reducible repeat (first | refine blk_drewN ?_ _ | refine blk_drew ?_ | refine blk_alloc ?_ _)); exact BK221.out)) : gb221 ≠ gb222)); have n9_ := Aside0.mk ((by rw [hg]; exact Nat.ne_of_gt (blk_lt (g := gb221) (o := .cells #[.int .i64 a1_0, .int .i64 a1_1, .int .u8 a1_2, .slice A1_3 l1_3.length c1_3] 30 (0, 0)) (by (with_reducible repeat (first | refine blk_drewN ?_ _ | refine blk_drew ?_ | refine blk_alloc ?_ _)); exact BK221.out)) : gb222 ≠ gb221)); clear BK220; clear BK221; clear HB; have BK220 := n0_; have BK221 := n1_; have HB := n2_; have BK222 := n3_; have GW222 := n4_; have GE222 := n5_; have NB220_222 := n6_; have NB222_220 := n7_; have NB221_222 := n8_; have NB222_221 := n9_; clear n0_ n1_ n2_ n3_ n4_ n5_ n6_ n7_ n8_ n9_; clear hb hbox hg; have hnb30 := NB220_221.out; have hnc30 := NB221_220.out; have hnb31 := NB220_222.out; have hnc31 := NB222_220.out; have hcz32_0 : w29.cell? ⟨gb220, 0, none⟩ = some (.int .i64 a0_0) := (blk_cell BK220.out 0).trans rfl; have hcz32_1 : w29.cell? ⟨gb220, 1, none⟩ = some (.int .i64 a0_1) := (blk_cell BK220.out 1).trans rfl; have hcz32_2 : w29.cell? ⟨gb220, 2, none⟩ = some (.bool a0_2) := (blk_cell BK220.out 2).trans rfl; have hfz32_0 := blk_frozen BK220.out 0; have hfz32_1 := blk_frozen BK220.out 1; have hfz32_2 := blk_frozen BK220.out 2) | ((with_reducible refine gate_callee (f := 17) rfl ?_); refine goesL_ (some 8) rfl rfl Try.func17 (by kernel_rfl) rfl #[.agg #[.int .i64 a0_0, .int .i64 a0_1, .bool a0_2]] rfl (by (try simp only [List.map_toArray, List.map_cons, List.map_nil]); first | done | rfl | (simp only [List.length_drop, List.length_take]; rfl)) ?_; (with_reducible refine (plan_May.calls a0_0 a0_1 a0_2 true _ A3.out).mono ?_); rintro e w33 ⟨rfl, hb⟩; refine ⟨_, rfl, ?_⟩; have n0_ := Aside0.mk (blk_below (g := gb220) (o := .cells #[.int .i64 a0_0, .int .i64 a0_1, .bool a0_2] 26 (0, 0)) (by (with_reducible repeat (first | refine blk_drewN ?_ _ | refine blk_drew ?_ | refine blk_alloc ?_ _)); exact BK220.out) hb); have n1_ := Aside0.mk (blk_below (g := gb221) (o := .cells #[.int .i64 a1_0, .int .i64 a1_1, .int .u8 a1_2, .slice A1_3 l1_3.length c1_3] 30 (0, 0)) (by (with_reducible repeat (first | refine blk_drewN ?_ _ | refine blk_drew ?_ | refine blk_alloc ?_ _)); exact BK221.out) hb); have n2_ := Aside0.mk (blk_below (g := gb222) (o := .cells #[.int .i64 0, .int .i64 0, .int .i64 0] 35 (0, 0)) (by (with_reducible repeat (first | refine blk_drewN ?_ _ | refine blk_drew ?_ | refine blk_alloc ?_ _)); exact BK222.out) hb); have n3_ := Aside0.mk (below_step (by repeat (first | (with_reducible first | exact HB.out | apply below_alloc | apply pw_below_drewN | apply below_drew1 | refine below_set ?_ GE220.out | refine below_set ?_ GE221.out | refine below_set ?_ GE222.out) | exact HB.out)) hb); clear BK220; clear BK221; clear BK222; clear HB; have BK220 := n0_; have BK221 := n1_; have BK222 := n2_; have HB := n3_; clear n0_ n1_ n2_ n3_; (try clear hb); (try clear hb2); (try clear hk); (try clear hi); have hnb34 := NB221_222.out; have hnc34 := NB222_221.out; have hcz35_0 : w33.cell? ⟨gb221, 0, none⟩ = some (.int .i64 a1_0) := (blk_cell BK221.out 0).trans rfl; have hcz35_1 : w33.cell? ⟨gb221, 1, none⟩ = some (.int .i64 a1_1) := (blk_cell BK221.out 1).trans rfl; have hcz35_2 : w33.cell? ⟨gb221, 2, none⟩ = some (.int .u8 a1_2) := (blk_cell BK221.out 2).trans rfl; have hcz35_3 : w33.cell? ⟨gb221, 3, none⟩ = some (.slice A1_3 l1_3.length c1_3) := (blk_cell BK221.out 3).trans rfl; have hfz35_0 := blk_frozen BK221.out 0; have hfz35_1 := blk_frozen BK221.out 1; have hfz35_2 := blk_frozen BK221.out 2; have hfz35_3 := blk_frozen BK221.out 3) | (go_at_call 7; (with_reducible refine (maptext_May.calls a1_0 a1_1 a1_2 _ _ l1_3 false _ ?side1 ?side2 A5.out).mono ?_); (case side1 => repeat (first | exact (Kd.C_below HR1_3.out HB.out) | (with_reducible refine Kd.C_alloc ?_ _) | (with_reducible refine Kd.C_drewN ?_ _) | (with_reducible refine Kd.C_drew ?_))); (case side2 => exact HC1_3.out); rintro e w36 ⟨rfl, hb⟩; have n0_ := Aside0.mk (blk_below (g := gb220) (o := .cells #[.int .i64 a0_0, .int .i64 a0_1, .bool a0_2] 26 (0, 0)) (by (with_reducible repeat (first | refine blk_drewN ?_ _ | refine blk_drew ?_ | refine blk_alloc ?_ _)); exact BK220.out) hb); have n1_ := Aside0.mk (blk_below (g := gb221) (o := .cells #[.int .i64 a1_0, .int .i64 a1_1, .int .u8 a1_2, .slice A1_3 l1_3.length c1_3] 30 (0, 0)) (by (with_reducible repeat (first | refine blk_drewN ?_ _ | refine blk_drew ?_ | refine blk_alloc ?_ _)); exact BK221.out) hb); have n2_ := Aside0.mk (blk_below (g := gb222) (o := .cells #[.int .i64 0, .int .i64 0, .int .i64 0] 35 (0, 0)) (by (with_reducible repeat (first | refine blk_drewN ?_ _ | refine blk_drew ?_ | refine blk_alloc ?_ _)); exact BK222.out) hb); have n3_ := Aside0.mk (below_step (by repeat (first | (with_reducible first | exact HB.out | apply below_alloc | apply pw_below_drewN | apply below_drew1 | refine below_set ?_ GE220.out | refine below_set ?_ GE221.out | refine below_set ?_ GE222.out) | exact HB.out)) hb); clear BK220; clear BK221; clear BK222; clear HB; have BK220 := n0_; have BK221 := n1_; have BK222 := n2_; have HB := n3_; clear n0_ n1_ n2_ n3_; (try clear hb); (try clear hb2); (try clear hk); (try clear hi); have hcz37_0 : w36.cell? ⟨gb222, 0, none⟩ = some (.int .i64 0) := (blk_cell BK222.out 0).trans rfl; have hcz37_1 : w36.cell? ⟨gb222, 1, none⟩ = some (.int .i64 0) := (blk_cell BK222.out 1).trans rfl; have hcz37_2 : w36.cell? ⟨gb222, 2, none⟩ = some (.int .i64 0) := (blk_cell BK222.out 2).trans rfl; have hfz37_0 := blk_frozen BK222.out 0; have hfz37_1 := blk_frozen BK222.out 1; have hfz37_2 := blk_frozen BK222.out 2))
      refine bodyPost_ret (results_cell_row rfl _ _ gb222 35 #[.int .i64 0, .int .i64 0, .int .i64 0] (0, 0) _ rfl (by (with_reducible repeat (first | refine blk_drewN ?_ _ | refine blk_drew ?_ | refine blk_alloc ?_ _)); refine blk_put (cs := #[.int .i64 0, .int .i64 0, .int .i64 0]) ?_ 2 _ rfl; (with_reducible repeat (first | refine blk_drewN ?_ _ | refine blk_drew ?_ | refine blk_alloc ?_ _)); refine blk_put (cs := #[.int .i64 0, .int .i64 0, .int .i64 0]) ?_ 1 _ rfl; (with_reducible repeat (first | refine blk_drewN ?_ _ | refine blk_drew ?_ | refine blk_alloc ?_ _)); refine blk_put (cs := #[.int .i64 0, .int .i64 0, .int .i64 0]) ?_ 0 _ rfl; (with_reducible repeat (first | refine blk_drewN ?_ _ | refine blk_drew ?_ | refine blk_alloc ?_ _)); exact BK222.out) Try.underlying35 rfl (by kernel_rfl)) rfl ?_
      exact ⟨by first | rfl | (simp [errW_none, errW_some] <;> rfl) | (simp [*, errW_none, errW_some] <;> rfl), by repeat (first | (with_reducible first | exact HB.out | apply below_alloc | apply pw_below_drewN | apply below_drew1 | refine below_set ?_ GE220.out | refine below_set ?_ GE221.out | refine below_set ?_ GE222.out) | exact HB.out)⟩
  · replace c4 := Bool.eq_false_iff.mpr c4
    subst c4
    have H1 : (some (0, 0, 0)) = some (r1, r2, r3) := by rw [if_neg (show ¬ (false = true) by decide)] at H; exact H
    clear H
    have H := H1
    clear H1
    simp only [Option.some.injEq, Prod.mk.injEq] at H
    obtain ⟨rfl, rfl, rfl⟩ := H
    go_enter Try.func9, Try.ntmps9
    go_wp2_with (first | ((with_reducible refine gate_dst (N := 2) rfl ?_); refine box_event ?hg (N := 2) ?hd (cs := #[.int .i64 a0_0, .int .i64 a0_1, .bool a0_2]) (t := 26) ?hr ?_; (case hd => rfl); (case hg => rfl); (case hr => first | (go_simp; done) | (go_simp; rfl)); intro gb220 hg w38 hbox hb; have n0_ := Aside0.mk (below_step (by repeat (first | (with_reducible first | exact HB.out | apply below_alloc | apply pw_below_drewN | apply below_drew1) | exact HB.out)) hb); have n1_ := Aside0.mk (hbox); have n2_ := Aside0.mk ((by rw [hg]; exact (below_size (by repeat (first | (with_reducible first | exact HB.out | apply below_alloc | apply pw_below_drewN | apply below_drew1) | exact HB.out))) : w.heap.size ≤ gb220)); have n3_ := Aside0.mk ((by rw [hg]; exact (below_size (by repeat (first | (with_reducible first | exact HB.out | apply below_alloc | apply pw_below_drewN | apply below_drew1) | exact HB.out))) : w.heap.size ≤ gb220)); clear HB; have HB := n0_; have BK220 := n1_; have GW220 := n2_; have GE220 := n3_; clear n0_ n1_ n2_ n3_; clear hb hbox hg) | ((with_reducible refine gate_dst (N := 3) rfl ?_); refine box_event ?hg (N := 3) ?hd (cs := #[.int .i64 a1_0, .int .i64 a1_1, .int .u8 a1_2, .slice A1_3 l1_3.length c1_3]) (t := 30) ?hr ?_; (case hd => rfl); (case hg => rfl); (case hr => first | (go_simp; done) | (go_simp; rfl)); intro gb221 hg w39 hbox hb; have n0_ := Aside0.mk (blk_below (g := gb220) (o := .cells #[.int .i64 a0_0, .int .i64 a0_1, .bool a0_2] 26 (0, 0)) (by (with_reducible repeat (first | refine blk_drewN ?_ _ | refine blk_drew ?_ | refine blk_alloc ?_ _)); exact BK220.out) hb); have n1_ := Aside0.mk (below_step (by repeat (first | (with_reducible first | exact HB.out | apply below_alloc | apply pw_below_drewN | apply below_drew1 | refine below_set ?_ GE220.out) | exact HB.out)) hb); have n2_ := Aside0.mk (hbox); have n3_ := Aside0.mk ((by rw [hg]; exact (below_size (by repeat (first | (with_reducible first | exact HB.out | apply below_alloc | apply pw_below_drewN | apply below_drew1 | refine below_set ?_ GE220.out) | exact HB.out))) : w.heap.size ≤ gb221)); have n4_ := Aside0.mk ((by rw [hg]; exact (below_size (by repeat (first | (with_reducible first | exact HB.out | apply below_alloc | apply pw_below_drewN | apply below_drew1 | refine below_set ?_ GE220.out) | exact HB.out))) : w.heap.size ≤ gb221)); have n5_ := Aside0.mk ((by rw [hg]; exact Nat.ne_of_lt (blk_lt (g := gb220) (o := .cells #[.int .i64 a0_0, .int .i64 a0_1, .bool a0_2] 26 (0, 0)) (by (with_reducible repeat (first | refine blk_drewN ?_ _ | refine blk_drew ?_ | refine blk_alloc ?_ _)); exact BK220.out)) : gb220 ≠ gb221)); have n6_ := Aside0.mk ((by rw [hg]; exact Nat.ne_of_gt (blk_lt (g := gb220) (o := .cells #[.int .i64 a0_0, .int .i64 a0_1, .bool a0_2] 26 (0, 0)) (by (with_reducible repeat (first | refine blk_drewN ?_ _ | refine blk_drew ?_ | refine blk_alloc ?_ _)); exact BK220.out)) : gb221 ≠ gb220)); clear BK220; clear HB; have BK220 := n0_; have HB := n1_; have BK221 := n2_; have GW221 := n3_; have GE221 := n4_; have NB220_221 := n5_; have NB221_220 := n6_; clear n0_ n1_ n2_ n3_ n4_ n5_ n6_; clear hb hbox hg) | ((with_reducible refine gate_dst (N := 4) rfl ?_); refine box_event ?hg (N := 4) ?hd (cs := #[.int .i64 0, .int .i64 0, .int .i64 0]) (t := 35) ?hr ?_; (case hd => rfl); (case hg => rfl); (case hr => first | (go_simp; done) | (go_simp; rfl)); intro gb222 hg w40 hbox hb; have n0_ := Aside0.mk (blk_below (g := gb220) (o := .cells #[.int .i64 a0_0, .int .i64 a0_1, .bool a0_2] 26 (0, 0)) (by (with_reducible repeat (first | refine blk_drewN ?_ _ | refine blk_drew ?_ | refine blk_alloc ?_ _)); exact BK220.out) hb); have n1_ := Aside0.mk (blk_below (g := gb221) (o := .cells #[.int .i64 a1_0, .int .i64 a1_1, .int .u8 a1_2, .slice A1_3 l1_3.length c1_3] 30 (0, 0)) (by (with_reducible repeat (first | refine blk_drewN ?_ _ | refine blk_drew ?_ | refine blk_alloc ?_ _)); exact BK221.out) hb); have n2_ := Aside0.mk (below_step (by repeat (first | (with_reducible first | exact HB.out | apply below_alloc | apply pw_below_drewN | apply below_drew1 | refine below_set ?_ GE220.out | refine below_set ?_ GE221.out) | exact HB.out)) hb); have n3_ := Aside0.mk (hbox); have n4_ := Aside0.mk ((by rw [hg]; exact (below_size (by repeat (first | (with_reducible first | exact HB.out | apply below_alloc | apply pw_below_drewN | apply below_drew1 | refine below_set ?_ GE220.out | refine below_set ?_ GE221.out) | exact HB.out))) : w.heap.size ≤ gb222)); have n5_ := Aside0.mk ((by rw [hg]; exact (below_size (by repeat (first | (with_reducible first | exact HB.out | apply below_alloc | apply pw_below_drewN | apply below_drew1 | refine below_set ?_ GE220.out | refine below_set ?_ GE221.out) | exact HB.out))) : w.heap.size ≤ gb222)); have n6_ := Aside0.mk ((by rw [hg]; exact Nat.ne_of_lt (blk_lt (g := gb220) (o := .cells #[.int .i64 a0_0, .int .i64 a0_1, .bool a0_2] 26 (0, 0)) (by (with_reducible repeat (first | refine blk_drewN ?_ _ | refine blk_drew ?_ | refine blk_alloc ?_ _)); exact BK220.out)) : gb220 ≠ gb222)); have n7_ := Aside0.mk ((by rw [hg]; exact Nat.ne_of_gt (blk_lt (g := gb220) (o := .cells #[.int .i64 a0_0, .int .i64 a0_1, .bool a0_2] 26 (0, 0)) (by (with_reducible repeat (first | refine blk_drewN ?_ _ | refine blk_drew ?_ | refine blk_alloc ?_ _)); exact BK220.out)) : gb222 ≠ gb220)); have n8_ := Aside0.mk ((by rw [hg]; exact Nat.ne_of_lt (blk_lt (g := gb221) (o := .cells #[.int .i64 a1_0, .int .i64 a1_1, .int .u8 a1_2, .slice A1_3 l1_3.length c1_3] 30 (0, 0)) (by (with_reducible repeat (first | refine blk_drewN ?_ _ | refine blk_drew ?_ | refine blk_alloc ?_ _)); exact BK221.out)) : gb221 ≠ gb222)); have n9_ := Aside0.mk ((by rw [hg]; exact Nat.ne_of_gt (blk_lt (g := gb221) (o := .cells #[.int .i64 a1_0, .int .i64 a1_1, .int .u8 a1_2, .slice A1_3 l1_3.length c1_3] 30 (0, 0)) (by (with_reducible repeat (first | refine blk_drewN ?_ _ | refine blk_drew ?_ | refine blk_alloc ?_ _)); exact BK221.out)) : gb222 ≠ gb221)); clear BK220; clear BK221; clear HB; have BK220 := n0_; have BK221 := n1_; have HB := n2_; have BK222 := n3_; have GW222 := n4_; have GE222 := n5_; have NB220_222 := n6_; have NB222_220 := n7_; have NB221_222 := n8_; have NB222_221 := n9_; clear n0_ n1_ n2_ n3_ n4_ n5_ n6_ n7_ n8_ n9_; clear hb hbox hg; have hnb41 := NB220_221.out; have hnc41 := NB221_220.out; have hnb42 := NB220_222.out; have hnc42 := NB222_220.out; have hcz43_0 : w40.cell? ⟨gb220, 0, none⟩ = some (.int .i64 a0_0) := (blk_cell BK220.out 0).trans rfl; have hcz43_1 : w40.cell? ⟨gb220, 1, none⟩ = some (.int .i64 a0_1) := (blk_cell BK220.out 1).trans rfl; have hcz43_2 : w40.cell? ⟨gb220, 2, none⟩ = some (.bool a0_2) := (blk_cell BK220.out 2).trans rfl; have hfz43_0 := blk_frozen BK220.out 0; have hfz43_1 := blk_frozen BK220.out 1; have hfz43_2 := blk_frozen BK220.out 2) | ((with_reducible refine gate_callee (f := 17) rfl ?_); refine goesL_ (some 8) rfl rfl Try.func17 (by kernel_rfl) rfl #[.agg #[.int .i64 a0_0, .int .i64 a0_1, .bool a0_2]] rfl (by (try simp only [List.map_toArray, List.map_cons, List.map_nil]); first | done | rfl | (simp only [List.length_drop, List.length_take]; rfl)) ?_; (with_reducible refine (plan_May.calls a0_0 a0_1 a0_2 false _ A3.out).mono ?_); rintro e w44 ⟨rfl, hb⟩; refine ⟨_, rfl, ?_⟩; have n0_ := Aside0.mk (blk_below (g := gb220) (o := .cells #[.int .i64 a0_0, .int .i64 a0_1, .bool a0_2] 26 (0, 0)) (by (with_reducible repeat (first | refine blk_drewN ?_ _ | refine blk_drew ?_ | refine blk_alloc ?_ _)); exact BK220.out) hb); have n1_ := Aside0.mk (blk_below (g := gb221) (o := .cells #[.int .i64 a1_0, .int .i64 a1_1, .int .u8 a1_2, .slice A1_3 l1_3.length c1_3] 30 (0, 0)) (by (with_reducible repeat (first | refine blk_drewN ?_ _ | refine blk_drew ?_ | refine blk_alloc ?_ _)); exact BK221.out) hb); have n2_ := Aside0.mk (blk_below (g := gb222) (o := .cells #[.int .i64 0, .int .i64 0, .int .i64 0] 35 (0, 0)) (by (with_reducible repeat (first | refine blk_drewN ?_ _ | refine blk_drew ?_ | refine blk_alloc ?_ _)); exact BK222.out) hb); have n3_ := Aside0.mk (below_step (by repeat (first | (with_reducible first | exact HB.out | apply below_alloc | apply pw_below_drewN | apply below_drew1 | refine below_set ?_ GE220.out | refine below_set ?_ GE221.out | refine below_set ?_ GE222.out) | exact HB.out)) hb); clear BK220; clear BK221; clear BK222; clear HB; have BK220 := n0_; have BK221 := n1_; have BK222 := n2_; have HB := n3_; clear n0_ n1_ n2_ n3_; (try clear hb); (try clear hb2); (try clear hk); (try clear hi); have hnb45 := NB222_221.out; have hnc45 := NB221_222.out; have hcz46_0 : w44.cell? ⟨gb222, 0, none⟩ = some (.int .i64 0) := (blk_cell BK222.out 0).trans rfl; have hcz46_1 : w44.cell? ⟨gb222, 1, none⟩ = some (.int .i64 0) := (blk_cell BK222.out 1).trans rfl; have hcz46_2 : w44.cell? ⟨gb222, 2, none⟩ = some (.int .i64 0) := (blk_cell BK222.out 2).trans rfl; have hfz46_0 := blk_frozen BK222.out 0; have hfz46_1 := blk_frozen BK222.out 1; have hfz46_2 := blk_frozen BK222.out 2))
    refine bodyPost_ret (results_cell_row rfl _ _ gb222 35 #[.int .i64 0, .int .i64 0, .int .i64 0] (0, 0) _ rfl (by (with_reducible repeat (first | refine blk_drewN ?_ _ | refine blk_drew ?_ | refine blk_alloc ?_ _)); refine blk_put (cs := #[.int .i64 0, .int .i64 0, .int .i64 0]) ?_ 2 _ rfl; (with_reducible repeat (first | refine blk_drewN ?_ _ | refine blk_drew ?_ | refine blk_alloc ?_ _)); refine blk_put (cs := #[.int .i64 0, .int .i64 0, .int .i64 0]) ?_ 1 _ rfl; (with_reducible repeat (first | refine blk_drewN ?_ _ | refine blk_drew ?_ | refine blk_alloc ?_ _)); refine blk_put (cs := #[.int .i64 0, .int .i64 0, .int .i64 0]) ?_ 0 _ rfl; (with_reducible repeat (first | refine blk_drewN ?_ _ | refine blk_drew ?_ | refine blk_alloc ?_ _)); exact BK222.out) Try.underlying35 rfl (by kernel_rfl)) rfl ?_
    exact ⟨by first | rfl | (simp [errW_none, errW_some] <;> rfl) | (simp [*, errW_none, errW_some] <;> rfl), by repeat (first | (with_reducible first | exact HB.out | apply below_alloc | apply pw_below_drewN | apply below_drew1 | refine below_set ?_ GE220.out | refine below_set ?_ GE221.out | refine below_set ?_ GE222.out) | exact HB.out)⟩

end Go.Proofs.Ytiaopkgmhpjeeaa.MBoundHolds

-- printed by myprint.py (a program of this session's, over the kit's printer)
namespace Go.Proofs.Ytiaopkgmhpjeeaa.MBoundHolds
open Go.RowKit Go.Proofs.YtiaopkgmhpjeeaaW.PrintWords Go.Proofs.YtiaopkgmhpjeeaaW.PrintLast Go.Proofs.YtiaopkgmhpjeeaaW.PrintMore
attribute [local go_sem] max2_int min2_int max_two min_two max_three min_three max_four min_four   -- for this text's walks alone
set_option linter.unusedVariables false
set_option linter.unusedSimpArgs false

/-! ### plan_copied: function 19 -/
def plan_copied.f (a0_0 : Int) (a0_1 : Int) (a0_2 : Int) (l0_3 : List (S56)) : Option (Int × Int × Int × (List (S56))) := (api_Region_30.f l0_3).bind fun t232 => (some (a0_0, a0_1, a0_2, t232))
set_option maxHeartbeats 8000000 in
set_option maxRecDepth 100000 in
theorem plan_copied.calls (a0_0 : Int) (a0_1 : Int) (a0_2 : Int) (A0_3 : Option Addr) (c0_3 : Nat) (l0_3 : List (S56)) (r1 : Int) (r2 : Int) (r3 : Int) (r4 : List (S56)) (w : World) (hr0_3 : Kd.C k56 w A0_3 l0_3.length l0_3) (hc0_3 : l0_3.length ≤ c0_3) (h : plan_copied.f a0_0 a0_1 a0_2 l0_3 = some (r1, r2, r3, r4)) :
    Calls Try.prog 19 #[.agg #[.int .i64 a0_0, .int .i64 a0_1, .int .u8 a0_2, .slice A0_3 l0_3.length c0_3]] w fun e w' => ∃ v3_ : Value, e = .returned (.agg #[.int .i64 r1, .int .i64 r2, .int .u8 r3, v3_]) ∧ Kd.R k56 56 w' w.heap.size (fun _ => True) v3_ r4 ∧ Below w.heap.size w w' := by
  have hu30 := Try.underlying30
  have HR0_3 := Aside0.mk hr0_3
  have HC0_3 := Aside0.mk hc0_3
  clear hr0_3 hc0_3
  have HB := Aside0.mk (Below.refl w.heap.size w)
  have H : ((api_Region_30.f l0_3).bind fun t232 => (some (a0_0, a0_1, a0_2, t232))) = some (r1, r2, r3, r4) := h
  clear h
  replace H := Option.bind_eq_some_iff.mp H
  obtain ⟨t232, A20, H⟩ := H
  replace H : (some (a0_0, a0_1, a0_2, t232)) = some (r1, r2, r3, r4) := H
  have A2 := Aside0.mk A20
  clear A20
  simp only [Option.some.injEq, Prod.mk.injEq] at H
  obtain ⟨rfl, rfl, rfl, rfl⟩ := H
  go_enter Try.func19, Try.ntmps19
  go_wp2_with (first | ((with_reducible refine gate_dst (N := 1) rfl ?_); refine box_event ?hg (N := 1) ?hd (cs := #[.int .i64 a0_0, .int .i64 a0_1, .int .u8 a0_2, .slice A0_3 l0_3.length c0_3]) (t := 30) ?hr ?_; (case hd => rfl); (case hg => rfl); (case hr => first | (go_simp; done) | (go_simp; rfl)); intro gb230 hg w3 hbox hb; have n0_ := Aside0.mk (below_step (by repeat (first | (with_reducible first | exact HB.out | apply below_alloc | apply pw_below_drewN | apply below_drew1) | exact HB.out)) hb); have n1_ := Aside0.mk (hbox); have n2_ := Aside0.mk ((by rw [hg]; exact (below_size (by repeat (first | (with_reducible first | exact HB.out | apply below_alloc | apply pw_below_drewN | apply below_drew1) | exact HB.out))) : w.heap.size ≤ gb230)); have n3_ := Aside0.mk ((by rw [hg]; exact (below_size (by repeat (first | (with_reducible first | exact HB.out | apply below_alloc | apply pw_below_drewN | apply below_drew1) | exact HB.out))) : w.heap.size ≤ gb230)); clear HB; have HB := n0_; have BK230 := n1_; have GW230 := n2_; have GE230 := n3_; clear n0_ n1_ n2_ n3_; clear hb hbox hg) | ((with_reducible refine gate_dst (N := 2) rfl ?_); refine box_event ?hg (N := 2) ?hd (cs := #[.int .i64 0, .int .i64 0, .int .u8 0, .slice none 0 0]) (t := 30) ?hr ?_; (case hd => rfl); (case hg => rfl); (case hr => first | (go_simp; done) | (go_simp; rfl)); intro gb231 hg w4 hbox hb; have n0_ := Aside0.mk (blk_below (g := gb230) (o := .cells #[.int .i64 a0_0, .int .i64 a0_1, .int .u8 a0_2, .slice A0_3 l0_3.length c0_3] 30 (0, 0)) (by (with_reducible repeat (first | refine blk_drewN ?_ _ | refine blk_drew ?_ | refine blk_alloc ?_ _)); exact BK230.out) hb); have n1_ := Aside0.mk (below_step (by repeat (first | (with_reducible first | exact HB.out | apply below_alloc | apply pw_below_drewN | apply below_drew1 | refine below_set ?_ GE230.out) | exact HB.out)) hb); have n2_ := Aside0.mk (hbox); have n3_ := Aside0.mk ((by rw [hg]; exact (below_size (by repeat (first | (with_reducible first | exact HB.out | apply below_alloc | apply pw_below_drewN | apply below_drew1 | refine below_set ?_ GE230.out) | exact HB.out))) : w.heap.size ≤ gb231)); have n4_ := Aside0.mk ((by rw [hg]; exact (below_size (by repeat (first | (with_reducible first | exact HB.out | apply below_alloc | apply pw_below_drewN | apply below_drew1 | refine below_set ?_ GE230.out) | exact HB.out))) : w.heap.size ≤ gb231)); have n5_ := Aside0.mk ((by rw [hg]; exact Nat.ne_of_lt (blk_lt (g := gb230) (o := .cells #[.int .i64 a0_0, .int .i64 a0_1, .int .u8 a0_2, .slice A0_3 l0_3.length c0_3] 30 (0, 0)) (by (with_reducible repeat (first | refine blk_drewN ?_ _ | refine blk_drew ?_ | refine blk_alloc ?_ _)); exact BK230.out)) : gb230 ≠ gb231)); have n6_ := Aside0.mk ((by rw [hg]; exact Nat.ne_of_gt (blk_lt (g := gb230) (o := .cells #[.int .i64 a0_0, .int .i64 a0_1, .int .u8 a0_2, .slice A0_3 l0_3.length c0_3] 30 (0, 0)) (by (with_reducible repeat (first | refine blk_drewN ?_ _ | refine blk_drew ?_ | refine blk_alloc ?_ _)); exact BK230.out)) : gb231 ≠ gb230)); clear BK230; clear HB; have BK230 := n0_; have HB := n1_; have BK231 := n2_; have GW231 := n3_; have GE231 := n4_; have NB230_231 := n5_; have NB231_230 := n6_; clear n0_ n1_ n2_ n3_ n4_ n5_ n6_; clear hb hbox hg; have hnb5 := NB230_231.out; have hnc5 := NB231_230.out; have hcz6_0 : w4.cell? ⟨gb230, 0, none⟩ = some (.int .i64 a0_0) := (blk_cell BK230.out 0).trans rfl; have hcz6_1 : w4.cell? ⟨gb230, 1, none⟩ = some (.int .i64 a0_1) := (blk_cell BK230.out 1).trans rfl; have hcz6_2 : w4.cell? ⟨gb230, 2, none⟩ = some (.int .u8 a0_2) := (blk_cell BK230.out 2).trans rfl; have hcz6_3 : w4.cell? ⟨gb230, 3, none⟩ = some (.slice A0_3 l0_3.length c0_3) := (blk_cell BK230.out 3).trans rfl; have hfz6_0 := blk_frozen BK230.out 0; have hfz6_1 := blk_frozen BK230.out 1; have hfz6_2 := blk_frozen BK230.out 2; have hfz6_3 := blk_frozen BK230.out 3) | ((with_reducible refine gate_callee (f := 30) rfl ?_); refine goesL_ (some 5) rfl rfl Try.func30 (by kernel_rfl) rfl #[.slice A0_3 l0_3.length c0_3] rfl (by (try simp only [List.map_toArray, List.map_cons, List.map_nil]); first | done | rfl | (simp only [List.length_drop, List.length_take]; rfl)) ?_; (with_reducible refine (api_Region_30.calls _ _ l0_3 t232 _ ?side1 ?side2 A2.out).mono ?_); (case side1 => repeat (first | exact (Kd.C_below HR0_3.out HB.out) | (with_reducible refine Kd.C_alloc ?_ _) | (with_reducible refine Kd.C_drewN ?_ _) | (with_reducible refine Kd.C_drew ?_))); (case side2 => exact HC0_3.out); rintro e w7 ⟨v233, rfl, ho0, hb⟩; refine ⟨_, rfl, ?_⟩; have n0_ := Aside0.mk (Kd.R_lower ho0 (below_size (by repeat (first | (with_reducible first | exact HB.out | apply below_alloc | apply pw_below_drewN | apply below_drew1 | refine below_set ?_ GE230.out | refine below_set ?_ GE231.out) | exact HB.out)))); have n1_ := Aside0.mk (blk_below (g := gb230) (o := .cells #[.int .i64 a0_0, .int .i64 a0_1, .int .u8 a0_2, .slice A0_3 l0_3.length c0_3] 30 (0, 0)) (by (with_reducible repeat (first | refine blk_drewN ?_ _ | refine blk_drew ?_ | refine blk_alloc ?_ _)); exact BK230.out) hb); have n2_ := Aside0.mk (blk_below (g := gb231) (o := .cells #[.int .i64 0, .int .i64 0, .int .u8 0, .slice none 0 0] 30 (0, 0)) (by (with_reducible repeat (first | refine blk_drewN ?_ _ | refine blk_drew ?_ | refine blk_alloc ?_ _)); exact BK231.out) hb); have n3_ := Aside0.mk (below_step (by repeat (first | (with_reducible first | exact HB.out | apply below_alloc | apply pw_below_drewN | apply below_drew1 | refine below_set ?_ GE230.out | refine below_set ?_ GE231.out) | exact HB.out)) hb); clear BK230; clear BK231; clear HB; have HO234 := n0_; have BK230 := n1_; have BK231 := n2_; have HB := n3_; clear n0_ n1_ n2_ n3_; (try clear hb); (try clear hb2); (try clear hk); (try clear hi); (try clear ho0); obtain ⟨Ao8, co8, eo8⟩ := Kd.R_slice HO234.out; subst eo8; have hcz9_0 : w7.cell? ⟨gb230, 0, none⟩ = some (.int .i64 a0_0) := (blk_cell BK230.out 0).trans rfl; have hcz9_1 : w7.cell? ⟨gb230, 1, none⟩ = some (.int .i64 a0_1) := (blk_cell BK230.out 1).trans rfl; have hcz9_2 : w7.cell? ⟨gb230, 2, none⟩ = some (.int .u8 a0_2) := (blk_cell BK230.out 2).trans rfl; have hcz9_3 : w7.cell? ⟨gb230, 3, none⟩ = some (.slice A0_3 l0_3.length c0_3) := (blk_cell BK230.out 3).trans rfl; have hfz9_0 := blk_frozen BK230.out 0; have hfz9_1 := blk_frozen BK230.out 1; have hfz9_2 := blk_frozen BK230.out 2; have hfz9_3 := blk_frozen BK230.out 3; have hcz10_0 : w7.cell? ⟨gb231, 0, none⟩ = some (.int .i64 0) := (blk_cell BK231.out 0).trans rfl; have hcz10_1 : w7.cell? ⟨gb231, 1, none⟩ = some (.int .i64 0) := (blk_cell BK231.out 1).trans rfl; have hcz10_2 : w7.cell? ⟨gb231, 2, none⟩ = some (.int .u8 0) := (blk_cell BK231.out 2).trans rfl; have hcz10_3 : w7.cell? ⟨gb231, 3, none⟩ = some (.slice none 0 0) := (blk_cell BK231.out 3).trans rfl; have hfz10_0 := blk_frozen BK231.out 0; have hfz10_1 := blk_frozen BK231.out 1; have hfz10_2 := blk_frozen BK231.out 2; have hfz10_3 := blk_frozen BK231.out 3))
  refine bodyPost_ret (results_cell_row rfl _ _ gb231 30 #[.int .i64 a0_0, .int .i64 a0_1, .int .u8 a0_2, .slice Ao8 t232.length co8] (0, 0) _ rfl (by (with_reducible repeat (first | refine blk_drewN ?_ _ | refine blk_drew ?_ | refine blk_alloc ?_ _)); refine blk_put (cs := #[.int .i64 a0_0, .int .i64 a0_1, .int .u8 a0_2, .slice none 0 0]) ?_ 3 _ rfl; (with_reducible repeat (first | refine blk_drewN ?_ _ | refine blk_drew ?_ | refine blk_alloc ?_ _)); refine blk_put (cs := #[.int .i64 a0_0, .int .i64 a0_1, .int .u8 0, .slice none 0 0]) ?_ 2 _ rfl; (with_reducible repeat (first | refine blk_drewN ?_ _ | refine blk_drew ?_ | refine blk_alloc ?_ _)); refine blk_put (cs := #[.int .i64 a0_0, .int .i64 0, .int .u8 0, .slice none 0 0]) ?_ 1 _ rfl; (with_reducible repeat (first | refine blk_drewN ?_ _ | refine blk_drew ?_ | refine blk_alloc ?_ _)); refine blk_put (cs := #[.int .i64 0, .int .i64 0, .int .u8 0, .slice none 0 0]) ?_ 0 _ rfl; (with_reducible repeat (first | refine blk_drewN ?_ _ | refine blk_drew ?_ | refine blk_alloc ?_ _)); refine blk_far ?_ NB231_230.out _; (with_reducible repeat (first | refine blk_drewN ?_ _ | refine blk_drew ?_ | refine blk_alloc ?_ _)); exact BK231.out) Try.underlying30 rfl (by kernel_rfl)) rfl ?_
  exact ⟨_, by first | rfl | (simp [errW_none, errW_some] <;> rfl) | (simp [*, errW_none, errW_some] <;> rfl), by (with_reducible repeat (first | apply Kd.R_alloc | apply Kd.R_drewN | apply Kd.R_drew)); exact Kd.R_mono (Kd.R_far (p := ⟨gb231, 3, none⟩) (Kd.R_far (p := ⟨gb231, 2, none⟩) (Kd.R_far (p := ⟨gb231, 1, none⟩) (Kd.R_far (p := ⟨gb231, 0, none⟩) (Kd.R_far (p := ⟨gb230, 3, none⟩) (Kd.R_types (Kd.R_types HO234.out BK230.out (by decide)) BK231.out (by decide)) (fun _ hk => hk.1.2) (.slice Ao8 t232.length co8)) (fun _ hk => hk.2) (.int .i64 a0_0)) (fun _ hk => hk.2) (.int .i64 a0_1)) (fun _ hk => hk.2) (.int .u8 a0_2)) (fun _ hk => hk.2) (.slice Ao8 t232.length co8)) (fun _ hk => trivial), by repeat (first | (with_reducible first | exact HB.out | apply below_alloc | apply pw_below_drewN | apply below_drew1 | refine below_set ?_ GE230.out | refine below_set ?_ GE231.out) | exact HB.out)⟩

end Go.Proofs.Ytiaopkgmhpjeeaa.MBoundHolds
