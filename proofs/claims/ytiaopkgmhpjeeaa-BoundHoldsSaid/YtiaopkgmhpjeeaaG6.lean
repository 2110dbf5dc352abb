import Derived.Test.YtiaopkgmhpjeeaaG5
-- printed by myprint.py (a program of this session's, over the kit's printer)
namespace Go.Proofs.Ytiaopkgmhpjeeaa.MBoundHolds
open Go.RowKit Go.Proofs.YtiaopkgmhpjeeaaW.PrintWords Go.Proofs.YtiaopkgmhpjeeaaW.PrintLast Go.Proofs.YtiaopkgmhpjeeaaW.PrintMore
attribute [local go_sem] max2_int min2_int max_two min_two max_three min_three max_four min_four   -- for this text's walks alone
set_option linter.unusedVariables false
set_option linter.unusedSimpArgs false

attribute [local go_sem high] eqA35
/-! ### salvorlaw21_BoundHolds: function 3 -/
mutual
def salvorlaw21_BoundHolds.j0 : Nat → Int → List (S53) → Int → Int → Bool → Int → Int → List Int → Bool → Option (Bool)
  | 0, _, _, _, _, _, _, _, _, _ => none
  | k + 1, x0, x1, x2, x3, x4, x5, x6, x7, x30 => if x30 = true then ((salvorlaw21_BoundRuns.f k).bind fun t295 => (some t295)) else ((salvorlaw18_Opts.f x2 x3 x4).bind fun bt296 => ((salvorlaw18_Map.f k x0 x1 x5 x6).bind fun bt300 => ((maptext_May.f bt300.1 bt300.2.1 bt300.2.2.1 bt300.2.2.2).bind fun t307 => (if t307 = true then ((bound_Acts.f k bt296.1 bt296.2.1 bt296.2.2 bt300.1 bt300.2.1 bt300.2.2.1 bt300.2.2.2).bind fun t308 => (salvorlaw21_BoundHolds.l0 k x7 t308 0 bt296.1 bt296.2.1 bt296.2.2 bt300.1 bt300.2.1 bt300.2.2.1 bt300.2.2.2)) else (some false)))))
def salvorlaw21_BoundHolds.l0 : Nat → List Int → Int → Int → Int → Int → Bool → Int → Int → Int → List (S56) → Option (Bool)
  | 0, _, _, _, _, _, _, _, _, _, _ => none
  | k + 1, x7, x19, x20, x300000, x300001, x300002, x307000, x307001, x307002, x307003 => if x20 < x19 then ((plan_Next.f k x300000 x300001 x300002 x307000 x307001 x307002 x307003).bind fun bt313 => (if bt313.1 = 0 then ((plan_Next.f k x300000 x300001 x300002 x307000 x307001 x307002 x307003).bind fun bt317 => (if (bt317.1 == 0 && (bt317.2.1 == 0 && (bt317.2.2 == 0))) = true then ((salvorlaw21_BoundRuns.f k).bind fun t320 => (some t320)) else (some false))) else (if (x7.length : Int) > 0 then (if (x7.length : Int) = 0 then (none) else (if 0 ≤ (Int.tmod x20 (x7.length : Int)) then (if (Int.tmod x20 (x7.length : Int)) < (x7.length : Int) then ((plan_After.f k x300000 x300001 x300002 x307000 x307001 x307002 x307003 (wrap64 (rd x7 (Int.tmod x20 (x7.length : Int))))).bind fun bt322 => (salvorlaw21_BoundHolds.l0 k x7 x19 (wrap64 (x20 + 1)) x300000 x300001 x300002 bt322.1 bt322.2.1 bt322.2.2.1 bt322.2.2.2)) else (none)) else (none))) else ((plan_After.f k x300000 x300001 x300002 x307000 x307001 x307002 x307003 0).bind fun bt328 => (salvorlaw21_BoundHolds.l0 k x7 x19 (wrap64 (x20 + 1)) x300000 x300001 x300002 bt328.1 bt328.2.1 bt328.2.2.1 bt328.2.2.2))))) else ((plan_Next.f k x300000 x300001 x300002 x307000 x307001 x307002 x307003).bind fun bt309 => (if (bt309.1 == 0 && (bt309.2.1 == 0 && (bt309.2.2 == 0))) = true then ((salvorlaw21_BoundRuns.f k).bind fun t312 => (some t312)) else (some false)))
end
def salvorlaw21_BoundHolds.f (k : Nat) (a0 : Int) (l1 : List (S53)) (a2 : Int) (a3 : Int) (a4 : Bool) (a5 : Int) (a6 : Int) (l7 : List Int) : Option (Bool) := if (l1.length : Int) > 10 then (salvorlaw21_BoundHolds.j0 k a0 l1 a2 a3 a4 a5 a6 l7 true) else (salvorlaw21_BoundHolds.j0 k a0 l1 a2 a3 a4 a5 a6 l7 (decide ((l7.length : Int) > 100)))
theorem salvorlaw21_BoundHolds.mono_l : ∀ k, (∀ y0 y1 y2 y3 y4 y5 y6 y7 y8, LeO (salvorlaw21_BoundHolds.j0 k y0 y1 y2 y3 y4 y5 y6 y7 y8) (salvorlaw21_BoundHolds.j0 (k + 1) y0 y1 y2 y3 y4 y5 y6 y7 y8)) ∧ (∀ y0 y1 y2 y3 y4 y5 y6 y7 y8 y9, LeO (salvorlaw21_BoundHolds.l0 k y0 y1 y2 y3 y4 y5 y6 y7 y8 y9) (salvorlaw21_BoundHolds.l0 (k + 1) y0 y1 y2 y3 y4 y5 y6 y7 y8 y9))
  | 0 => ⟨fun _ _ _ _ _ _ _ _ _ r h => by simp [salvorlaw21_BoundHolds.j0] at h, fun _ _ _ _ _ _ _ _ _ _ r h => by simp [salvorlaw21_BoundHolds.l0] at h⟩
  | k + 1 => by
    obtain ⟨ih0, ih1⟩ := salvorlaw21_BoundHolds.mono_l k
    refine ⟨?_, ?_⟩
    · intro y0 y1 y2 y3 y4 y5 y6 y7 y8
      unfold salvorlaw21_BoundHolds.j0
      repeat' first
      | (with_reducible exact ih0 _ _ _ _ _ _ _ _ _)
      | (with_reducible exact ih1 _ _ _ _ _ _ _ _ _ _)
      | (with_reducible exact bound_Acts.mono _ _ _ _ _ _ _ _)
      | (with_reducible exact plan_After.mono _ _ _ _ _ _ _ _ _)
      | (with_reducible exact plan_Next.mono _ _ _ _ _ _ _ _)
      | (with_reducible exact salvorlaw18_Map.mono _ _ _ _ _)
      | (with_reducible exact salvorlaw21_BoundRuns.mono _)
      | (with_reducible exact LeO.refl _)
      | (with_reducible exact LeO.none _)
      | (with_reducible refine LeO.ite ?_ ?_)
      | (with_reducible refine LeO.bind ?_ (fun _ => ?_))
      | exact ih0 _ _ _ _ _ _ _ _ _
      | exact ih1 _ _ _ _ _ _ _ _ _ _
      | exact bound_Acts.mono _ _ _ _ _ _ _ _
      | exact plan_After.mono _ _ _ _ _ _ _ _ _
      | exact plan_Next.mono _ _ _ _ _ _ _ _
      | exact salvorlaw18_Map.mono _ _ _ _ _
      | exact salvorlaw21_BoundRuns.mono _
      | exact LeO.none _
      | refine LeO.ite ?_ ?_
      | refine LeO.bind ?_ (fun _ => ?_)
    · intro y0 y1 y2 y3 y4 y5 y6 y7 y8 y9
      unfold salvorlaw21_BoundHolds.l0
      repeat' first
      | (with_reducible exact ih0 _ _ _ _ _ _ _ _ _)
      | (with_reducible exact ih1 _ _ _ _ _ _ _ _ _ _)
      | (with_reducible exact bound_Acts.mono _ _ _ _ _ _ _ _)
      | (with_reducible exact plan_After.mono _ _ _ _ _ _ _ _ _)
      | (with_reducible exact plan_Next.mono _ _ _ _ _ _ _ _)
      | (with_reducible exact salvorlaw18_Map.mono _ _ _ _ _)
      | (with_reducible exact salvorlaw21_BoundRuns.mono _)
      | (with_reducible exact LeO.refl _)
      | (with_reducible exact LeO.none _)
      | (with_reducible refine LeO.ite ?_ ?_)
      | (with_reducible refine LeO.bind ?_ (fun _ => ?_))
      | exact ih0 _ _ _ _ _ _ _ _ _
      | exact ih1 _ _ _ _ _ _ _ _ _ _
      | exact bound_Acts.mono _ _ _ _ _ _ _ _
      | exact plan_After.mono _ _ _ _ _ _ _ _ _
      | exact plan_Next.mono _ _ _ _ _ _ _ _
      | exact salvorlaw18_Map.mono _ _ _ _ _
      | exact salvorlaw21_BoundRuns.mono _
      | exact LeO.none _
      | refine LeO.ite ?_ ?_
      | refine LeO.bind ?_ (fun _ => ?_)
theorem salvorlaw21_BoundHolds.mono : ∀ a0 a1 a2 a3 a4 a5 a6 a7 k, LeO (salvorlaw21_BoundHolds.f k a0 a1 a2 a3 a4 a5 a6 a7) (salvorlaw21_BoundHolds.f (k + 1) a0 a1 a2 a3 a4 a5 a6 a7) := by
  intro a0 a1 a2 a3 a4 a5 a6 a7 k
  obtain ⟨ih0, ih1⟩ := salvorlaw21_BoundHolds.mono_l k
  unfold salvorlaw21_BoundHolds.f
  repeat' first
      | (with_reducible exact ih0 _ _ _ _ _ _ _ _ _)
      | (with_reducible exact ih1 _ _ _ _ _ _ _ _ _ _)
      | (with_reducible exact bound_Acts.mono _ _ _ _ _ _ _ _)
      | (with_reducible exact plan_After.mono _ _ _ _ _ _ _ _ _)
      | (with_reducible exact plan_Next.mono _ _ _ _ _ _ _ _)
      | (with_reducible exact salvorlaw18_Map.mono _ _ _ _ _)
      | (with_reducible exact salvorlaw21_BoundRuns.mono _)
      | (with_reducible exact LeO.refl _)
      | (with_reducible exact LeO.none _)
      | (with_reducible refine LeO.ite ?_ ?_)
      | (with_reducible refine LeO.bind ?_ (fun _ => ?_))
      | exact ih0 _ _ _ _ _ _ _ _ _
      | exact ih1 _ _ _ _ _ _ _ _ _ _
      | exact bound_Acts.mono _ _ _ _ _ _ _ _
      | exact plan_After.mono _ _ _ _ _ _ _ _ _
      | exact plan_Next.mono _ _ _ _ _ _ _ _
      | exact salvorlaw18_Map.mono _ _ _ _ _
      | exact salvorlaw21_BoundRuns.mono _
      | exact LeO.none _
      | refine LeO.ite ?_ ?_
      | refine LeO.bind ?_ (fun _ => ?_)
set_option maxHeartbeats 8000000 in
set_option maxRecDepth 100000 in
theorem salvorlaw21_BoundHolds.calls (k : Nat) (a0 : Int) (A1 : Option Addr) (c1 : Nat) (l1 : List (S53)) (a2 : Int) (a3 : Int) (a4 : Bool) (a5 : Int) (a6 : Int) (A7 : Option Addr) (c7 : Nat) (l7 : List Int) (r : Bool) (w : World) (hr1 : Kd.C k53 w A1 l1.length l1) (hc1 : l1.length ≤ c1) (hr7 : Kd.C (Kd.int .u8) w A7 l7.length l7) (hc7 : l7.length ≤ c7) (h : salvorlaw21_BoundHolds.f k a0 l1 a2 a3 a4 a5 a6 l7 = some r) :
    Calls Try.prog 3 #[.int .u8 a0, .slice A1 l1.length c1, .int .u8 a2, .int .u8 a3, .bool a4, .int .u8 a5, .int .u8 a6, .slice A7 l7.length c7] w fun e w' => e = .returned (.bool r) ∧ Below w.heap.size w w' := by
  have hu26 := Try.underlying26
  have hu30 := Try.underlying30
  have hu35 := Try.underlying35
  have HR1 := Aside0.mk hr1
  have HC1 := Aside0.mk hc1
  clear hr1 hc1
  have HR7 := Aside0.mk hr7
  have HC7 := Aside0.mk hc7
  clear hr7 hc7
  have HB := Aside0.mk (Below.refl w.heap.size w)
  have H : (if (l1.length : Int) > 10 then (salvorlaw21_BoundHolds.j0 k a0 l1 a2 a3 a4 a5 a6 l7 true) else (salvorlaw21_BoundHolds.j0 k a0 l1 a2 a3 a4 a5 a6 l7 (decide ((l7.length : Int) > 100)))) = some r := h
  clear h
  have HC9 := Aside0.mk H
  clear H
  go_enter Try.func3, Try.ntmps3
  go_upto_region 1 with (fail)
  go_cut [30] (fun v30 wc => ∃ (kq : Nat) (x30_8 : Bool), v30 = .bool x30_8 ∧ Aside0 (salvorlaw21_BoundHolds.j0 kq a0 l1 a2 a3 a4 a5 a6 l7 x30_8 = some r) ∧ Aside0 (kq ≤ k) ∧ Aside0 (Below w.heap.size w wc))
  case first =>
    have H := HC9.out
    clear HC9
    by_cases c10 : (l1.length : Int) > 10
    · rw [if_pos c10] at H
      have c10b0 : decide (10 < (l1.length : Int)) = true := decide_eq_true c10
      have c10b1 : decide (10 < l1.length) = true := decide_eq_true (by omega)
      clear c10
      (first | rw [c10b0] | (simp only [i64_w, i32_w]; rw [c10b0]) | skip)
      have H' := Aside0.mk H
      clear H
      go_wp2
      go_meet
      case rel => exact ⟨_, (true), (by first | rfl | (simp; done) | (simp [*]; done)), H', ⟨by first | omega | exact Nat.le_refl _⟩, ⟨by repeat (first | (with_reducible first | exact HB.out | apply below_alloc | apply pw_below_drewN | apply below_drew1) | exact HB.out)⟩⟩
    · rw [if_neg c10] at H
      have c10b0 : decide (10 < (l1.length : Int)) = false := decide_eq_false c10
      have c10b1 : decide (10 < l1.length) = false := decide_eq_false (by omega)
      clear c10
      (first | rw [c10b0] | (simp only [i64_w, i32_w]; rw [c10b0]) | skip)
      have H' := Aside0.mk H
      clear H
      go_wp2
      go_meet
      case rel => exact ⟨_, (decide ((l7.length : Int) > 100)), (by first | rfl | (simp; done) | (simp [*]; done)), H', ⟨by first | omega | exact Nat.le_refl _⟩, ⟨by repeat (first | (with_reducible first | exact HB.out | apply below_alloc | apply pw_below_drewN | apply below_drew1) | exact HB.out)⟩⟩
  case rest =>
    clear HC9
    try clear c1
    try clear p2
    try clear c3
    try clear c7
    try clear c10
    try clear c10b0
    try clear c10b1
    obtain ⟨kq, x30_8, rfl, HA, HJ8, HB⟩ := hcut
    cases kq with
    | zero => exact absurd HA.out (by simp [salvorlaw21_BoundHolds.j0])
    | succ kj8 =>
      have H := HA.out
      clear HA
      simp only [salvorlaw21_BoundHolds.j0] at H
      by_cases c11 : x30_8 = true
      · subst c11
        have H1 : ((salvorlaw21_BoundRuns.f kj8).bind fun t295 => (some t295)) = some r := by rw [if_pos rfl] at H; exact H
        clear H
        have H := H1
        clear H1
        replace H := Option.bind_eq_some_iff.mp H
        obtain ⟨t295, A120, H⟩ := H
        replace H : (some t295) = some r := H
        have A12 := Aside0.mk A120
        clear A120
        obtain rfl := Option.some.inj H
        go_wp2_with (first | ((with_reducible refine gate_callee (f := 4) rfl ?_); refine goesL_ (some 31) rfl rfl Try.func4 (by kernel_rfl) rfl #[] rfl (by (try simp only [List.map_toArray, List.map_cons, List.map_nil]); first | done | rfl | (simp only [List.length_drop, List.length_take]; rfl)) ?_; (with_reducible refine (salvorlaw21_BoundRuns.calls kj8  t295 _ A12.out).mono ?_); rintro e w13 ⟨rfl, hb⟩; refine ⟨_, rfl, ?_⟩; have n0_ := Aside0.mk (below_step (by repeat (first | (with_reducible first | exact HB.out | apply below_alloc | apply pw_below_drewN | apply below_drew1) | exact HB.out)) hb); clear HB; have HB := n0_; clear n0_; (try clear hb); (try clear hb2); (try clear hk); (try clear hi)))
        go_ret
        exact ⟨by first | rfl | (simp [errW_none, errW_some] <;> rfl) | (simp [*, errW_none, errW_some] <;> rfl), by repeat (first | (with_reducible first | exact HB.out | apply below_alloc | apply pw_below_drewN | apply below_drew1) | exact HB.out)⟩
      · replace c11 := Bool.eq_false_iff.mpr c11
        subst c11
        have H1 : ((salvorlaw18_Opts.f a2 a3 a4).bind fun bt296 => ((salvorlaw18_Map.f kj8 a0 l1 a5 a6).bind fun bt300 => ((maptext_May.f bt300.1 bt300.2.1 bt300.2.2.1 bt300.2.2.2).bind fun t307 => (if t307 = true then ((bound_Acts.f kj8 bt296.1 bt296.2.1 bt296.2.2 bt300.1 bt300.2.1 bt300.2.2.1 bt300.2.2.2).bind fun t308 => (salvorlaw21_BoundHolds.l0 kj8 l7 t308 0 bt296.1 bt296.2.1 bt296.2.2 bt300.1 bt300.2.1 bt300.2.2.1 bt300.2.2.2)) else (some false))))) = some r := by rw [if_neg (show ¬ (false = true) by decide)] at H; exact H
        clear H
        have H := H1
        clear H1
        replace H := Option.bind_eq_some_iff.mp H
        obtain ⟨⟨t296, t297, t298⟩, A140, H⟩ := H
        replace H : ((salvorlaw18_Map.f kj8 a0 l1 a5 a6).bind fun bt300 => ((maptext_May.f bt300.1 bt300.2.1 bt300.2.2.1 bt300.2.2.2).bind fun t307 => (if t307 = true then ((bound_Acts.f kj8 t296 t297 t298 bt300.1 bt300.2.1 bt300.2.2.1 bt300.2.2.2).bind fun t308 => (salvorlaw21_BoundHolds.l0 kj8 l7 t308 0 t296 t297 t298 bt300.1 bt300.2.1 bt300.2.2.1 bt300.2.2.2)) else (some false)))) = some r := H
        have A14 := Aside0.mk A140
        clear A140
        replace H := Option.bind_eq_some_iff.mp H
        obtain ⟨⟨t300, t301, t302, t303⟩, A150, H⟩ := H
        replace H : ((maptext_May.f t300 t301 t302 t303).bind fun t307 => (if t307 = true then ((bound_Acts.f kj8 t296 t297 t298 t300 t301 t302 t303).bind fun t308 => (salvorlaw21_BoundHolds.l0 kj8 l7 t308 0 t296 t297 t298 t300 t301 t302 t303)) else (some false))) = some r := H
        have A15 := Aside0.mk A150
        clear A150
        replace H := Option.bind_eq_some_iff.mp H
        obtain ⟨t307, A160, H⟩ := H
        replace H : (if t307 = true then ((bound_Acts.f kj8 t296 t297 t298 t300 t301 t302 t303).bind fun t308 => (salvorlaw21_BoundHolds.l0 kj8 l7 t308 0 t296 t297 t298 t300 t301 t302 t303)) else (some false)) = some r := H
        have A16 := Aside0.mk A160
        clear A160
        by_cases c17 : t307 = true
        · subst c17
          have H1 : ((bound_Acts.f kj8 t296 t297 t298 t300 t301 t302 t303).bind fun t308 => (salvorlaw21_BoundHolds.l0 kj8 l7 t308 0 t296 t297 t298 t300 t301 t302 t303)) = some r := by rw [if_pos rfl] at H; exact H
          clear H
          have H := H1
          clear H1
          replace H := Option.bind_eq_some_iff.mp H
          obtain ⟨t308, A180, H⟩ := H
          replace H : (salvorlaw21_BoundHolds.l0 kj8 l7 t308 0 t296 t297 t298 t300 t301 t302 t303) = some r := H
          have A18 := Aside0.mk A180
          clear A180
          have H' := Aside0.mk H
          clear H
          go_wp2_with (first | ((with_reducible refine gate_callee (f := 5) rfl ?_); refine goesL_ (some 35) rfl rfl Try.func5 (by kernel_rfl) rfl #[.int .u8 a2, .int .u8 a3, .bool a4] rfl (by (try simp only [List.map_toArray, List.map_cons, List.map_nil]); first | done | rfl | (simp only [List.length_drop, List.length_take]; rfl)) ?_; (with_reducible refine (salvorlaw18_Opts.calls a2 a3 a4 t296 t297 t298 _ A14.out).mono ?_); rintro e w19 ⟨rfl, hb⟩; refine ⟨_, rfl, ?_⟩; have n0_ := Aside0.mk (below_step (by repeat (first | (with_reducible first | exact HB.out | apply below_alloc | apply pw_below_drewN | apply below_drew1) | exact HB.out)) hb); clear HB; have HB := n0_; clear n0_; (try clear hb); (try clear hb2); (try clear hk); (try clear hi)) | ((with_reducible refine gate_dst (N := 17) rfl ?_); (try (refine gate_guard (by rfl) ?_; dsimp only)); refine box_event ?hg (N := 17) ?hd (cs := #[.int .i64 0, .int .i64 0, .bool false]) (t := 26) ?hr ?_; (case hd => rfl); (case hg => rfl); (case hr => first | (go_simp; done) | (go_simp; rfl)); intro gb299 hg w20 hbox hb; have n0_ := Aside0.mk (below_step (by repeat (first | (with_reducible first | exact HB.out | apply below_alloc | apply pw_below_drewN | apply below_drew1) | exact HB.out)) hb); have n1_ := Aside0.mk (hbox); have n2_ := Aside0.mk ((by rw [hg]; exact (below_size (by repeat (first | (with_reducible first | exact HB.out | apply below_alloc | apply pw_below_drewN | apply below_drew1) | exact HB.out))) : w.heap.size ≤ gb299)); have n3_ := Aside0.mk ((by rw [hg]; exact (below_size (by repeat (first | (with_reducible first | exact HB.out | apply below_alloc | apply pw_below_drewN | apply below_drew1) | exact HB.out))) : w.heap.size ≤ gb299)); clear HB; have HB := n0_; have BK299 := n1_; have GW299 := n2_; have GE299 := n3_; clear n0_ n1_ n2_ n3_; clear hb hbox hg; have hcz21_0 : w20.cell? ⟨gb299, 0, none⟩ = some (.int .i64 0) := (blk_cell BK299.out 0).trans rfl; have hcz21_1 : w20.cell? ⟨gb299, 1, none⟩ = some (.int .i64 0) := (blk_cell BK299.out 1).trans rfl; have hcz21_2 : w20.cell? ⟨gb299, 2, none⟩ = some (.bool false) := (blk_cell BK299.out 2).trans rfl; have hfz21_0 := blk_frozen BK299.out 0; have hfz21_1 := blk_frozen BK299.out 1; have hfz21_2 := blk_frozen BK299.out 2) | ((with_reducible refine gate_callee (f := 6) rfl ?_); refine goesL_ (some 40) rfl rfl Try.func6 (by kernel_rfl) rfl #[.int .u8 a0, .slice A1 l1.length c1, .int .u8 a5, .int .u8 a6] rfl (by (try simp only [List.map_toArray, List.map_cons, List.map_nil]); first | done | rfl | (simp only [List.length_drop, List.length_take]; rfl)) ?_; (with_reducible refine (salvorlaw18_Map.calls kj8 a0 _ _ l1 a5 a6 t300 t301 t302 t303 _ ?side1 ?side2 A15.out).mono ?_); (case side1 => exact Kd.C_below HR1.out (by repeat (first | (with_reducible first | exact HB.out | apply below_alloc | apply pw_below_drewN | apply below_drew1 | refine below_set ?_ GE299.out) | exact HB.out))); (case side2 => exact HC1.out); rintro e w22 ⟨v304, rfl, ho0, hb⟩; refine ⟨_, rfl, ?_⟩; have n0_ := Aside0.mk (Kd.R_lower ho0 (below_size (by repeat (first | (with_reducible first | exact HB.out | apply below_alloc | apply pw_below_drewN | apply below_drew1 | refine below_set ?_ GE299.out) | exact HB.out)))); have n1_ := Aside0.mk (blk_below (g := gb299) (o := .cells #[.int .i64 t296, .int .i64 t297, .bool t298] 26 (0, 0)) (by (with_reducible repeat (first | refine blk_drewN ?_ _ | refine blk_drew ?_ | refine blk_alloc ?_ _)); refine blk_put (cs := #[.int .i64 t296, .int .i64 t297, .bool false]) ?_ 2 _ rfl; (with_reducible repeat (first | refine blk_drewN ?_ _ | refine blk_drew ?_ | refine blk_alloc ?_ _)); refine blk_put (cs := #[.int .i64 t296, .int .i64 0, .bool false]) ?_ 1 _ rfl; (with_reducible repeat (first | refine blk_drewN ?_ _ | refine blk_drew ?_ | refine blk_alloc ?_ _)); refine blk_put (cs := #[.int .i64 0, .int .i64 0, .bool false]) ?_ 0 _ rfl; (with_reducible repeat (first | refine blk_drewN ?_ _ | refine blk_drew ?_ | refine blk_alloc ?_ _)); exact BK299.out) hb); have n2_ := Aside0.mk (below_step (by repeat (first | (with_reducible first | exact HB.out | apply below_alloc | apply pw_below_drewN | apply below_drew1 | refine below_set ?_ GE299.out) | exact HB.out)) hb); clear BK299; clear HB; have HO305 := n0_; have BK299 := n1_; have HB := n2_; clear n0_ n1_ n2_; (try clear hb); (try clear hb2); (try clear hk); (try clear hi); (try clear ho0)) | ((with_reducible refine gate_dst (N := 18) rfl ?_); (try (refine gate_guard (by rfl) ?_; dsimp only)); refine box_event ?hg (N := 18) ?hd (cs := #[.int .i64 0, .int .i64 0, .int .u8 0, .slice none 0 0]) (t := 30) ?hr ?_; (case hd => rfl); (case hg => rfl); (case hr => first | (go_simp; done) | (go_simp; rfl)); intro gb306 hg w23 hbox hb; have n0_ := Aside0.mk (Kd.R_below (by (with_reducible repeat (first | apply Kd.R_alloc | apply Kd.R_drewN | apply Kd.R_drew)); exact HO305.out) hb); have n1_ := Aside0.mk (blk_below (g := gb299) (o := .cells #[.int .i64 t296, .int .i64 t297, .bool t298] 26 (0, 0)) (by (with_reducible repeat (first | refine blk_drewN ?_ _ | refine blk_drew ?_ | refine blk_alloc ?_ _)); exact BK299.out) hb); have n2_ := Aside0.mk (below_step (by repeat (first | (with_reducible first | exact HB.out | apply below_alloc | apply pw_below_drewN | apply below_drew1 | refine below_set ?_ GE299.out) | exact HB.out)) hb); have n3_ := Aside0.mk (hbox); have n4_ := Aside0.mk ((by rw [hg]; exact (below_size (by repeat (first | (with_reducible first | exact HB.out | apply below_alloc | apply pw_below_drewN | apply below_drew1 | refine below_set ?_ GE299.out) | exact HB.out))) : w.heap.size ≤ gb306)); have n5_ := Aside0.mk ((by rw [hg]; exact (below_size (by repeat (first | (with_reducible first | exact HB.out | apply below_alloc | apply pw_below_drewN | apply below_drew1 | refine below_set ?_ GE299.out) | exact HB.out))) : w.heap.size ≤ gb306)); have n6_ := Aside0.mk ((by rw [hg]; exact Nat.ne_of_lt (blk_lt (g := gb299) (o := .cells #[.int .i64 t296, .int .i64 t297, .bool t298] 26 (0, 0)) (by (with_reducible repeat (first | refine blk_drewN ?_ _ | refine blk_drew ?_ | refine blk_alloc ?_ _)); exact BK299.out)) : gb299 ≠ gb306)); have n7_ := Aside0.mk ((by rw [hg]; exact Nat.ne_of_gt (blk_lt (g := gb299) (o := .cells #[.int .i64 t296, .int .i64 t297, .bool t298] 26 (0, 0)) (by (with_reducible repeat (first | refine blk_drewN ?_ _ | refine blk_drew ?_ | refine blk_alloc ?_ _)); exact BK299.out)) : gb306 ≠ gb299)); clear HO305; clear BK299; clear HB; have HO305 := n0_; have BK299 := n1_; have HB := n2_; have BK306 := n3_; have GW306 := n4_; have GE306 := n5_; have NB299_306 := n6_; have NB306_299 := n7_; clear n0_ n1_ n2_ n3_ n4_ n5_ n6_ n7_; clear hb hbox hg; have hnb24 := NB306_299.out; have hnc24 := NB299_306.out; have hcz25_0 : w23.cell? ⟨gb306, 0, none⟩ = some (.int .i64 0) := (blk_cell BK306.out 0).trans rfl; have hcz25_1 : w23.cell? ⟨gb306, 1, none⟩ = some (.int .i64 0) := (blk_cell BK306.out 1).trans rfl; have hcz25_2 : w23.cell? ⟨gb306, 2, none⟩ = some (.int .u8 0) := (blk_cell BK306.out 2).trans rfl; have hcz25_3 : w23.cell? ⟨gb306, 3, none⟩ = some (.slice none 0 0) := (blk_cell BK306.out 3).trans rfl; have hfz25_0 := blk_frozen BK306.out 0; have hfz25_1 := blk_frozen BK306.out 1; have hfz25_2 := blk_frozen BK306.out 2; have hfz25_3 := blk_frozen BK306.out 3; obtain ⟨Ao26, co26, eo26⟩ := Kd.R_slice HO305.out; subst eo26) | ((with_reducible refine gate_callee (f := 7) rfl ?_); refine goesL_ (some 42) rfl rfl Try.func7 (by kernel_rfl) rfl #[.agg #[.int .i64 t300, .int .i64 t301, .int .u8 t302, .slice Ao26 t303.length co26]] rfl (by (try simp only [List.map_toArray, List.map_cons, List.map_nil]); first | done | rfl | (simp only [List.length_drop, List.length_take]; rfl)) ?_; (with_reducible refine (maptext_May.calls t300 t301 t302 _ _ t303 true _ ?side1 ?side2 A16.out).mono ?_); (case side1 => refine (Kd.R_reads' (e := 56) (base := w.heap.size) (ok := fun k_ => True) (n := t303.length) (c := co26) ?_).2.2; exact (by (with_reducible repeat (first | apply Kd.R_alloc | apply Kd.R_drewN | apply Kd.R_drew)); exact (Kd.R_mono (Kd.R_far (p := ⟨gb306, 3, none⟩) (Kd.R_far (p := ⟨gb306, 2, none⟩) (Kd.R_far (p := ⟨gb306, 1, none⟩) (Kd.R_far (p := ⟨gb306, 0, none⟩) (Kd.R_types HO305.out BK306.out (by decide)) (fun _ hk => hk.2) (.int .i64 t300)) (fun _ hk => hk.2) (.int .i64 t301)) (fun _ hk => hk.2) (.int .u8 t302)) (fun _ hk => hk.2) (.slice Ao26 t303.length co26)) (fun _ h_ => h_.1)))); (case side2 => exact (Kd.R_reads' HO305.out).2.1); rintro e w27 ⟨rfl, hb⟩; refine ⟨_, rfl, ?_⟩; have n0_ := Aside0.mk (Kd.R_below (by (with_reducible repeat (first | apply Kd.R_alloc | apply Kd.R_drewN | apply Kd.R_drew)); exact (Kd.R_mono (Kd.R_far (p := ⟨gb306, 3, none⟩) (Kd.R_far (p := ⟨gb306, 2, none⟩) (Kd.R_far (p := ⟨gb306, 1, none⟩) (Kd.R_far (p := ⟨gb306, 0, none⟩) (Kd.R_types HO305.out BK306.out (by decide)) (fun _ hk => hk.2) (.int .i64 t300)) (fun _ hk => hk.2) (.int .i64 t301)) (fun _ hk => hk.2) (.int .u8 t302)) (fun _ hk => hk.2) (.slice Ao26 t303.length co26)) (fun _ h_ => h_.1))) hb); have n1_ := Aside0.mk (blk_below (g := gb299) (o := .cells #[.int .i64 t296, .int .i64 t297, .bool t298] 26 (0, 0)) (by (with_reducible repeat (first | refine blk_drewN ?_ _ | refine blk_drew ?_ | refine blk_alloc ?_ _)); refine blk_far ?_ NB299_306.out _; (with_reducible repeat (first | refine blk_drewN ?_ _ | refine blk_drew ?_ | refine blk_alloc ?_ _)); refine blk_far ?_ NB299_306.out _; (with_reducible repeat (first | refine blk_drewN ?_ _ | refine blk_drew ?_ | refine blk_alloc ?_ _)); refine blk_far ?_ NB299_306.out _; (with_reducible repeat (first | refine blk_drewN ?_ _ | refine blk_drew ?_ | refine blk_alloc ?_ _)); refine blk_far ?_ NB299_306.out _; (with_reducible repeat (first | refine blk_drewN ?_ _ | refine blk_drew ?_ | refine blk_alloc ?_ _)); exact BK299.out) hb); have n2_ := Aside0.mk (blk_below (g := gb306) (o := .cells #[.int .i64 t300, .int .i64 t301, .int .u8 t302, .slice Ao26 t303.length co26] 30 (0, 0)) (by (with_reducible repeat (first | refine blk_drewN ?_ _ | refine blk_drew ?_ | refine blk_alloc ?_ _)); refine blk_put (cs := #[.int .i64 t300, .int .i64 t301, .int .u8 t302, .slice none 0 0]) ?_ 3 _ rfl; (with_reducible repeat (first | refine blk_drewN ?_ _ | refine blk_drew ?_ | refine blk_alloc ?_ _)); refine blk_put (cs := #[.int .i64 t300, .int .i64 t301, .int .u8 0, .slice none 0 0]) ?_ 2 _ rfl; (with_reducible repeat (first | refine blk_drewN ?_ _ | refine blk_drew ?_ | refine blk_alloc ?_ _)); refine blk_put (cs := #[.int .i64 t300, .int .i64 0, .int .u8 0, .slice none 0 0]) ?_ 1 _ rfl; (with_reducible repeat (first | refine blk_drewN ?_ _ | refine blk_drew ?_ | refine blk_alloc ?_ _)); refine blk_put (cs := #[.int .i64 0, .int .i64 0, .int .u8 0, .slice none 0 0]) ?_ 0 _ rfl; (with_reducible repeat (first | refine blk_drewN ?_ _ | refine blk_drew ?_ | refine blk_alloc ?_ _)); exact BK306.out) hb); have n3_ := Aside0.mk (below_step (by repeat (first | (with_reducible first | exact HB.out | apply below_alloc | apply pw_below_drewN | apply below_drew1 | refine below_set ?_ GE299.out | refine below_set ?_ GE306.out) | exact HB.out)) hb); clear HO305; clear BK299; clear BK306; clear HB; have HO305 := n0_; have BK299 := n1_; have BK306 := n2_; have HB := n3_; clear n0_ n1_ n2_ n3_; (try clear hb); (try clear hb2); (try clear hk); (try clear hi); have hcz28_0 : w27.cell? ⟨gb299, 0, none⟩ = some (.int .i64 t296) := (blk_cell BK299.out 0).trans rfl; have hcz28_1 : w27.cell? ⟨gb299, 1, none⟩ = some (.int .i64 t297) := (blk_cell BK299.out 1).trans rfl; have hcz28_2 : w27.cell? ⟨gb299, 2, none⟩ = some (.bool t298) := (blk_cell BK299.out 2).trans rfl; have hfz28_0 := blk_frozen BK299.out 0; have hfz28_1 := blk_frozen BK299.out 1; have hfz28_2 := blk_frozen BK299.out 2; have hcz29_0 : w27.cell? ⟨gb306, 0, none⟩ = some (.int .i64 t300) := (blk_cell BK306.out 0).trans rfl; have hcz29_1 : w27.cell? ⟨gb306, 1, none⟩ = some (.int .i64 t301) := (blk_cell BK306.out 1).trans rfl; have hcz29_2 : w27.cell? ⟨gb306, 2, none⟩ = some (.int .u8 t302) := (blk_cell BK306.out 2).trans rfl; have hcz29_3 : w27.cell? ⟨gb306, 3, none⟩ = some (.slice Ao26 t303.length co26) := (blk_cell BK306.out 3).trans rfl; have hfz29_0 := blk_frozen BK306.out 0; have hfz29_1 := blk_frozen BK306.out 1; have hfz29_2 := blk_frozen BK306.out 2; have hfz29_3 := blk_frozen BK306.out 3) | ((with_reducible refine gate_callee (f := 8) rfl ?_); refine goesL_ (some 46) rfl rfl Try.func8 (by kernel_rfl) rfl #[.agg #[.int .i64 t296, .int .i64 t297, .bool t298], .agg #[.int .i64 t300, .int .i64 t301, .int .u8 t302, .slice Ao26 t303.length co26]] rfl (by (try simp only [List.map_toArray, List.map_cons, List.map_nil]); first | done | rfl | (simp only [List.length_drop, List.length_take]; rfl)) ?_; (with_reducible refine (bound_Acts.calls kj8 t296 t297 t298 t300 t301 t302 _ _ t303 t308 _ ?side1 ?side2 A18.out).mono ?_); (case side1 => repeat (first | exact (Kd.R_reads' HO305.out).2.2 | (with_reducible refine Kd.C_alloc ?_ _) | (with_reducible refine Kd.C_drewN ?_ _) | (with_reducible refine Kd.C_drew ?_))); (case side2 => exact (Kd.R_reads' HO305.out).2.1); rintro e w30 ⟨rfl, hb⟩; refine ⟨_, rfl, ?_⟩; have n0_ := Aside0.mk (Kd.R_below (by (with_reducible repeat (first | apply Kd.R_alloc | apply Kd.R_drewN | apply Kd.R_drew)); exact HO305.out) hb); have n1_ := Aside0.mk (blk_below (g := gb299) (o := .cells #[.int .i64 t296, .int .i64 t297, .bool t298] 26 (0, 0)) (by (with_reducible repeat (first | refine blk_drewN ?_ _ | refine blk_drew ?_ | refine blk_alloc ?_ _)); exact BK299.out) hb); have n2_ := Aside0.mk (blk_below (g := gb306) (o := .cells #[.int .i64 t300, .int .i64 t301, .int .u8 t302, .slice Ao26 t303.length co26] 30 (0, 0)) (by (with_reducible repeat (first | refine blk_drewN ?_ _ | refine blk_drew ?_ | refine blk_alloc ?_ _)); exact BK306.out) hb); have n3_ := Aside0.mk (below_step (by repeat (first | (with_reducible first | exact HB.out | apply below_alloc | apply pw_below_drewN | apply below_drew1 | refine below_set ?_ GE299.out | refine below_set ?_ GE306.out) | exact HB.out)) hb); clear HO305; clear BK299; clear BK306; clear HB; have HO305 := n0_; have BK299 := n1_; have BK306 := n2_; have HB := n3_; clear n0_ n1_ n2_ n3_; (try clear hb); (try clear hb2); (try clear hk); (try clear hi)))
          go_loopg [20] kj8 (fun kq v20 w' => ∃ (x20_2 : Int) (x307000_2 : Int) (x307001_2 : Int) (x307002_2 : Int) (x307003_2 : List (S56)) (u307003 : Value), v20 = .int .i64 x20_2 ∧ Aside0 (salvorlaw21_BoundHolds.l0 kq l7 t308 x20_2 t296 t297 t298 x307000_2 x307001_2 x307002_2 x307003_2 = some r) ∧ Aside0 (kq ≤ kj8) ∧ Aside0 (Kd.R k56 56 w' w.heap.size (fun _ => True) u307003 x307003_2) ∧ Aside0 (w'.heap[gb299]? = some (.cells #[.int .i64 t296, .int .i64 t297, .bool t298] 26 (0, 0))) ∧ Aside0 (w'.heap[gb306]? = some (.cells #[.int .i64 x307000_2, .int .i64 x307001_2, .int .u8 x307002_2, u307003] 30 (0, 0))) ∧ Aside0 (Below w.heap.size w w'))
          case atStart => exact ⟨(0), (t300), (t301), (t302), (t303), (.slice Ao26 t303.length co26), (by first | rfl | (simp; done) | (simp [*]; done)), H', ⟨Nat.le_refl _⟩, ⟨by (with_reducible repeat (first | apply Kd.R_alloc | apply Kd.R_drewN | apply Kd.R_drew)); exact HO305.out⟩, ⟨by (with_reducible repeat (first | refine blk_drewN ?_ _ | refine blk_drew ?_ | refine blk_alloc ?_ _)); exact BK299.out⟩, ⟨by (with_reducible repeat (first | refine blk_drewN ?_ _ | refine blk_drew ?_ | refine blk_alloc ?_ _)); exact BK306.out⟩, ⟨by repeat (first | (with_reducible first | exact HB.out | apply below_alloc | apply pw_below_drewN | apply below_drew1 | refine below_set ?_ GE299.out | refine below_set ?_ GE306.out) | exact HB.out)⟩⟩
          case round =>
            clear H'
            try clear c1
            try clear c2
            try clear p2
            try clear c3
            try clear c4
            try clear c5
            try clear c6
            try clear c7
            try clear c8
            try clear c10
            try clear c10b0
            try clear c10b1
            try clear c11
            try clear c17
            try clear c24
            try clear hcz21_0
            try clear hcz21_1
            try clear hcz21_2
            try clear hcz25_0
            try clear hcz25_1
            try clear hcz25_2
            try clear hcz25_3
            try clear hcz28_0
            try clear hcz28_1
            try clear hcz28_2
            try clear hcz29_0
            try clear hcz29_1
            try clear hcz29_2
            try clear hcz29_3
            try clear hfz21_0
            try clear hfz21_1
            try clear hfz21_2
            try clear hfz25_0
            try clear hfz25_1
            try clear hfz25_2
            try clear hfz25_3
            try clear hfz28_0
            try clear hfz28_1
            try clear hfz28_2
            try clear hfz29_0
            try clear hfz29_1
            try clear hfz29_2
            try clear hfz29_3
            try clear p2
            obtain ⟨x20_2, x307000_2, x307001_2, x307002_2, x307003_2, u307003, rfl, HA, HK2, HO_307003, BK299, BK306, HB⟩ := hrel
            cases gk with
            | zero => exact absurd HA.out (by simp [salvorlaw21_BoundHolds.l0])
            | succ k2 =>
              have H := HA.out
              clear HA
              simp only [salvorlaw21_BoundHolds.l0] at H
              by_cases c31 : x20_2 < t308
              · rw [if_pos c31] at H
                have c31b0 : decide (x20_2 < t308) = true := decide_eq_true c31
                clear c31
                replace H := Option.bind_eq_some_iff.mp H
                obtain ⟨⟨t313, t314, t315⟩, A320, H⟩ := H
                replace H : (if t313 = 0 then ((plan_Next.f k2 t296 t297 t298 x307000_2 x307001_2 x307002_2 x307003_2).bind fun bt317 => (if (bt317.1 == 0 && (bt317.2.1 == 0 && (bt317.2.2 == 0))) = true then ((salvorlaw21_BoundRuns.f k2).bind fun t320 => (some t320)) else (some false))) else (if (l7.length : Int) > 0 then (if (l7.length : Int) = 0 then (none) else (if 0 ≤ (Int.tmod x20_2 (l7.length : Int)) then (if (Int.tmod x20_2 (l7.length : Int)) < (l7.length : Int) then ((plan_After.f k2 t296 t297 t298 x307000_2 x307001_2 x307002_2 x307003_2 (wrap64 (rd l7 (Int.tmod x20_2 (l7.length : Int))))).bind fun bt322 => (salvorlaw21_BoundHolds.l0 k2 l7 t308 (wrap64 (x20_2 + 1)) t296 t297 t298 bt322.1 bt322.2.1 bt322.2.2.1 bt322.2.2.2)) else (none)) else (none))) else ((plan_After.f k2 t296 t297 t298 x307000_2 x307001_2 x307002_2 x307003_2 0).bind fun bt328 => (salvorlaw21_BoundHolds.l0 k2 l7 t308 (wrap64 (x20_2 + 1)) t296 t297 t298 bt328.1 bt328.2.1 bt328.2.2.1 bt328.2.2.2)))) = some r := H
                have A32 := Aside0.mk A320
                clear A320
                by_cases c33 : t313 = 0
                · rw [if_pos c33] at H
                  have c33b0 : (t313 == 0) = true := beq_iff_eq.mpr c33
                  have c33b1 : (t313 != 0) = false := bne_eq_false_iff_eq.mpr c33
                  clear c33
                  replace H := Option.bind_eq_some_iff.mp H
                  obtain ⟨⟨t317, t318, t319⟩, A340, H⟩ := H
                  replace H : (if (t317 == 0 && (t318 == 0 && (t319 == 0))) = true then ((salvorlaw21_BoundRuns.f k2).bind fun t320 => (some t320)) else (some false)) = some r := H
                  have A34 := Aside0.mk A340
                  clear A340
                  by_cases c35 : (t317 == 0 && (t318 == 0 && (t319 == 0))) = true
                  · rw [if_pos c35] at H
                    have c35b0 : (t317 == 0 && (t318 == 0 && (t319 == 0))) = true := c35
                    (try (have c35b1 : decide (t317 = 0 && (t318 == 0 && (t319 == 0))) = true := by simpa using c35))
                    (try (have c35b2 : (t317 == 0 && (t318 == 0 && (t319 == 0))) = true := by simpa using c35))
                    clear c35
                    replace H := Option.bind_eq_some_iff.mp H
                    obtain ⟨t320, A360, H⟩ := H
                    replace H : (some t320) = some r := H
                    have A36 := Aside0.mk A360
                    clear A360
                    obtain rfl := Option.some.inj H
                    have hnb37 := NB299_306.out
                    have hnc37 := NB306_299.out
                    have hcz38_0 : wr.cell? ⟨gb299, 0, none⟩ = some (.int .i64 t296) := (blk_cell BK299.out 0).trans rfl
                    have hcz38_1 : wr.cell? ⟨gb299, 1, none⟩ = some (.int .i64 t297) := (blk_cell BK299.out 1).trans rfl
                    have hcz38_2 : wr.cell? ⟨gb299, 2, none⟩ = some (.bool t298) := (blk_cell BK299.out 2).trans rfl
                    have hfz38_0 := blk_frozen BK299.out 0
                    have hfz38_1 := blk_frozen BK299.out 1
                    have hfz38_2 := blk_frozen BK299.out 2
                    have hcz39_0 : wr.cell? ⟨gb306, 0, none⟩ = some (.int .i64 x307000_2) := (blk_cell BK306.out 0).trans rfl
                    have hcz39_1 : wr.cell? ⟨gb306, 1, none⟩ = some (.int .i64 x307001_2) := (blk_cell BK306.out 1).trans rfl
                    have hcz39_2 : wr.cell? ⟨gb306, 2, none⟩ = some (.int .u8 x307002_2) := (blk_cell BK306.out 2).trans rfl
                    have hcz39_3 : wr.cell? ⟨gb306, 3, none⟩ = some (u307003) := (blk_cell BK306.out 3).trans rfl
                    have hfz39_0 := blk_frozen BK306.out 0
                    have hfz39_1 := blk_frozen BK306.out 1
                    have hfz39_2 := blk_frozen BK306.out 2
                    have hfz39_3 := blk_frozen BK306.out 3
                    obtain ⟨Ao40, co40, eo40⟩ := Kd.R_slice HO_307003.out
                    subst eo40
                    go_wp2_with (first | ((with_reducible refine gate_callee (f := 9) rfl ?_); refine goesL_ (some 54) rfl rfl Try.func9 (by kernel_rfl) rfl #[.agg #[.int .i64 t296, .int .i64 t297, .bool t298], .agg #[.int .i64 x307000_2, .int .i64 x307001_2, .int .u8 x307002_2, .slice Ao40 x307003_2.length co40]] rfl (by (try simp only [List.map_toArray, List.map_cons, List.map_nil]); first | done | rfl | (simp only [List.length_drop, List.length_take]; rfl)) ?_; (with_reducible refine (plan_Next.calls k2 t296 t297 t298 x307000_2 x307001_2 x307002_2 _ _ x307003_2 t313 t314 t315 _ ?side1 ?side2 A32.out).mono ?_); (case side1 => repeat (first | exact (Kd.R_reads' HO_307003.out).2.2 | (with_reducible refine Kd.C_alloc ?_ _) | (with_reducible refine Kd.C_drewN ?_ _) | (with_reducible refine Kd.C_drew ?_))); (case side2 => exact (Kd.R_reads' HO_307003.out).2.1); rintro e w41 ⟨rfl, hb⟩; refine ⟨_, rfl, ?_⟩; have n0_ := Aside0.mk (Kd.R_below (by (with_reducible repeat (first | apply Kd.R_alloc | apply Kd.R_drewN | apply Kd.R_drew)); exact HO_307003.out) hb); have n1_ := Aside0.mk (blk_below (g := gb299) (o := .cells #[.int .i64 t296, .int .i64 t297, .bool t298] 26 (0, 0)) (by (with_reducible repeat (first | refine blk_drewN ?_ _ | refine blk_drew ?_ | refine blk_alloc ?_ _)); exact BK299.out) hb); have n2_ := Aside0.mk (blk_below (g := gb306) (o := .cells #[.int .i64 x307000_2, .int .i64 x307001_2, .int .u8 x307002_2, .slice Ao40 x307003_2.length co40] 30 (0, 0)) (by (with_reducible repeat (first | refine blk_drewN ?_ _ | refine blk_drew ?_ | refine blk_alloc ?_ _)); exact BK306.out) hb); have n3_ := Aside0.mk (below_step (by repeat (first | (with_reducible first | exact HB.out | apply below_alloc | apply pw_below_drewN | apply below_drew1 | refine below_set ?_ GE299.out | refine below_set ?_ GE306.out) | exact HB.out)) hb); clear HO_307003; clear BK299; clear BK306; clear HB; have HO_307003 := n0_; have BK299 := n1_; have BK306 := n2_; have HB := n3_; clear n0_ n1_ n2_ n3_; (try clear hb); (try clear hb2); (try clear hk); (try clear hi)) | ((with_reducible refine gate_dst (N := 21) rfl ?_); (try (refine gate_guard (by rfl) ?_; dsimp only)); refine box_event ?hg (N := 21) ?hd (cs := #[.int .i64 0, .int .i64 0, .int .i64 0]) (t := 35) ?hr ?_; (case hd => rfl); (case hg => rfl); (case hr => first | (go_simp; done) | (go_simp; rfl)); intro gb316 hg w42 hbox hb; have n0_ := Aside0.mk (Kd.R_below (by (with_reducible repeat (first | apply Kd.R_alloc | apply Kd.R_drewN | apply Kd.R_drew)); exact HO_307003.out) hb); have n1_ := Aside0.mk (blk_below (g := gb299) (o := .cells #[.int .i64 t296, .int .i64 t297, .bool t298] 26 (0, 0)) (by (with_reducible repeat (first | refine blk_drewN ?_ _ | refine blk_drew ?_ | refine blk_alloc ?_ _)); exact BK299.out) hb); have n2_ := Aside0.mk (blk_below (g := gb306) (o := .cells #[.int .i64 x307000_2, .int .i64 x307001_2, .int .u8 x307002_2, .slice Ao40 x307003_2.length co40] 30 (0, 0)) (by (with_reducible repeat (first | refine blk_drewN ?_ _ | refine blk_drew ?_ | refine blk_alloc ?_ _)); exact BK306.out) hb); have n3_ := Aside0.mk (below_step (by repeat (first | (with_reducible first | exact HB.out | apply below_alloc | apply pw_below_drewN | apply below_drew1 | refine below_set ?_ GE299.out | refine below_set ?_ GE306.out) | exact HB.out)) hb); have n4_ := Aside0.mk (hbox); have n5_ := Aside0.mk ((by rw [hg]; exact (below_size (by repeat (first | (with_reducible first | exact HB.out | apply below_alloc | apply pw_below_drewN | apply below_drew1 | refine below_set ?_ GE299.out | refine below_set ?_ GE306.out) | exact HB.out))) : w.heap.size ≤ gb316)); have n6_ := Aside0.mk ((by rw [hg]; exact (below_size (by repeat (first | (with_reducible first | exact HB.out | apply below_alloc | apply pw_below_drewN | apply below_drew1 | refine below_set ?_ GE299.out | refine below_set ?_ GE306.out) | exact HB.out))) : w.heap.size ≤ gb316)); have n7_ := Aside0.mk ((by rw [hg]; exact Nat.ne_of_lt (blk_lt (g := gb299) (o := .cells #[.int .i64 t296, .int .i64 t297, .bool t298] 26 (0, 0)) (by (with_reducible repeat (first | refine blk_drewN ?_ _ | refine blk_drew ?_ | refine blk_alloc ?_ _)); exact BK299.out)) : gb299 ≠ gb316)); have n8_ := Aside0.mk ((by rw [hg]; exact Nat.ne_of_gt (blk_lt (g := gb299) (o := .cells #[.int .i64 t296, .int .i64 t297, .bool t298] 26 (0, 0)) (by (with_reducible repeat (first | refine blk_drewN ?_ _ | refine blk_drew ?_ | refine blk_alloc ?_ _)); exact BK299.out)) : gb316 ≠ gb299)); have n9_ := Aside0.mk ((by rw [hg]; exact Nat.ne_of_lt (blk_lt (g := gb306) (o := .cells #[.int .i64 x307000_2, .int .i64 x307001_2, .int .u8 x307002_2, .slice Ao40 x307003_2.length co40] 30 (0, 0)) (by (with_reducible repeat (first | refine blk_drewN ?_ _ | refine blk_drew ?_ | refine blk_alloc ?_ _)); exact BK306.out)) : gb306 ≠ gb316)); have n10_ := Aside0.mk ((by rw [hg]; exact Nat.ne_of_gt (blk_lt (g := gb306) (o := .cells #[.int .i64 x307000_2, .int .i64 x307001_2, .int .u8 x307002_2, .slice Ao40 x307003_2.length co40] 30 (0, 0)) (by (with_reducible repeat (first | refine blk_drewN ?_ _ | refine blk_drew ?_ | refine blk_alloc ?_ _)); exact BK306.out)) : gb316 ≠ gb306)); clear HO_307003; clear BK299; clear BK306; clear HB; have HO_307003 := n0_; have BK299 := n1_; have BK306 := n2_; have HB := n3_; have BK316 := n4_; have GW316 := n5_; have GE316 := n6_; have NB299_316 := n7_; have NB316_299 := n8_; have NB306_316 := n9_; have NB316_306 := n10_; clear n0_ n1_ n2_ n3_ n4_ n5_ n6_ n7_ n8_ n9_ n10_; clear hb hbox hg; have hnb43 := NB316_299.out; have hnc43 := NB299_316.out; have hnb44 := NB316_306.out; have hnc44 := NB306_316.out; have hcz45_0 : w42.cell? ⟨gb316, 0, none⟩ = some (.int .i64 0) := (blk_cell BK316.out 0).trans rfl; have hcz45_1 : w42.cell? ⟨gb316, 1, none⟩ = some (.int .i64 0) := (blk_cell BK316.out 1).trans rfl; have hcz45_2 : w42.cell? ⟨gb316, 2, none⟩ = some (.int .i64 0) := (blk_cell BK316.out 2).trans rfl; have hfz45_0 := blk_frozen BK316.out 0; have hfz45_1 := blk_frozen BK316.out 1; have hfz45_2 := blk_frozen BK316.out 2; have hcz46_0 : w42.cell? ⟨gb299, 0, none⟩ = some (.int .i64 t296) := (blk_cell BK299.out 0).trans rfl; have hcz46_1 : w42.cell? ⟨gb299, 1, none⟩ = some (.int .i64 t297) := (blk_cell BK299.out 1).trans rfl; have hcz46_2 : w42.cell? ⟨gb299, 2, none⟩ = some (.bool t298) := (blk_cell BK299.out 2).trans rfl; have hfz46_0 := blk_frozen BK299.out 0; have hfz46_1 := blk_frozen BK299.out 1; have hfz46_2 := blk_frozen BK299.out 2; have hcz47_0 : w42.cell? ⟨gb306, 0, none⟩ = some (.int .i64 x307000_2) := (blk_cell BK306.out 0).trans rfl; have hcz47_1 : w42.cell? ⟨gb306, 1, none⟩ = some (.int .i64 x307001_2) := (blk_cell BK306.out 1).trans rfl; have hcz47_2 : w42.cell? ⟨gb306, 2, none⟩ = some (.int .u8 x307002_2) := (blk_cell BK306.out 2).trans rfl; have hcz47_3 : w42.cell? ⟨gb306, 3, none⟩ = some (.slice Ao40 x307003_2.length co40) := (blk_cell BK306.out 3).trans rfl; have hfz47_0 := blk_frozen BK306.out 0; have hfz47_1 := blk_frozen BK306.out 1; have hfz47_2 := blk_frozen BK306.out 2; have hfz47_3 := blk_frozen BK306.out 3) | ((with_reducible refine gate_callee (f := 9) rfl ?_); refine goesL_ (some 75) rfl rfl Try.func9 (by kernel_rfl) rfl #[.agg #[.int .i64 t296, .int .i64 t297, .bool t298], .agg #[.int .i64 x307000_2, .int .i64 x307001_2, .int .u8 x307002_2, .slice Ao40 x307003_2.length co40]] rfl (by (try simp only [List.map_toArray, List.map_cons, List.map_nil]); first | done | rfl | (simp only [List.length_drop, List.length_take]; rfl)) ?_; (with_reducible refine (plan_Next.calls k2 t296 t297 t298 x307000_2 x307001_2 x307002_2 _ _ x307003_2 t317 t318 t319 _ ?side1 ?side2 A34.out).mono ?_); (case side1 => refine (Kd.R_reads' (e := 56) (base := w.heap.size) (ok := fun k_ => True) (n := x307003_2.length) (c := co40) ?_).2.2; exact (by (with_reducible repeat (first | apply Kd.R_alloc | apply Kd.R_drewN | apply Kd.R_drew)); exact (Kd.R_mono (Kd.R_far (p := ⟨gb316, 2, none⟩) (Kd.R_far (p := ⟨gb316, 1, none⟩) (Kd.R_far (p := ⟨gb316, 0, none⟩) (Kd.R_types HO_307003.out BK316.out (by decide)) (fun _ hk => hk.2) (.int .i64 t313)) (fun _ hk => hk.2) (.int .i64 t314)) (fun _ hk => hk.2) (.int .i64 t315)) (fun _ h_ => h_.1)))); (case side2 => exact (Kd.R_reads' HO_307003.out).2.1); rintro e w48 ⟨rfl, hb⟩; refine ⟨_, rfl, ?_⟩; have n0_ := Aside0.mk (Kd.R_below (by (with_reducible repeat (first | apply Kd.R_alloc | apply Kd.R_drewN | apply Kd.R_drew)); exact (Kd.R_mono (Kd.R_far (p := ⟨gb316, 2, none⟩) (Kd.R_far (p := ⟨gb316, 1, none⟩) (Kd.R_far (p := ⟨gb316, 0, none⟩) (Kd.R_types HO_307003.out BK316.out (by decide)) (fun _ hk => hk.2) (.int .i64 t313)) (fun _ hk => hk.2) (.int .i64 t314)) (fun _ hk => hk.2) (.int .i64 t315)) (fun _ h_ => h_.1))) hb); have n1_ := Aside0.mk (blk_below (g := gb299) (o := .cells #[.int .i64 t296, .int .i64 t297, .bool t298] 26 (0, 0)) (by (with_reducible repeat (first | refine blk_drewN ?_ _ | refine blk_drew ?_ | refine blk_alloc ?_ _)); refine blk_far ?_ NB299_316.out _; (with_reducible repeat (first | refine blk_drewN ?_ _ | refine blk_drew ?_ | refine blk_alloc ?_ _)); refine blk_far ?_ NB299_316.out _; (with_reducible repeat (first | refine blk_drewN ?_ _ | refine blk_drew ?_ | refine blk_alloc ?_ _)); refine blk_far ?_ NB299_316.out _; (with_reducible repeat (first | refine blk_drewN ?_ _ | refine blk_drew ?_ | refine blk_alloc ?_ _)); exact BK299.out) hb); have n2_ := Aside0.mk (blk_below (g := gb306) (o := .cells #[.int .i64 x307000_2, .int .i64 x307001_2, .int .u8 x307002_2, .slice Ao40 x307003_2.length co40] 30 (0, 0)) (by (with_reducible repeat (first | refine blk_drewN ?_ _ | refine blk_drew ?_ | refine blk_alloc ?_ _)); refine blk_far ?_ NB306_316.out _; (with_reducible repeat (first | refine blk_drewN ?_ _ | refine blk_drew ?_ | refine blk_alloc ?_ _)); refine blk_far ?_ NB306_316.out _; (with_reducible repeat (first | refine blk_drewN ?_ _ | refine blk_drew ?_ | refine blk_alloc ?_ _)); refine blk_far ?_ NB306_316.out _; (with_reducible repeat (first | refine blk_drewN ?_ _ | refine blk_drew ?_ | refine blk_alloc ?_ _)); exact BK306.out) hb); have n3_ := Aside0.mk (blk_below (g := gb316) (o := .cells #[.int .i64 t313, .int .i64 t314, .int .i64 t315] 35 (0, 0)) (by (with_reducible repeat (first | refine blk_drewN ?_ _ | refine blk_drew ?_ | refine blk_alloc ?_ _)); refine blk_put (cs := #[.int .i64 t313, .int .i64 t314, .int .i64 0]) ?_ 2 _ rfl; (with_reducible repeat (first | refine blk_drewN ?_ _ | refine blk_drew ?_ | refine blk_alloc ?_ _)); refine blk_put (cs := #[.int .i64 t313, .int .i64 0, .int .i64 0]) ?_ 1 _ rfl; (with_reducible repeat (first | refine blk_drewN ?_ _ | refine blk_drew ?_ | refine blk_alloc ?_ _)); refine blk_put (cs := #[.int .i64 0, .int .i64 0, .int .i64 0]) ?_ 0 _ rfl; (with_reducible repeat (first | refine blk_drewN ?_ _ | refine blk_drew ?_ | refine blk_alloc ?_ _)); exact BK316.out) hb); have n4_ := Aside0.mk (below_step (by repeat (first | (with_reducible first | exact HB.out | apply below_alloc | apply pw_below_drewN | apply below_drew1 | refine below_set ?_ GE299.out | refine below_set ?_ GE306.out | refine below_set ?_ GE316.out) | exact HB.out)) hb); clear HO_307003; clear BK299; clear BK306; clear BK316; clear HB; have HO_307003 := n0_; have BK299 := n1_; have BK306 := n2_; have BK316 := n3_; have HB := n4_; clear n0_ n1_ n2_ n3_ n4_; (try clear hb); (try clear hb2); (try clear hk); (try clear hi)) | (go_at_call 4; (with_reducible refine (salvorlaw21_BoundRuns.calls k2  t320 _ A36.out).mono ?_); rintro e w49 ⟨rfl, hb⟩; have n0_ := Aside0.mk (Kd.R_below (by (with_reducible repeat (first | apply Kd.R_alloc | apply Kd.R_drewN | apply Kd.R_drew)); exact HO_307003.out) hb); have n1_ := Aside0.mk (blk_below (g := gb299) (o := .cells #[.int .i64 t296, .int .i64 t297, .bool t298] 26 (0, 0)) (by (with_reducible repeat (first | refine blk_drewN ?_ _ | refine blk_drew ?_ | refine blk_alloc ?_ _)); exact BK299.out) hb); have n2_ := Aside0.mk (blk_below (g := gb306) (o := .cells #[.int .i64 x307000_2, .int .i64 x307001_2, .int .u8 x307002_2, .slice Ao40 x307003_2.length co40] 30 (0, 0)) (by (with_reducible repeat (first | refine blk_drewN ?_ _ | refine blk_drew ?_ | refine blk_alloc ?_ _)); exact BK306.out) hb); have n3_ := Aside0.mk (blk_below (g := gb316) (o := .cells #[.int .i64 t313, .int .i64 t314, .int .i64 t315] 35 (0, 0)) (by (with_reducible repeat (first | refine blk_drewN ?_ _ | refine blk_drew ?_ | refine blk_alloc ?_ _)); exact BK316.out) hb); have n4_ := Aside0.mk (below_step (by repeat (first | (with_reducible first | exact HB.out | apply below_alloc | apply pw_below_drewN | apply below_drew1 | refine below_set ?_ GE299.out | refine below_set ?_ GE306.out | refine below_set ?_ GE316.out) | exact HB.out)) hb); clear HO_307003; clear BK299; clear BK306; clear BK316; clear HB; have HO_307003 := n0_; have BK299 := n1_; have BK306 := n2_; have BK316 := n3_; have HB := n4_; clear n0_ n1_ n2_ n3_ n4_; (try clear hb); (try clear hb2); (try clear hk); (try clear hi)))
                    go_ret
                    exact ⟨by first | rfl | (simp [errW_none, errW_some] <;> rfl) | (simp [*, errW_none, errW_some] <;> rfl), by repeat (first | (with_reducible first | exact HB.out | apply below_alloc | apply pw_below_drewN | apply below_drew1 | refine below_set ?_ GE299.out | refine below_set ?_ GE306.out | refine below_set ?_ GE316.out) | exact HB.out)⟩
                  · rw [if_neg c35] at H
                    have c35b0 : (t317 == 0 && (t318 == 0 && (t319 == 0))) = false := by simpa using c35
                    (try (have c35b1 : decide (t317 = 0 && (t318 == 0 && (t319 == 0))) = false := by simpa using c35))
                    (try (have c35b2 : (t317 == 0 && (t318 == 0 && (t319 == 0))) = false := by simpa using c35))
                    (try (have c35b3 : ¬ (t317 = 0 && (t318 == 0 && (t319 == 0))) := by simpa using c35))
                    clear c35
                    obtain rfl := Option.some.inj H
                    have hnb50 := NB299_306.out
                    have hnc50 := NB306_299.out
                    have hcz51_0 : wr.cell? ⟨gb299, 0, none⟩ = some (.int .i64 t296) := (blk_cell BK299.out 0).trans rfl
                    have hcz51_1 : wr.cell? ⟨gb299, 1, none⟩ = some (.int .i64 t297) := (blk_cell BK299.out 1).trans rfl
                    have hcz51_2 : wr.cell? ⟨gb299, 2, none⟩ = some (.bool t298) := (blk_cell BK299.out 2).trans rfl
                    have hfz51_0 := blk_frozen BK299.out 0
                    have hfz51_1 := blk_frozen BK299.out 1
                    have hfz51_2 := blk_frozen BK299.out 2
                    have hcz52_0 : wr.cell? ⟨gb306, 0, none⟩ = some (.int .i64 x307000_2) := (blk_cell BK306.out 0).trans rfl
                    have hcz52_1 : wr.cell? ⟨gb306, 1, none⟩ = some (.int .i64 x307001_2) := (blk_cell BK306.out 1).trans rfl
                    have hcz52_2 : wr.cell? ⟨gb306, 2, none⟩ = some (.int .u8 x307002_2) := (blk_cell BK306.out 2).trans rfl
                    have hcz52_3 : wr.cell? ⟨gb306, 3, none⟩ = some (u307003) := (blk_cell BK306.out 3).trans rfl
                    have hfz52_0 := blk_frozen BK306.out 0
                    have hfz52_1 := blk_frozen BK306.out 1
                    have hfz52_2 := blk_frozen BK306.out 2
                    have hfz52_3 := blk_frozen BK306.out 3
                    obtain ⟨Ao53, co53, eo53⟩ := Kd.R_slice HO_307003.out
                    subst eo53
                    go_wp2_with (first | ((with_reducible refine gate_callee (f := 9) rfl ?_); refine goesL_ (some 54) rfl rfl Try.func9 (by kernel_rfl) rfl #[.agg #[.int .i64 t296, .int .i64 t297, .bool t298], .agg #[.int .i64 x307000_2, .int .i64 x307001_2, .int .u8 x307002_2, .slice Ao53 x307003_2.length co53]] rfl (by (try simp only [List.map_toArray, List.map_cons, List.map_nil]); first | done | rfl | (simp only [List.length_drop, List.length_take]; rfl)) ?_; (with_reducible refine (plan_Next.calls k2 t296 t297 t298 x307000_2 x307001_2 x307002_2 _ _ x307003_2 t313 t314 t315 _ ?side1 ?side2 A32.out).mono ?_); (case side1 => repeat (first | exact (Kd.R_reads' HO_307003.out).2.2 | (with_reducible refine Kd.C_alloc ?_ _) | (with_reducible refine Kd.C_drewN ?_ _) | (with_reducible refine Kd.C_drew ?_))); (case side2 => exact (Kd.R_reads' HO_307003.out).2.1); rintro e w54 ⟨rfl, hb⟩; refine ⟨_, rfl, ?_⟩; have n0_ := Aside0.mk (Kd.R_below (by (with_reducible repeat (first | apply Kd.R_alloc | apply Kd.R_drewN | apply Kd.R_drew)); exact HO_307003.out) hb); have n1_ := Aside0.mk (blk_below (g := gb299) (o := .cells #[.int .i64 t296, .int .i64 t297, .bool t298] 26 (0, 0)) (by (with_reducible repeat (first | refine blk_drewN ?_ _ | refine blk_drew ?_ | refine blk_alloc ?_ _)); exact BK299.out) hb); have n2_ := Aside0.mk (blk_below (g := gb306) (o := .cells #[.int .i64 x307000_2, .int .i64 x307001_2, .int .u8 x307002_2, .slice Ao53 x307003_2.length co53] 30 (0, 0)) (by (with_reducible repeat (first | refine blk_drewN ?_ _ | refine blk_drew ?_ | refine blk_alloc ?_ _)); exact BK306.out) hb); have n3_ := Aside0.mk (below_step (by repeat (first | (with_reducible first | exact HB.out | apply below_alloc | apply pw_below_drewN | apply below_drew1 | refine below_set ?_ GE299.out | refine below_set ?_ GE306.out) | exact HB.out)) hb); clear HO_307003; clear BK299; clear BK306; clear HB; have HO_307003 := n0_; have BK299 := n1_; have BK306 := n2_; have HB := n3_; clear n0_ n1_ n2_ n3_; (try clear hb); (try clear hb2); (try clear hk); (try clear hi)) | ((with_reducible refine gate_dst (N := 21) rfl ?_); (try (refine gate_guard (by rfl) ?_; dsimp only)); refine box_event ?hg (N := 21) ?hd (cs := #[.int .i64 0, .int .i64 0, .int .i64 0]) (t := 35) ?hr ?_; (case hd => rfl); (case hg => rfl); (case hr => first | (go_simp; done) | (go_simp; rfl)); intro gb316 hg w55 hbox hb; have n0_ := Aside0.mk (Kd.R_below (by (with_reducible repeat (first | apply Kd.R_alloc | apply Kd.R_drewN | apply Kd.R_drew)); exact HO_307003.out) hb); have n1_ := Aside0.mk (blk_below (g := gb299) (o := .cells #[.int .i64 t296, .int .i64 t297, .bool t298] 26 (0, 0)) (by (with_reducible repeat (first | refine blk_drewN ?_ _ | refine blk_drew ?_ | refine blk_alloc ?_ _)); exact BK299.out) hb); have n2_ := Aside0.mk (blk_below (g := gb306) (o := .cells #[.int .i64 x307000_2, .int .i64 x307001_2, .int .u8 x307002_2, .slice Ao53 x307003_2.length co53] 30 (0, 0)) (by (with_reducible repeat (first | refine blk_drewN ?_ _ | refine blk_drew ?_ | refine blk_alloc ?_ _)); exact BK306.out) hb); have n3_ := Aside0.mk (below_step (by repeat (first | (with_reducible first | exact HB.out | apply below_alloc | apply pw_below_drewN | apply below_drew1 | refine below_set ?_ GE299.out | refine below_set ?_ GE306.out) | exact HB.out)) hb); have n4_ := Aside0.mk (hbox); have n5_ := Aside0.mk ((by rw [hg]; exact (below_size (by repeat (first | (with_reducible first | exact HB.out | apply below_alloc | apply pw_below_drewN | apply below_drew1 | refine below_set ?_ GE299.out | refine below_set ?_ GE306.out) | exact HB.out))) : w.heap.size ≤ gb316)); have n6_ := Aside0.mk ((by rw [hg]; exact (below_size (by repeat (first | (with_reducible first | exact HB.out | apply below_alloc | apply pw_below_drewN | apply below_drew1 | refine below_set ?_ GE299.out | refine below_set ?_ GE306.out) | exact HB.out))) : w.heap.size ≤ gb316)); have n7_ := Aside0.mk ((by rw [hg]; exact Nat.ne_of_lt (blk_lt (g := gb299) (o := .cells #[.int .i64 t296, .int .i64 t297, .bool t298] 26 (0, 0)) (by (with_reducible repeat (first | refine blk_drewN ?_ _ | refine blk_drew ?_ | refine blk_alloc ?_ _)); exact BK299.out)) : gb299 ≠ gb316)); have n8_ := Aside0.mk ((by rw [hg]; exact Nat.ne_of_gt (blk_lt (g := gb299) (o := .cells #[.int .i64 t296, .int .i64 t297, .bool t298] 26 (0, 0)) (by (with_reducible repeat (first | refine blk_drewN ?_ _ | refine blk_drew ?_ | refine blk_alloc ?_ _)); exact BK299.out)) : gb316 ≠ gb299)); have n9_ := Aside0.mk ((by rw [hg]; exact Nat.ne_of_lt (blk_lt (g := gb306) (o := .cells #[.int .i64 x307000_2, .int .i64 x307001_2, .int .u8 x307002_2, .slice Ao53 x307003_2.length co53] 30 (0, 0)) (by (with_reducible repeat (first | refine blk_drewN ?_ _ | refine blk_drew ?_ | refine blk_alloc ?_ _)); exact BK306.out)) : gb306 ≠ gb316)); have n10_ := Aside0.mk ((by rw [hg]; exact Nat.ne_of_gt (blk_lt (g := gb306) (o := .cells #[.int .i64 x307000_2, .int .i64 x307001_2, .int .u8 x307002_2, .slice Ao53 x307003_2.length co53] 30 (0, 0)) (by (with_reducible repeat (first | refine blk_drewN ?_ _ | refine blk_drew ?_ | refine blk_alloc ?_ _)); exact BK306.out)) : gb316 ≠ gb306)); clear HO_307003; clear BK299; clear BK306; clear HB; have HO_307003 := n0_; have BK299 := n1_; have BK306 := n2_; have HB := n3_; have BK316 := n4_; have GW316 := n5_; have GE316 := n6_; have NB299_316 := n7_; have NB316_299 := n8_; have NB306_316 := n9_; have NB316_306 := n10_; clear n0_ n1_ n2_ n3_ n4_ n5_ n6_ n7_ n8_ n9_ n10_; clear hb hbox hg; have hnb56 := NB316_299.out; have hnc56 := NB299_316.out; have hnb57 := NB316_306.out; have hnc57 := NB306_316.out; have hcz58_0 : w55.cell? ⟨gb316, 0, none⟩ = some (.int .i64 0) := (blk_cell BK316.out 0).trans rfl; have hcz58_1 : w55.cell? ⟨gb316, 1, none⟩ = some (.int .i64 0) := (blk_cell BK316.out 1).trans rfl; have hcz58_2 : w55.cell? ⟨gb316, 2, none⟩ = some (.int .i64 0) := (blk_cell BK316.out 2).trans rfl; have hfz58_0 := blk_frozen BK316.out 0; have hfz58_1 := blk_frozen BK316.out 1; have hfz58_2 := blk_frozen BK316.out 2; have hcz59_0 : w55.cell? ⟨gb299, 0, none⟩ = some (.int .i64 t296) := (blk_cell BK299.out 0).trans rfl; have hcz59_1 : w55.cell? ⟨gb299, 1, none⟩ = some (.int .i64 t297) := (blk_cell BK299.out 1).trans rfl; have hcz59_2 : w55.cell? ⟨gb299, 2, none⟩ = some (.bool t298) := (blk_cell BK299.out 2).trans rfl; have hfz59_0 := blk_frozen BK299.out 0; have hfz59_1 := blk_frozen BK299.out 1; have hfz59_2 := blk_frozen BK299.out 2; have hcz60_0 : w55.cell? ⟨gb306, 0, none⟩ = some (.int .i64 x307000_2) := (blk_cell BK306.out 0).trans rfl; have hcz60_1 : w55.cell? ⟨gb306, 1, none⟩ = some (.int .i64 x307001_2) := (blk_cell BK306.out 1).trans rfl; have hcz60_2 : w55.cell? ⟨gb306, 2, none⟩ = some (.int .u8 x307002_2) := (blk_cell BK306.out 2).trans rfl; have hcz60_3 : w55.cell? ⟨gb306, 3, none⟩ = some (.slice Ao53 x307003_2.length co53) := (blk_cell BK306.out 3).trans rfl; have hfz60_0 := blk_frozen BK306.out 0; have hfz60_1 := blk_frozen BK306.out 1; have hfz60_2 := blk_frozen BK306.out 2; have hfz60_3 := blk_frozen BK306.out 3) | ((with_reducible refine gate_callee (f := 9) rfl ?_); refine goesL_ (some 75) rfl rfl Try.func9 (by kernel_rfl) rfl #[.agg #[.int .i64 t296, .int .i64 t297, .bool t298], .agg #[.int .i64 x307000_2, .int .i64 x307001_2, .int .u8 x307002_2, .slice Ao53 x307003_2.length co53]] rfl (by (try simp only [List.map_toArray, List.map_cons, List.map_nil]); first | done | rfl | (simp only [List.length_drop, List.length_take]; rfl)) ?_; (with_reducible refine (plan_Next.calls k2 t296 t297 t298 x307000_2 x307001_2 x307002_2 _ _ x307003_2 t317 t318 t319 _ ?side1 ?side2 A34.out).mono ?_); (case side1 => refine (Kd.R_reads' (e := 56) (base := w.heap.size) (ok := fun k_ => True) (n := x307003_2.length) (c := co53) ?_).2.2; exact (by (with_reducible repeat (first | apply Kd.R_alloc | apply Kd.R_drewN | apply Kd.R_drew)); exact (Kd.R_mono (Kd.R_far (p := ⟨gb316, 2, none⟩) (Kd.R_far (p := ⟨gb316, 1, none⟩) (Kd.R_far (p := ⟨gb316, 0, none⟩) (Kd.R_types HO_307003.out BK316.out (by decide)) (fun _ hk => hk.2) (.int .i64 t313)) (fun _ hk => hk.2) (.int .i64 t314)) (fun _ hk => hk.2) (.int .i64 t315)) (fun _ h_ => h_.1)))); (case side2 => exact (Kd.R_reads' HO_307003.out).2.1); rintro e w61 ⟨rfl, hb⟩; refine ⟨_, rfl, ?_⟩; have n0_ := Aside0.mk (Kd.R_below (by (with_reducible repeat (first | apply Kd.R_alloc | apply Kd.R_drewN | apply Kd.R_drew)); exact (Kd.R_mono (Kd.R_far (p := ⟨gb316, 2, none⟩) (Kd.R_far (p := ⟨gb316, 1, none⟩) (Kd.R_far (p := ⟨gb316, 0, none⟩) (Kd.R_types HO_307003.out BK316.out (by decide)) (fun _ hk => hk.2) (.int .i64 t313)) (fun _ hk => hk.2) (.int .i64 t314)) (fun _ hk => hk.2) (.int .i64 t315)) (fun _ h_ => h_.1))) hb); have n1_ := Aside0.mk (blk_below (g := gb299) (o := .cells #[.int .i64 t296, .int .i64 t297, .bool t298] 26 (0, 0)) (by (with_reducible repeat (first | refine blk_drewN ?_ _ | refine blk_drew ?_ | refine blk_alloc ?_ _)); refine blk_far ?_ NB299_316.out _; (with_reducible repeat (first | refine blk_drewN ?_ _ | refine blk_drew ?_ | refine blk_alloc ?_ _)); refine blk_far ?_ NB299_316.out _; (with_reducible repeat (first | refine blk_drewN ?_ _ | refine blk_drew ?_ | refine blk_alloc ?_ _)); refine blk_far ?_ NB299_316.out _; (with_reducible repeat (first | refine blk_drewN ?_ _ | refine blk_drew ?_ | refine blk_alloc ?_ _)); exact BK299.out) hb); have n2_ := Aside0.mk (blk_below (g := gb306) (o := .cells #[.int .i64 x307000_2, .int .i64 x307001_2, .int .u8 x307002_2, .slice Ao53 x307003_2.length co53] 30 (0, 0)) (by (with_reducible repeat (first | refine blk_drewN ?_ _ | refine blk_drew ?_ | refine blk_alloc ?_ _)); refine blk_far ?_ NB306_316.out _; (with_reducible repeat (first | refine blk_drewN ?_ _ | refine blk_drew ?_ | refine blk_alloc ?_ _)); refine blk_far ?_ NB306_316.out _; (with_reducible repeat (first | refine blk_drewN ?_ _ | refine blk_drew ?_ | refine blk_alloc ?_ _)); refine blk_far ?_ NB306_316.out _; (with_reducible repeat (first | refine blk_drewN ?_ _ | refine blk_drew ?_ | refine blk_alloc ?_ _)); exact BK306.out) hb); have n3_ := Aside0.mk (blk_below (g := gb316) (o := .cells #[.int .i64 t313, .int .i64 t314, .int .i64 t315] 35 (0, 0)) (by (with_reducible repeat (first | refine blk_drewN ?_ _ | refine blk_drew ?_ | refine blk_alloc ?_ _)); refine blk_put (cs := #[.int .i64 t313, .int .i64 t314, .int .i64 0]) ?_ 2 _ rfl; (with_reducible repeat (first | refine blk_drewN ?_ _ | refine blk_drew ?_ | refine blk_alloc ?_ _)); refine blk_put (cs := #[.int .i64 t313, .int .i64 0, .int .i64 0]) ?_ 1 _ rfl; (with_reducible repeat (first | refine blk_drewN ?_ _ | refine blk_drew ?_ | refine blk_alloc ?_ _)); refine blk_put (cs := #[.int .i64 0, .int .i64 0, .int .i64 0]) ?_ 0 _ rfl; (with_reducible repeat (first | refine blk_drewN ?_ _ | refine blk_drew ?_ | refine blk_alloc ?_ _)); exact BK316.out) hb); have n4_ := Aside0.mk (below_step (by repeat (first | (with_reducible first | exact HB.out | apply below_alloc | apply pw_below_drewN | apply below_drew1 | refine below_set ?_ GE299.out | refine below_set ?_ GE306.out | refine below_set ?_ GE316.out) | exact HB.out)) hb); clear HO_307003; clear BK299; clear BK306; clear BK316; clear HB; have HO_307003 := n0_; have BK299 := n1_; have BK306 := n2_; have BK316 := n3_; have HB := n4_; clear n0_ n1_ n2_ n3_ n4_; (try clear hb); (try clear hb2); (try clear hk); (try clear hi)))
                    go_ret
                    exact ⟨by first | rfl | (simp [errW_none, errW_some] <;> rfl) | (simp [*, errW_none, errW_some] <;> rfl), by repeat (first | (with_reducible first | exact HB.out | apply below_alloc | apply pw_below_drewN | apply below_drew1 | refine below_set ?_ GE299.out | refine below_set ?_ GE306.out | refine below_set ?_ GE316.out) | exact HB.out)⟩
                · rw [if_neg c33] at H
                  have c33b0 : (t313 == 0) = false := beq_eq_false_iff_ne.mpr c33
                  have c33b1 : (t313 != 0) = true := bne_iff_ne.mpr c33
                  by_cases c62 : (l7.length : Int) > 0
                  · rw [if_pos c62] at H
                    have c62b0 : decide (0 < (l7.length : Int)) = true := decide_eq_true c62
                    have c62b1 : decide (0 < l7.length) = true := decide_eq_true (by omega)
                    clear c62
                    by_cases c63 : (l7.length : Int) = 0
                    · rw [if_pos c63] at H
                      exact absurd H (by simp)
                    · rw [if_neg c63] at H
                      have c63b0 : ((l7.length : Int) == 0) = false := beq_eq_false_iff_ne.mpr c63
                      have c63b1 : ((l7.length : Int) != 0) = true := bne_iff_ne.mpr c63
                      have c63b2 : ¬ (l7 = []) := fun h_ => c63 (by rw [h_]; rfl)
                      obtain ⟨ji64, hji64⟩ : ∃ j_ : Int, (Int.tmod x20_2 (l7.length : Int)) = j_ := ⟨_, rfl⟩
                      replace H : (if 0 ≤ (ji64) then (if (ji64) < (l7.length : Int) then ((plan_After.f k2 t296 t297 t298 x307000_2 x307001_2 x307002_2 x307003_2 (wrap64 (rd l7 (ji64)))).bind fun bt322 => (salvorlaw21_BoundHolds.l0 k2 l7 t308 (wrap64 (x20_2 + 1)) t296 t297 t298 bt322.1 bt322.2.1 bt322.2.2.1 bt322.2.2.2)) else (none)) else (none)) = some r := by first | (rw [hji64] at H; exact H) | (simp only [hji64] at H ⊢; exact H)
                      (try rw [hji64] at A32)
                      by_cases c65 : 0 ≤ (ji64)
                      · rw [if_pos c65] at H
                        have c65b0 : decide (0 ≤ (ji64)) = true := decide_eq_true c65
                        clear c65
                        by_cases c66 : (ji64) < (l7.length : Int)
                        · rw [if_pos c66] at H
                          have c66b0 : decide ((ji64) < (l7.length : Int)) = true := decide_eq_true c66
                          clear c66
                          replace H := Option.bind_eq_some_iff.mp H
                          obtain ⟨⟨t322, t323, t324, t325⟩, A670, H⟩ := H
                          replace H : (salvorlaw21_BoundHolds.l0 k2 l7 t308 (wrap64 (x20_2 + 1)) t296 t297 t298 t322 t323 t324 t325) = some r := H
                          have A67 := Aside0.mk A670
                          clear A670
                          have H' := Aside0.mk H
                          clear H
                          have hnb68 := NB299_306.out
                          have hnc68 := NB306_299.out
                          have hcz69_0 : wr.cell? ⟨gb299, 0, none⟩ = some (.int .i64 t296) := (blk_cell BK299.out 0).trans rfl
                          have hcz69_1 : wr.cell? ⟨gb299, 1, none⟩ = some (.int .i64 t297) := (blk_cell BK299.out 1).trans rfl
                          have hcz69_2 : wr.cell? ⟨gb299, 2, none⟩ = some (.bool t298) := (blk_cell BK299.out 2).trans rfl
                          have hfz69_0 := blk_frozen BK299.out 0
                          have hfz69_1 := blk_frozen BK299.out 1
                          have hfz69_2 := blk_frozen BK299.out 2
                          have hcz70_0 : wr.cell? ⟨gb306, 0, none⟩ = some (.int .i64 x307000_2) := (blk_cell BK306.out 0).trans rfl
                          have hcz70_1 : wr.cell? ⟨gb306, 1, none⟩ = some (.int .i64 x307001_2) := (blk_cell BK306.out 1).trans rfl
                          have hcz70_2 : wr.cell? ⟨gb306, 2, none⟩ = some (.int .u8 x307002_2) := (blk_cell BK306.out 2).trans rfl
                          have hcz70_3 : wr.cell? ⟨gb306, 3, none⟩ = some (u307003) := (blk_cell BK306.out 3).trans rfl
                          have hfz70_0 := blk_frozen BK306.out 0
                          have hfz70_1 := blk_frozen BK306.out 1
                          have hfz70_2 := blk_frozen BK306.out 2
                          have hfz70_3 := blk_frozen BK306.out 3
                          obtain ⟨Ao71, co71, eo71⟩ := Kd.R_slice HO_307003.out
                          subst eo71
                          go_wp2_with (first | ((with_reducible refine gate_callee (f := 9) rfl ?_); refine goesL_ (some 54) rfl rfl Try.func9 (by kernel_rfl) rfl #[.agg #[.int .i64 t296, .int .i64 t297, .bool t298], .agg #[.int .i64 x307000_2, .int .i64 x307001_2, .int .u8 x307002_2, .slice Ao71 x307003_2.length co71]] rfl (by (try simp only [List.map_toArray, List.map_cons, List.map_nil]); first | done | rfl | (simp only [List.length_drop, List.length_take]; rfl)) ?_; (with_reducible refine (plan_Next.calls k2 t296 t297 t298 x307000_2 x307001_2 x307002_2 _ _ x307003_2 t313 t314 t315 _ ?side1 ?side2 A32.out).mono ?_); (case side1 => repeat (first | exact (Kd.R_reads' HO_307003.out).2.2 | (with_reducible refine Kd.C_alloc ?_ _) | (with_reducible refine Kd.C_drewN ?_ _) | (with_reducible refine Kd.C_drew ?_))); (case side2 => exact (Kd.R_reads' HO_307003.out).2.1); rintro e w72 ⟨rfl, hb⟩; refine ⟨_, rfl, ?_⟩; have n0_ := Aside0.mk (Kd.R_below (by (with_reducible repeat (first | apply Kd.R_alloc | apply Kd.R_drewN | apply Kd.R_drew)); exact HO_307003.out) hb); have n1_ := Aside0.mk (blk_below (g := gb299) (o := .cells #[.int .i64 t296, .int .i64 t297, .bool t298] 26 (0, 0)) (by (with_reducible repeat (first | refine blk_drewN ?_ _ | refine blk_drew ?_ | refine blk_alloc ?_ _)); exact BK299.out) hb); have n2_ := Aside0.mk (blk_below (g := gb306) (o := .cells #[.int .i64 x307000_2, .int .i64 x307001_2, .int .u8 x307002_2, .slice Ao71 x307003_2.length co71] 30 (0, 0)) (by (with_reducible repeat (first | refine blk_drewN ?_ _ | refine blk_drew ?_ | refine blk_alloc ?_ _)); exact BK306.out) hb); have n3_ := Aside0.mk (below_step (by repeat (first | (with_reducible first | exact HB.out | apply below_alloc | apply pw_below_drewN | apply below_drew1 | refine below_set ?_ GE299.out | refine below_set ?_ GE306.out) | exact HB.out)) hb); clear HO_307003; clear BK299; clear BK306; clear HB; have HO_307003 := n0_; have BK299 := n1_; have BK306 := n2_; have HB := n3_; clear n0_ n1_ n2_ n3_; (try clear hb); (try clear hb2); (try clear hk); (try clear hi)) | ((with_reducible refine gate_dst (N := 21) rfl ?_); (try (refine gate_guard (by rfl) ?_; dsimp only)); refine box_event ?hg (N := 21) ?hd (cs := #[.int .i64 0, .int .i64 0, .int .i64 0]) (t := 35) ?hr ?_; (case hd => rfl); (case hg => rfl); (case hr => first | (go_simp; done) | (go_simp; rfl)); intro gb316 hg w73 hbox hb; have n0_ := Aside0.mk (Kd.R_below (by (with_reducible repeat (first | apply Kd.R_alloc | apply Kd.R_drewN | apply Kd.R_drew)); exact HO_307003.out) hb); have n1_ := Aside0.mk (blk_below (g := gb299) (o := .cells #[.int .i64 t296, .int .i64 t297, .bool t298] 26 (0, 0)) (by (with_reducible repeat (first | refine blk_drewN ?_ _ | refine blk_drew ?_ | refine blk_alloc ?_ _)); exact BK299.out) hb); have n2_ := Aside0.mk (blk_below (g := gb306) (o := .cells #[.int .i64 x307000_2, .int .i64 x307001_2, .int .u8 x307002_2, .slice Ao71 x307003_2.length co71] 30 (0, 0)) (by (with_reducible repeat (first | refine blk_drewN ?_ _ | refine blk_drew ?_ | refine blk_alloc ?_ _)); exact BK306.out) hb); have n3_ := Aside0.mk (below_step (by repeat (first | (with_reducible first | exact HB.out | apply below_alloc | apply pw_below_drewN | apply below_drew1 | refine below_set ?_ GE299.out | refine below_set ?_ GE306.out) | exact HB.out)) hb); have n4_ := Aside0.mk (hbox); have n5_ := Aside0.mk ((by rw [hg]; exact (below_size (by repeat (first | (with_reducible first | exact HB.out | apply below_alloc | apply pw_below_drewN | apply below_drew1 | refine below_set ?_ GE299.out | refine below_set ?_ GE306.out) | exact HB.out))) : w.heap.size ≤ gb316)); have n6_ := Aside0.mk ((by rw [hg]; exact (below_size (by repeat (first | (with_reducible first | exact HB.out | apply below_alloc | apply pw_below_drewN | apply below_drew1 | refine below_set ?_ GE299.out | refine below_set ?_ GE306.out) | exact HB.out))) : w.heap.size ≤ gb316)); have n7_ := Aside0.mk ((by rw [hg]; exact Nat.ne_of_lt (blk_lt (g := gb299) (o := .cells #[.int .i64 t296, .int .i64 t297, .bool t298] 26 (0, 0)) (by (with_reducible repeat (first | refine blk_drewN ?_ _ | refine blk_drew ?_ | refine blk_alloc ?_ _)); exact BK299.out)) : gb299 ≠ gb316)); have n8_ := Aside0.mk ((by rw [hg]; exact Nat.ne_of_gt (blk_lt (g := gb299) (o := .cells #[.int .i64 t296, .int .i64 t297, .bool t298] 26 (0, 0)) (by (with_reducible repeat (first | refine blk_drewN ?_ _ | refine blk_drew ?_ | refine blk_alloc ?_ _)); exact BK299.out)) : gb316 ≠ gb299)); have n9_ := Aside0.mk ((by rw [hg]; exact Nat.ne_of_lt (blk_lt (g := gb306) (o := .cells #[.int .i64 x307000_2, .int .i64 x307001_2, .int .u8 x307002_2, .slice Ao71 x307003_2.length co71] 30 (0, 0)) (by (with_reducible repeat (first | refine blk_drewN ?_ _ | refine blk_drew ?_ | refine blk_alloc ?_ _)); exact BK306.out)) : gb306 ≠ gb316)); have n10_ := Aside0.mk ((by rw [hg]; exact Nat.ne_of_gt (blk_lt (g := gb306) (o := .cells #[.int .i64 x307000_2, .int .i64 x307001_2, .int .u8 x307002_2, .slice Ao71 x307003_2.length co71] 30 (0, 0)) (by (with_reducible repeat (first | refine blk_drewN ?_ _ | refine blk_drew ?_ | refine blk_alloc ?_ _)); exact BK306.out)) : gb316 ≠ gb306)); clear HO_307003; clear BK299; clear BK306; clear HB; have HO_307003 := n0_; have BK299 := n1_; have BK306 := n2_; have HB := n3_; have BK316 := n4_; have GW316 := n5_; have GE316 := n6_; have NB299_316 := n7_; have NB316_299 := n8_; have NB306_316 := n9_; have NB316_306 := n10_; clear n0_ n1_ n2_ n3_ n4_ n5_ n6_ n7_ n8_ n9_ n10_; clear hb hbox hg; have hnb74 := NB316_299.out; have hnc74 := NB299_316.out; have hnb75 := NB316_306.out; have hnc75 := NB306_316.out; have hcz76_0 : w73.cell? ⟨gb316, 0, none⟩ = some (.int .i64 0) := (blk_cell BK316.out 0).trans rfl; have hcz76_1 : w73.cell? ⟨gb316, 1, none⟩ = some (.int .i64 0) := (blk_cell BK316.out 1).trans rfl; have hcz76_2 : w73.cell? ⟨gb316, 2, none⟩ = some (.int .i64 0) := (blk_cell BK316.out 2).trans rfl; have hfz76_0 := blk_frozen BK316.out 0; have hfz76_1 := blk_frozen BK316.out 1; have hfz76_2 := blk_frozen BK316.out 2; have p321 : 0 ≤ ((ji64) : Int) := of_decide_eq_true (by first | (with_reducible assumption) | assumption); have q321 : (ji64) < (l7.length : Int) := of_decide_eq_true (by first | (with_reducible assumption) | assumption); obtain ⟨ad321, e321, hx321_0⟩ := Kd.at_int HR7.out (ji64) p321 q321; cases e321; have hn321_0 : ad321.block ≠ gb316 := Nat.ne_of_lt (Nat.lt_of_lt_of_le (by have := World.block_lt_of_cell? _ _ hx321_0; first | rwa [add_block] at this | exact this) GW316.out); have hn321_1 : ad321.block ≠ gb316 := Nat.ne_of_lt (Nat.lt_of_lt_of_le (by have := World.block_lt_of_cell? _ _ hx321_0; first | rwa [add_block] at this | exact this) GW316.out); have hn321_2 : ad321.block ≠ gb316 := Nat.ne_of_lt (Nat.lt_of_lt_of_le (by have := World.block_lt_of_cell? _ _ hx321_0; first | rwa [add_block] at this | exact this) GW316.out); replace hx321_0 := (HB.out.cell (World.block_lt_of_cell? w _ hx321_0)).trans hx321_0; replace hx321_0 := (cell_far (p := ⟨gb316, 0, none⟩) (by first | (rw [add_block]; exact hn321_0) | (show (Addr.add _ _).block ≠ _; rw [add_block]; exact hn321_0) | exact hn321_0) (.int .i64 t313)).trans hx321_0; replace hx321_0 := (cell_far (p := ⟨gb316, 1, none⟩) (by first | (rw [add_block]; exact hn321_1) | (show (Addr.add _ _).block ≠ _; rw [add_block]; exact hn321_1) | exact hn321_1) (.int .i64 t314)).trans hx321_0; replace hx321_0 := (cell_far (p := ⟨gb316, 2, none⟩) (by first | (rw [add_block]; exact hn321_2) | (show (Addr.add _ _).block ≠ _; rw [add_block]; exact hn321_2) | exact hn321_2) (.int .i64 t315)).trans hx321_0; clear hn321_0; clear hn321_1; clear hn321_2; replace p321 := eq_true p321; replace q321 := eq_true q321; have hcz77_0 : w73.cell? ⟨gb299, 0, none⟩ = some (.int .i64 t296) := (blk_cell BK299.out 0).trans rfl; have hcz77_1 : w73.cell? ⟨gb299, 1, none⟩ = some (.int .i64 t297) := (blk_cell BK299.out 1).trans rfl; have hcz77_2 : w73.cell? ⟨gb299, 2, none⟩ = some (.bool t298) := (blk_cell BK299.out 2).trans rfl; have hfz77_0 := blk_frozen BK299.out 0; have hfz77_1 := blk_frozen BK299.out 1; have hfz77_2 := blk_frozen BK299.out 2; have hcz78_0 : w73.cell? ⟨gb306, 0, none⟩ = some (.int .i64 x307000_2) := (blk_cell BK306.out 0).trans rfl; have hcz78_1 : w73.cell? ⟨gb306, 1, none⟩ = some (.int .i64 x307001_2) := (blk_cell BK306.out 1).trans rfl; have hcz78_2 : w73.cell? ⟨gb306, 2, none⟩ = some (.int .u8 x307002_2) := (blk_cell BK306.out 2).trans rfl; have hcz78_3 : w73.cell? ⟨gb306, 3, none⟩ = some (.slice Ao71 x307003_2.length co71) := (blk_cell BK306.out 3).trans rfl; have hfz78_0 := blk_frozen BK306.out 0; have hfz78_1 := blk_frozen BK306.out 1; have hfz78_2 := blk_frozen BK306.out 2; have hfz78_3 := blk_frozen BK306.out 3) | ((with_reducible refine gate_callee (f := 10) rfl ?_); refine goesL_ (some 72) rfl rfl Try.func10 (by kernel_rfl) rfl #[.agg #[.int .i64 t296, .int .i64 t297, .bool t298], .agg #[.int .i64 x307000_2, .int .i64 x307001_2, .int .u8 x307002_2, .slice Ao71 x307003_2.length co71], .int .i64 (wrap64 (rd l7 (ji64)))] rfl (by (try simp only [List.map_toArray, List.map_cons, List.map_nil]); first | done | (simp only [hji64]; rfl) | rfl | (simp only [List.length_drop, List.length_take]; rfl)) ?_; (with_reducible refine (plan_After.calls k2 t296 t297 t298 x307000_2 x307001_2 x307002_2 _ _ x307003_2 (wrap64 (rd l7 (ji64))) t322 t323 t324 t325 _ ?side1 ?side2 A67.out).mono ?_); (case side1 => refine (Kd.R_reads' (e := 56) (base := w.heap.size) (ok := fun k_ => True) (n := x307003_2.length) (c := co71) ?_).2.2; exact (by (with_reducible repeat (first | apply Kd.R_alloc | apply Kd.R_drewN | apply Kd.R_drew)); exact (Kd.R_mono (Kd.R_far (p := ⟨gb316, 2, none⟩) (Kd.R_far (p := ⟨gb316, 1, none⟩) (Kd.R_far (p := ⟨gb316, 0, none⟩) (Kd.R_types HO_307003.out BK316.out (by decide)) (fun _ hk => hk.2) (.int .i64 t313)) (fun _ hk => hk.2) (.int .i64 t314)) (fun _ hk => hk.2) (.int .i64 t315)) (fun _ h_ => h_.1)))); (case side2 => exact (Kd.R_reads' HO_307003.out).2.1); rintro e w79 ⟨v326, rfl, ho0, hb⟩; refine ⟨_, rfl, ?_⟩; have n0_ := Aside0.mk (Kd.R_elder' (by (with_reducible repeat (first | apply Kd.R_alloc | apply Kd.R_drewN | apply Kd.R_drew)); exact (Kd.R_mono (Kd.R_far (p := ⟨gb316, 2, none⟩) (Kd.R_far (p := ⟨gb316, 1, none⟩) (Kd.R_far (p := ⟨gb316, 0, none⟩) (Kd.R_types HO_307003.out BK316.out (by decide)) (fun _ hk => hk.2) (.int .i64 t313)) (fun _ hk => hk.2) (.int .i64 t314)) (fun _ hk => hk.2) (.int .i64 t315)) (fun _ h_ => h_.1))) (Kd.R_base ho0) hb); have n1_ := Aside0.mk (Kd.R_lower (Kd.R_new' ho0 (Kd.R_lt (by (with_reducible repeat (first | apply Kd.R_alloc | apply Kd.R_drewN | apply Kd.R_drew)); exact (Kd.R_mono (Kd.R_far (p := ⟨gb316, 2, none⟩) (Kd.R_far (p := ⟨gb316, 1, none⟩) (Kd.R_far (p := ⟨gb316, 0, none⟩) (Kd.R_types HO_307003.out BK316.out (by decide)) (fun _ hk => hk.2) (.int .i64 t313)) (fun _ hk => hk.2) (.int .i64 t314)) (fun _ hk => hk.2) (.int .i64 t315)) (fun _ h_ => h_.1))))) (below_size (by repeat (first | (with_reducible first | exact HB.out | apply below_alloc | apply pw_below_drewN | apply below_drew1 | refine below_set ?_ GE299.out | refine below_set ?_ GE306.out | refine below_set ?_ GE316.out) | exact HB.out)))); have n2_ := Aside0.mk (blk_below (g := gb299) (o := .cells #[.int .i64 t296, .int .i64 t297, .bool t298] 26 (0, 0)) (by (with_reducible repeat (first | refine blk_drewN ?_ _ | refine blk_drew ?_ | refine blk_alloc ?_ _)); refine blk_far ?_ NB299_316.out _; (with_reducible repeat (first | refine blk_drewN ?_ _ | refine blk_drew ?_ | refine blk_alloc ?_ _)); refine blk_far ?_ NB299_316.out _; (with_reducible repeat (first | refine blk_drewN ?_ _ | refine blk_drew ?_ | refine blk_alloc ?_ _)); refine blk_far ?_ NB299_316.out _; (with_reducible repeat (first | refine blk_drewN ?_ _ | refine blk_drew ?_ | refine blk_alloc ?_ _)); exact BK299.out) hb); have n3_ := Aside0.mk (blk_below (g := gb306) (o := .cells #[.int .i64 x307000_2, .int .i64 x307001_2, .int .u8 x307002_2, .slice Ao71 x307003_2.length co71] 30 (0, 0)) (by (with_reducible repeat (first | refine blk_drewN ?_ _ | refine blk_drew ?_ | refine blk_alloc ?_ _)); refine blk_far ?_ NB306_316.out _; (with_reducible repeat (first | refine blk_drewN ?_ _ | refine blk_drew ?_ | refine blk_alloc ?_ _)); refine blk_far ?_ NB306_316.out _; (with_reducible repeat (first | refine blk_drewN ?_ _ | refine blk_drew ?_ | refine blk_alloc ?_ _)); refine blk_far ?_ NB306_316.out _; (with_reducible repeat (first | refine blk_drewN ?_ _ | refine blk_drew ?_ | refine blk_alloc ?_ _)); exact BK306.out) hb); have n4_ := Aside0.mk (blk_below (g := gb316) (o := .cells #[.int .i64 t313, .int .i64 t314, .int .i64 t315] 35 (0, 0)) (by (with_reducible repeat (first | refine blk_drewN ?_ _ | refine blk_drew ?_ | refine blk_alloc ?_ _)); refine blk_put (cs := #[.int .i64 t313, .int .i64 t314, .int .i64 0]) ?_ 2 _ rfl; (with_reducible repeat (first | refine blk_drewN ?_ _ | refine blk_drew ?_ | refine blk_alloc ?_ _)); refine blk_put (cs := #[.int .i64 t313, .int .i64 0, .int .i64 0]) ?_ 1 _ rfl; (with_reducible repeat (first | refine blk_drewN ?_ _ | refine blk_drew ?_ | refine blk_alloc ?_ _)); refine blk_put (cs := #[.int .i64 0, .int .i64 0, .int .i64 0]) ?_ 0 _ rfl; (with_reducible repeat (first | refine blk_drewN ?_ _ | refine blk_drew ?_ | refine blk_alloc ?_ _)); exact BK316.out) hb); have n5_ := Aside0.mk (below_step (by repeat (first | (with_reducible first | exact HB.out | apply below_alloc | apply pw_below_drewN | apply below_drew1 | refine below_set ?_ GE299.out | refine below_set ?_ GE306.out | refine below_set ?_ GE316.out) | exact HB.out)) hb); clear HO_307003; clear BK299; clear BK306; clear BK316; clear HB; have HO_307003 := n0_; have HO327 := n1_; have BK299 := n2_; have BK306 := n3_; have BK316 := n4_; have HB := n5_; clear n0_ n1_ n2_ n3_ n4_ n5_; (try clear hb); (try clear hb2); (try clear hk); (try clear hi); (try clear ho0); have hcz80_0 : w79.cell? ⟨gb306, 0, none⟩ = some (.int .i64 x307000_2) := (blk_cell BK306.out 0).trans rfl; have hcz80_1 : w79.cell? ⟨gb306, 1, none⟩ = some (.int .i64 x307001_2) := (blk_cell BK306.out 1).trans rfl; have hcz80_2 : w79.cell? ⟨gb306, 2, none⟩ = some (.int .u8 x307002_2) := (blk_cell BK306.out 2).trans rfl; have hcz80_3 : w79.cell? ⟨gb306, 3, none⟩ = some (.slice Ao71 x307003_2.length co71) := (blk_cell BK306.out 3).trans rfl; have hfz80_0 := blk_frozen BK306.out 0; have hfz80_1 := blk_frozen BK306.out 1; have hfz80_2 := blk_frozen BK306.out 2; have hfz80_3 := blk_frozen BK306.out 3; obtain ⟨Ao81, co81, eo81⟩ := Kd.R_slice HO327.out; subst eo81))
                          go_roundg k2
                          case measure => have := HJ8.out; have := HK2.out; omega
                          case rel => exact ⟨(wrap64 (x20_2 + 1)), (t322), (t323), (t324), (t325), (.slice Ao81 t325.length co81), (by first | rfl | (simp; done) | (simp [*]; done)), H', ⟨by have := HJ8.out; have := HK2.out; omega⟩, ⟨by (with_reducible repeat (first | apply Kd.R_alloc | apply Kd.R_drewN | apply Kd.R_drew)); exact Kd.R_mono (Kd.R_far (p := ⟨gb306, 3, none⟩) (Kd.R_far (p := ⟨gb306, 2, none⟩) (Kd.R_far (p := ⟨gb306, 1, none⟩) (Kd.R_far (p := ⟨gb306, 0, none⟩) (Kd.R_types HO327.out BK306.out (by decide)) (fun _ hk => hk.2) (.int .i64 t322)) (fun _ hk => hk.2) (.int .i64 t323)) (fun _ hk => hk.2) (.int .u8 t324)) (fun _ hk => hk.2) (.slice Ao81 t325.length co81)) (fun _ hk => trivial)⟩, ⟨by (with_reducible repeat (first | refine blk_drewN ?_ _ | refine blk_drew ?_ | refine blk_alloc ?_ _)); refine blk_far ?_ NB299_306.out _; (with_reducible repeat (first | refine blk_drewN ?_ _ | refine blk_drew ?_ | refine blk_alloc ?_ _)); refine blk_far ?_ NB299_306.out _; (with_reducible repeat (first | refine blk_drewN ?_ _ | refine blk_drew ?_ | refine blk_alloc ?_ _)); refine blk_far ?_ NB299_306.out _; (with_reducible repeat (first | refine blk_drewN ?_ _ | refine blk_drew ?_ | refine blk_alloc ?_ _)); refine blk_far ?_ NB299_306.out _; (with_reducible repeat (first | refine blk_drewN ?_ _ | refine blk_drew ?_ | refine blk_alloc ?_ _)); exact BK299.out⟩, ⟨by (with_reducible repeat (first | refine blk_drewN ?_ _ | refine blk_drew ?_ | refine blk_alloc ?_ _)); refine blk_put (cs := #[.int .i64 t322, .int .i64 t323, .int .u8 t324, .slice Ao71 x307003_2.length co71]) ?_ 3 _ rfl; (with_reducible repeat (first | refine blk_drewN ?_ _ | refine blk_drew ?_ | refine blk_alloc ?_ _)); refine blk_put (cs := #[.int .i64 t322, .int .i64 t323, .int .u8 x307002_2, .slice Ao71 x307003_2.length co71]) ?_ 2 _ rfl; (with_reducible repeat (first | refine blk_drewN ?_ _ | refine blk_drew ?_ | refine blk_alloc ?_ _)); refine blk_put (cs := #[.int .i64 t322, .int .i64 x307001_2, .int .u8 x307002_2, .slice Ao71 x307003_2.length co71]) ?_ 1 _ rfl; (with_reducible repeat (first | refine blk_drewN ?_ _ | refine blk_drew ?_ | refine blk_alloc ?_ _)); refine blk_put (cs := #[.int .i64 x307000_2, .int .i64 x307001_2, .int .u8 x307002_2, .slice Ao71 x307003_2.length co71]) ?_ 0 _ rfl; (with_reducible repeat (first | refine blk_drewN ?_ _ | refine blk_drew ?_ | refine blk_alloc ?_ _)); exact BK306.out⟩, ⟨by repeat (first | (with_reducible first | exact HB.out | apply below_alloc | apply pw_below_drewN | apply below_drew1 | refine below_set ?_ GE299.out | refine below_set ?_ GE306.out | refine below_set ?_ GE316.out) | exact HB.out)⟩⟩
                        · rw [if_neg c66] at H
                          exact absurd H (by simp)
                      · rw [if_neg c65] at H
                        exact absurd H (by simp)
                  · rw [if_neg c62] at H
                    have c62b0 : decide (0 < (l7.length : Int)) = false := decide_eq_false c62
                    have c62b1 : decide (0 < l7.length) = false := decide_eq_false (by omega)
                    clear c62
                    replace H := Option.bind_eq_some_iff.mp H
                    obtain ⟨⟨t328, t329, t330, t331⟩, A820, H⟩ := H
                    replace H : (salvorlaw21_BoundHolds.l0 k2 l7 t308 (wrap64 (x20_2 + 1)) t296 t297 t298 t328 t329 t330 t331) = some r := H
                    have A82 := Aside0.mk A820
                    clear A820
                    have H' := Aside0.mk H
                    clear H
                    have hnb83 := NB299_306.out
                    have hnc83 := NB306_299.out
                    have hcz84_0 : wr.cell? ⟨gb299, 0, none⟩ = some (.int .i64 t296) := (blk_cell BK299.out 0).trans rfl
                    have hcz84_1 : wr.cell? ⟨gb299, 1, none⟩ = some (.int .i64 t297) := (blk_cell BK299.out 1).trans rfl
                    have hcz84_2 : wr.cell? ⟨gb299, 2, none⟩ = some (.bool t298) := (blk_cell BK299.out 2).trans rfl
                    have hfz84_0 := blk_frozen BK299.out 0
                    have hfz84_1 := blk_frozen BK299.out 1
                    have hfz84_2 := blk_frozen BK299.out 2
                    have hcz85_0 : wr.cell? ⟨gb306, 0, none⟩ = some (.int .i64 x307000_2) := (blk_cell BK306.out 0).trans rfl
                    have hcz85_1 : wr.cell? ⟨gb306, 1, none⟩ = some (.int .i64 x307001_2) := (blk_cell BK306.out 1).trans rfl
                    have hcz85_2 : wr.cell? ⟨gb306, 2, none⟩ = some (.int .u8 x307002_2) := (blk_cell BK306.out 2).trans rfl
                    have hcz85_3 : wr.cell? ⟨gb306, 3, none⟩ = some (u307003) := (blk_cell BK306.out 3).trans rfl
                    have hfz85_0 := blk_frozen BK306.out 0
                    have hfz85_1 := blk_frozen BK306.out 1
                    have hfz85_2 := blk_frozen BK306.out 2
                    have hfz85_3 := blk_frozen BK306.out 3
                    obtain ⟨Ao86, co86, eo86⟩ := Kd.R_slice HO_307003.out
                    subst eo86
                    go_wp2_with (first | ((with_reducible refine gate_callee (f := 9) rfl ?_); refine goesL_ (some 54) rfl rfl Try.func9 (by kernel_rfl) rfl #[.agg #[.int .i64 t296, .int .i64 t297, .bool t298], .agg #[.int .i64 x307000_2, .int .i64 x307001_2, .int .u8 x307002_2, .slice Ao86 x307003_2.length co86]] rfl (by (try simp only [List.map_toArray, List.map_cons, List.map_nil]); first | done | rfl | (simp only [List.length_drop, List.length_take]; rfl)) ?_; (with_reducible refine (plan_Next.calls k2 t296 t297 t298 x307000_2 x307001_2 x307002_2 _ _ x307003_2 t313 t314 t315 _ ?side1 ?side2 A32.out).mono ?_); (case side1 => repeat (first | exact (Kd.R_reads' HO_307003.out).2.2 | (with_reducible refine Kd.C_alloc ?_ _) | (with_reducible refine Kd.C_drewN ?_ _) | (with_reducible refine Kd.C_drew ?_))); (case side2 => exact (Kd.R_reads' HO_307003.out).2.1); rintro e w87 ⟨rfl, hb⟩; refine ⟨_, rfl, ?_⟩; have n0_ := Aside0.mk (Kd.R_below (by (with_reducible repeat (first | apply Kd.R_alloc | apply Kd.R_drewN | apply Kd.R_drew)); exact HO_307003.out) hb); have n1_ := Aside0.mk (blk_below (g := gb299) (o := .cells #[.int .i64 t296, .int .i64 t297, .bool t298] 26 (0, 0)) (by (with_reducible repeat (first | refine blk_drewN ?_ _ | refine blk_drew ?_ | refine blk_alloc ?_ _)); exact BK299.out) hb); have n2_ := Aside0.mk (blk_below (g := gb306) (o := .cells #[.int .i64 x307000_2, .int .i64 x307001_2, .int .u8 x307002_2, .slice Ao86 x307003_2.length co86] 30 (0, 0)) (by (with_reducible repeat (first | refine blk_drewN ?_ _ | refine blk_drew ?_ | refine blk_alloc ?_ _)); exact BK306.out) hb); have n3_ := Aside0.mk (below_step (by repeat (first | (with_reducible first | exact HB.out | apply below_alloc | apply pw_below_drewN | apply below_drew1 | refine below_set ?_ GE299.out | refine below_set ?_ GE306.out) | exact HB.out)) hb); clear HO_307003; clear BK299; clear BK306; clear HB; have HO_307003 := n0_; have BK299 := n1_; have BK306 := n2_; have HB := n3_; clear n0_ n1_ n2_ n3_; (try clear hb); (try clear hb2); (try clear hk); (try clear hi)) | ((with_reducible refine gate_dst (N := 21) rfl ?_); (try (refine gate_guard (by rfl) ?_; dsimp only)); refine box_event ?hg (N := 21) ?hd (cs := #[.int .i64 0, .int .i64 0, .int .i64 0]) (t := 35) ?hr ?_; (case hd => rfl); (case hg => rfl); (case hr => first | (go_simp; done) | (go_simp; rfl)); intro gb316 hg w88 hbox hb; have n0_ := Aside0.mk (Kd.R_below (by (with_reducible repeat (first | apply Kd.R_alloc | apply Kd.R_drewN | apply Kd.R_drew)); exact HO_307003.out) hb); have n1_ := Aside0.mk (blk_below (g := gb299) (o := .cells #[.int .i64 t296, .int .i64 t297, .bool t298] 26 (0, 0)) (by (with_reducible repeat (first | refine blk_drewN ?_ _ | refine blk_drew ?_ | refine blk_alloc ?_ _)); exact BK299.out) hb); have n2_ := Aside0.mk (blk_below (g := gb306) (o := .cells #[.int .i64 x307000_2, .int .i64 x307001_2, .int .u8 x307002_2, .slice Ao86 x307003_2.length co86] 30 (0, 0)) (by (with_reducible repeat (first | refine blk_drewN ?_ _ | refine blk_drew ?_ | refine blk_alloc ?_ _)); exact BK306.out) hb); have n3_ := Aside0.mk (below_step (by repeat (first | (with_reducible first | exact HB.out | apply below_alloc | apply pw_below_drewN | apply below_drew1 | refine below_set ?_ GE299.out | refine below_set ?_ GE306.out) | exact HB.out)) hb); have n4_ := Aside0.mk (hbox); have n5_ := Aside0.mk ((by rw [hg]; exact (below_size (by repeat (first | (with_reducible first | exact HB.out | apply below_alloc | apply pw_below_drewN | apply below_drew1 | refine below_set ?_ GE299.out | refine below_set ?_ GE306.out) | exact HB.out))) : w.heap.size ≤ gb316)); have n6_ := Aside0.mk ((by rw [hg]; exact (below_size (by repeat (first | (with_reducible first | exact HB.out | apply below_alloc | apply pw_below_drewN | apply below_drew1 | refine below_set ?_ GE299.out | refine below_set ?_ GE306.out) | exact HB.out))) : w.heap.size ≤ gb316)); have n7_ := Aside0.mk ((by rw [hg]; exact Nat.ne_of_lt (blk_lt (g := gb299) (o := .cells #[.int .i64 t296, .int .i64 t297, .bool t298] 26 (0, 0)) (by (with_reducible repeat (first | refine blk_drewN ?_ _ | refine blk_drew ?_ | refine blk_alloc ?_ _)); exact BK299.out)) : gb299 ≠ gb316)); have n8_ := Aside0.mk ((by rw [hg]; exact Nat.ne_of_gt (blk_lt (g := gb299) (o := .cells #[.int .i64 t296, .int .i64 t297, .bool t298] 26 (0, 0)) (by (with_reducible repeat (first | refine blk_drewN ?_ _ | refine blk_drew ?_ | refine blk_alloc ?_ _)); exact BK299.out)) : gb316 ≠ gb299)); have n9_ := Aside0.mk ((by rw [hg]; exact Nat.ne_of_lt (blk_lt (g := gb306) (o := .cells #[.int .i64 x307000_2, .int .i64 x307001_2, .int .u8 x307002_2, .slice Ao86 x307003_2.length co86] 30 (0, 0)) (by (with_reducible repeat (first | refine blk_drewN ?_ _ | refine blk_drew ?_ | refine blk_alloc ?_ _)); exact BK306.out)) : gb306 ≠ gb316)); have n10_ := Aside0.mk ((by rw [hg]; exact Nat.ne_of_gt (blk_lt (g := gb306) (o := .cells #[.int .i64 x307000_2, .int .i64 x307001_2, .int .u8 x307002_2, .slice Ao86 x307003_2.length co86] 30 (0, 0)) (by (with_reducible repeat (first | refine blk_drewN ?_ _ | refine blk_drew ?_ | refine blk_alloc ?_ _)); exact BK306.out)) : gb316 ≠ gb306)); clear HO_307003; clear BK299; clear BK306; clear HB; have HO_307003 := n0_; have BK299 := n1_; have BK306 := n2_; have HB := n3_; have BK316 := n4_; have GW316 := n5_; have GE316 := n6_; have NB299_316 := n7_; have NB316_299 := n8_; have NB306_316 := n9_; have NB316_306 := n10_; clear n0_ n1_ n2_ n3_ n4_ n5_ n6_ n7_ n8_ n9_ n10_; clear hb hbox hg; have hnb89 := NB316_299.out; have hnc89 := NB299_316.out; have hnb90 := NB316_306.out; have hnc90 := NB306_316.out; have hcz91_0 : w88.cell? ⟨gb316, 0, none⟩ = some (.int .i64 0) := (blk_cell BK316.out 0).trans rfl; have hcz91_1 : w88.cell? ⟨gb316, 1, none⟩ = some (.int .i64 0) := (blk_cell BK316.out 1).trans rfl; have hcz91_2 : w88.cell? ⟨gb316, 2, none⟩ = some (.int .i64 0) := (blk_cell BK316.out 2).trans rfl; have hfz91_0 := blk_frozen BK316.out 0; have hfz91_1 := blk_frozen BK316.out 1; have hfz91_2 := blk_frozen BK316.out 2; have hcz92_0 : w88.cell? ⟨gb299, 0, none⟩ = some (.int .i64 t296) := (blk_cell BK299.out 0).trans rfl; have hcz92_1 : w88.cell? ⟨gb299, 1, none⟩ = some (.int .i64 t297) := (blk_cell BK299.out 1).trans rfl; have hcz92_2 : w88.cell? ⟨gb299, 2, none⟩ = some (.bool t298) := (blk_cell BK299.out 2).trans rfl; have hfz92_0 := blk_frozen BK299.out 0; have hfz92_1 := blk_frozen BK299.out 1; have hfz92_2 := blk_frozen BK299.out 2; have hcz93_0 : w88.cell? ⟨gb306, 0, none⟩ = some (.int .i64 x307000_2) := (blk_cell BK306.out 0).trans rfl; have hcz93_1 : w88.cell? ⟨gb306, 1, none⟩ = some (.int .i64 x307001_2) := (blk_cell BK306.out 1).trans rfl; have hcz93_2 : w88.cell? ⟨gb306, 2, none⟩ = some (.int .u8 x307002_2) := (blk_cell BK306.out 2).trans rfl; have hcz93_3 : w88.cell? ⟨gb306, 3, none⟩ = some (.slice Ao86 x307003_2.length co86) := (blk_cell BK306.out 3).trans rfl; have hfz93_0 := blk_frozen BK306.out 0; have hfz93_1 := blk_frozen BK306.out 1; have hfz93_2 := blk_frozen BK306.out 2; have hfz93_3 := blk_frozen BK306.out 3) | ((with_reducible refine gate_callee (f := 10) rfl ?_); refine goesL_ (some 72) rfl rfl Try.func10 (by kernel_rfl) rfl #[.agg #[.int .i64 t296, .int .i64 t297, .bool t298], .agg #[.int .i64 x307000_2, .int .i64 x307001_2, .int .u8 x307002_2, .slice Ao86 x307003_2.length co86], .int .i64 0] rfl (by (try simp only [List.map_toArray, List.map_cons, List.map_nil]); first | done | rfl | (simp only [List.length_drop, List.length_take]; rfl)) ?_; (with_reducible refine (plan_After.calls k2 t296 t297 t298 x307000_2 x307001_2 x307002_2 _ _ x307003_2 0 t328 t329 t330 t331 _ ?side1 ?side2 A82.out).mono ?_); (case side1 => refine (Kd.R_reads' (e := 56) (base := w.heap.size) (ok := fun k_ => True) (n := x307003_2.length) (c := co86) ?_).2.2; exact (by (with_reducible repeat (first | apply Kd.R_alloc | apply Kd.R_drewN | apply Kd.R_drew)); exact (Kd.R_mono (Kd.R_far (p := ⟨gb316, 2, none⟩) (Kd.R_far (p := ⟨gb316, 1, none⟩) (Kd.R_far (p := ⟨gb316, 0, none⟩) (Kd.R_types HO_307003.out BK316.out (by decide)) (fun _ hk => hk.2) (.int .i64 t313)) (fun _ hk => hk.2) (.int .i64 t314)) (fun _ hk => hk.2) (.int .i64 t315)) (fun _ h_ => h_.1)))); (case side2 => exact (Kd.R_reads' HO_307003.out).2.1); rintro e w94 ⟨v332, rfl, ho0, hb⟩; refine ⟨_, rfl, ?_⟩; have n0_ := Aside0.mk (Kd.R_elder' (by (with_reducible repeat (first | apply Kd.R_alloc | apply Kd.R_drewN | apply Kd.R_drew)); exact (Kd.R_mono (Kd.R_far (p := ⟨gb316, 2, none⟩) (Kd.R_far (p := ⟨gb316, 1, none⟩) (Kd.R_far (p := ⟨gb316, 0, none⟩) (Kd.R_types HO_307003.out BK316.out (by decide)) (fun _ hk => hk.2) (.int .i64 t313)) (fun _ hk => hk.2) (.int .i64 t314)) (fun _ hk => hk.2) (.int .i64 t315)) (fun _ h_ => h_.1))) (Kd.R_base ho0) hb); have n1_ := Aside0.mk (Kd.R_lower (Kd.R_new' ho0 (Kd.R_lt (by (with_reducible repeat (first | apply Kd.R_alloc | apply Kd.R_drewN | apply Kd.R_drew)); exact (Kd.R_mono (Kd.R_far (p := ⟨gb316, 2, none⟩) (Kd.R_far (p := ⟨gb316, 1, none⟩) (Kd.R_far (p := ⟨gb316, 0, none⟩) (Kd.R_types HO_307003.out BK316.out (by decide)) (fun _ hk => hk.2) (.int .i64 t313)) (fun _ hk => hk.2) (.int .i64 t314)) (fun _ hk => hk.2) (.int .i64 t315)) (fun _ h_ => h_.1))))) (below_size (by repeat (first | (with_reducible first | exact HB.out | apply below_alloc | apply pw_below_drewN | apply below_drew1 | refine below_set ?_ GE299.out | refine below_set ?_ GE306.out | refine below_set ?_ GE316.out) | exact HB.out)))); have n2_ := Aside0.mk (blk_below (g := gb299) (o := .cells #[.int .i64 t296, .int .i64 t297, .bool t298] 26 (0, 0)) (by (with_reducible repeat (first | refine blk_drewN ?_ _ | refine blk_drew ?_ | refine blk_alloc ?_ _)); refine blk_far ?_ NB299_316.out _; (with_reducible repeat (first | refine blk_drewN ?_ _ | refine blk_drew ?_ | refine blk_alloc ?_ _)); refine blk_far ?_ NB299_316.out _; (with_reducible repeat (first | refine blk_drewN ?_ _ | refine blk_drew ?_ | refine blk_alloc ?_ _)); refine blk_far ?_ NB299_316.out _; (with_reducible repeat (first | refine blk_drewN ?_ _ | refine blk_drew ?_ | refine blk_alloc ?_ _)); exact BK299.out) hb); have n3_ := Aside0.mk (blk_below (g := gb306) (o := .cells #[.int .i64 x307000_2, .int .i64 x307001_2, .int .u8 x307002_2, .slice Ao86 x307003_2.length co86] 30 (0, 0)) (by (with_reducible repeat (first | refine blk_drewN ?_ _ | refine blk_drew ?_ | refine blk_alloc ?_ _)); refine blk_far ?_ NB306_316.out _; (with_reducible repeat (first | refine blk_drewN ?_ _ | refine blk_drew ?_ | refine blk_alloc ?_ _)); refine blk_far ?_ NB306_316.out _; (with_reducible repeat (first | refine blk_drewN ?_ _ | refine blk_drew ?_ | refine blk_alloc ?_ _)); refine blk_far ?_ NB306_316.out _; (with_reducible repeat (first | refine blk_drewN ?_ _ | refine blk_drew ?_ | refine blk_alloc ?_ _)); exact BK306.out) hb); have n4_ := Aside0.mk (blk_below (g := gb316) (o := .cells #[.int .i64 t313, .int .i64 t314, .int .i64 t315] 35 (0, 0)) (by (with_reducible repeat (first | refine blk_drewN ?_ _ | refine blk_drew ?_ | refine blk_alloc ?_ _)); refine blk_put (cs := #[.int .i64 t313, .int .i64 t314, .int .i64 0]) ?_ 2 _ rfl; (with_reducible repeat (first | refine blk_drewN ?_ _ | refine blk_drew ?_ | refine blk_alloc ?_ _)); refine blk_put (cs := #[.int .i64 t313, .int .i64 0, .int .i64 0]) ?_ 1 _ rfl; (with_reducible repeat (first | refine blk_drewN ?_ _ | refine blk_drew ?_ | refine blk_alloc ?_ _)); refine blk_put (cs := #[.int .i64 0, .int .i64 0, .int .i64 0]) ?_ 0 _ rfl; (with_reducible repeat (first | refine blk_drewN ?_ _ | refine blk_drew ?_ | refine blk_alloc ?_ _)); exact BK316.out) hb); have n5_ := Aside0.mk (below_step (by repeat (first | (with_reducible first | exact HB.out | apply below_alloc | apply pw_below_drewN | apply below_drew1 | refine below_set ?_ GE299.out | refine below_set ?_ GE306.out | refine below_set ?_ GE316.out) | exact HB.out)) hb); clear HO_307003; clear BK299; clear BK306; clear BK316; clear HB; have HO_307003 := n0_; have HO333 := n1_; have BK299 := n2_; have BK306 := n3_; have BK316 := n4_; have HB := n5_; clear n0_ n1_ n2_ n3_ n4_ n5_; (try clear hb); (try clear hb2); (try clear hk); (try clear hi); (try clear ho0); have hcz95_0 : w94.cell? ⟨gb306, 0, none⟩ = some (.int .i64 x307000_2) := (blk_cell BK306.out 0).trans rfl; have hcz95_1 : w94.cell? ⟨gb306, 1, none⟩ = some (.int .i64 x307001_2) := (blk_cell BK306.out 1).trans rfl; have hcz95_2 : w94.cell? ⟨gb306, 2, none⟩ = some (.int .u8 x307002_2) := (blk_cell BK306.out 2).trans rfl; have hcz95_3 : w94.cell? ⟨gb306, 3, none⟩ = some (.slice Ao86 x307003_2.length co86) := (blk_cell BK306.out 3).trans rfl; have hfz95_0 := blk_frozen BK306.out 0; have hfz95_1 := blk_frozen BK306.out 1; have hfz95_2 := blk_frozen BK306.out 2; have hfz95_3 := blk_frozen BK306.out 3; obtain ⟨Ao96, co96, eo96⟩ := Kd.R_slice HO333.out; subst eo96))
                    go_roundg k2
                    case measure => have := HJ8.out; have := HK2.out; omega
                    case rel => exact ⟨(wrap64 (x20_2 + 1)), (t328), (t329), (t330), (t331), (.slice Ao96 t331.length co96), (by first | rfl | (simp; done) | (simp [*]; done)), H', ⟨by have := HJ8.out; have := HK2.out; omega⟩, ⟨by (with_reducible repeat (first | apply Kd.R_alloc | apply Kd.R_drewN | apply Kd.R_drew)); exact Kd.R_mono (Kd.R_far (p := ⟨gb306, 3, none⟩) (Kd.R_far (p := ⟨gb306, 2, none⟩) (Kd.R_far (p := ⟨gb306, 1, none⟩) (Kd.R_far (p := ⟨gb306, 0, none⟩) (Kd.R_types HO333.out BK306.out (by decide)) (fun _ hk => hk.2) (.int .i64 t328)) (fun _ hk => hk.2) (.int .i64 t329)) (fun _ hk => hk.2) (.int .u8 t330)) (fun _ hk => hk.2) (.slice Ao96 t331.length co96)) (fun _ hk => trivial)⟩, ⟨by (with_reducible repeat (first | refine blk_drewN ?_ _ | refine blk_drew ?_ | refine blk_alloc ?_ _)); refine blk_far ?_ NB299_306.out _; (with_reducible repeat (first | refine blk_drewN ?_ _ | refine blk_drew ?_ | refine blk_alloc ?_ _)); refine blk_far ?_ NB299_306.out _; (with_reducible repeat (first | refine blk_drewN ?_ _ | refine blk_drew ?_ | refine blk_alloc ?_ _)); refine blk_far ?_ NB299_306.out _; (with_reducible repeat (first | refine blk_drewN ?_ _ | refine blk_drew ?_ | refine blk_alloc ?_ _)); refine blk_far ?_ NB299_306.out _; (with_reducible repeat (first | refine blk_drewN ?_ _ | refine blk_drew ?_ | refine blk_alloc ?_ _)); exact BK299.out⟩, ⟨by (with_reducible repeat (first | refine blk_drewN ?_ _ | refine blk_drew ?_ | refine blk_alloc ?_ _)); refine blk_put (cs := #[.int .i64 t328, .int .i64 t329, .int .u8 t330, .slice Ao86 x307003_2.length co86]) ?_ 3 _ rfl; (with_reducible repeat (first | refine blk_drewN ?_ _ | refine blk_drew ?_ | refine blk_alloc ?_ _)); refine blk_put (cs := #[.int .i64 t328, .int .i64 t329, .int .u8 x307002_2, .slice Ao86 x307003_2.length co86]) ?_ 2 _ rfl; (with_reducible repeat (first | refine blk_drewN ?_ _ | refine blk_drew ?_ | refine blk_alloc ?_ _)); refine blk_put (cs := #[.int .i64 t328, .int .i64 x307001_2, .int .u8 x307002_2, .slice Ao86 x307003_2.length co86]) ?_ 1 _ rfl; (with_reducible repeat (first | refine blk_drewN ?_ _ | refine blk_drew ?_ | refine blk_alloc ?_ _)); refine blk_put (cs := #[.int .i64 x307000_2, .int .i64 x307001_2, .int .u8 x307002_2, .slice Ao86 x307003_2.length co86]) ?_ 0 _ rfl; (with_reducible repeat (first | refine blk_drewN ?_ _ | refine blk_drew ?_ | refine blk_alloc ?_ _)); exact BK306.out⟩, ⟨by repeat (first | (with_reducible first | exact HB.out | apply below_alloc | apply pw_below_drewN | apply below_drew1 | refine below_set ?_ GE299.out | refine below_set ?_ GE306.out | refine below_set ?_ GE316.out) | exact HB.out)⟩⟩
              · rw [if_neg c31] at H
                have c31b0 : decide (x20_2 < t308) = false := decide_eq_false c31
                clear c31
                replace H := Option.bind_eq_some_iff.mp H
                obtain ⟨⟨t309, t310, t311⟩, A970, H⟩ := H
                replace H : (if (t309 == 0 && (t310 == 0 && (t311 == 0))) = true then ((salvorlaw21_BoundRuns.f k2).bind fun t312 => (some t312)) else (some false)) = some r := H
                have A97 := Aside0.mk A970
                clear A970
                by_cases c98 : (t309 == 0 && (t310 == 0 && (t311 == 0))) = true
                · rw [if_pos c98] at H
                  have c98b0 : (t309 == 0 && (t310 == 0 && (t311 == 0))) = true := c98
                  (try (have c98b1 : decide (t309 = 0 && (t310 == 0 && (t311 == 0))) = true := by simpa using c98))
                  (try (have c98b2 : (t309 == 0 && (t310 == 0 && (t311 == 0))) = true := by simpa using c98))
                  clear c98
                  replace H := Option.bind_eq_some_iff.mp H
                  obtain ⟨t312, A990, H⟩ := H
                  replace H : (some t312) = some r := H
                  have A99 := Aside0.mk A990
                  clear A990
                  obtain rfl := Option.some.inj H
                  have hnb100 := NB299_306.out
                  have hnc100 := NB306_299.out
                  have hcz101_0 : wr.cell? ⟨gb299, 0, none⟩ = some (.int .i64 t296) := (blk_cell BK299.out 0).trans rfl
                  have hcz101_1 : wr.cell? ⟨gb299, 1, none⟩ = some (.int .i64 t297) := (blk_cell BK299.out 1).trans rfl
                  have hcz101_2 : wr.cell? ⟨gb299, 2, none⟩ = some (.bool t298) := (blk_cell BK299.out 2).trans rfl
                  have hfz101_0 := blk_frozen BK299.out 0
                  have hfz101_1 := blk_frozen BK299.out 1
                  have hfz101_2 := blk_frozen BK299.out 2
                  have hcz102_0 : wr.cell? ⟨gb306, 0, none⟩ = some (.int .i64 x307000_2) := (blk_cell BK306.out 0).trans rfl
                  have hcz102_1 : wr.cell? ⟨gb306, 1, none⟩ = some (.int .i64 x307001_2) := (blk_cell BK306.out 1).trans rfl
                  have hcz102_2 : wr.cell? ⟨gb306, 2, none⟩ = some (.int .u8 x307002_2) := (blk_cell BK306.out 2).trans rfl
                  have hcz102_3 : wr.cell? ⟨gb306, 3, none⟩ = some (u307003) := (blk_cell BK306.out 3).trans rfl
                  have hfz102_0 := blk_frozen BK306.out 0
                  have hfz102_1 := blk_frozen BK306.out 1
                  have hfz102_2 := blk_frozen BK306.out 2
                  have hfz102_3 := blk_frozen BK306.out 3
                  obtain ⟨Ao103, co103, eo103⟩ := Kd.R_slice HO_307003.out
                  subst eo103
                  go_wp2_with (first | ((with_reducible refine gate_callee (f := 9) rfl ?_); refine goesL_ (some 75) rfl rfl Try.func9 (by kernel_rfl) rfl #[.agg #[.int .i64 t296, .int .i64 t297, .bool t298], .agg #[.int .i64 x307000_2, .int .i64 x307001_2, .int .u8 x307002_2, .slice Ao103 x307003_2.length co103]] rfl (by (try simp only [List.map_toArray, List.map_cons, List.map_nil]); first | done | rfl | (simp only [List.length_drop, List.length_take]; rfl)) ?_; (with_reducible refine (plan_Next.calls k2 t296 t297 t298 x307000_2 x307001_2 x307002_2 _ _ x307003_2 t309 t310 t311 _ ?side1 ?side2 A97.out).mono ?_); (case side1 => repeat (first | exact (Kd.R_reads' HO_307003.out).2.2 | (with_reducible refine Kd.C_alloc ?_ _) | (with_reducible refine Kd.C_drewN ?_ _) | (with_reducible refine Kd.C_drew ?_))); (case side2 => exact (Kd.R_reads' HO_307003.out).2.1); rintro e w104 ⟨rfl, hb⟩; refine ⟨_, rfl, ?_⟩; have n0_ := Aside0.mk (Kd.R_below (by (with_reducible repeat (first | apply Kd.R_alloc | apply Kd.R_drewN | apply Kd.R_drew)); exact HO_307003.out) hb); have n1_ := Aside0.mk (blk_below (g := gb299) (o := .cells #[.int .i64 t296, .int .i64 t297, .bool t298] 26 (0, 0)) (by (with_reducible repeat (first | refine blk_drewN ?_ _ | refine blk_drew ?_ | refine blk_alloc ?_ _)); exact BK299.out) hb); have n2_ := Aside0.mk (blk_below (g := gb306) (o := .cells #[.int .i64 x307000_2, .int .i64 x307001_2, .int .u8 x307002_2, .slice Ao103 x307003_2.length co103] 30 (0, 0)) (by (with_reducible repeat (first | refine blk_drewN ?_ _ | refine blk_drew ?_ | refine blk_alloc ?_ _)); exact BK306.out) hb); have n3_ := Aside0.mk (below_step (by repeat (first | (with_reducible first | exact HB.out | apply below_alloc | apply pw_below_drewN | apply below_drew1 | refine below_set ?_ GE299.out | refine below_set ?_ GE306.out) | exact HB.out)) hb); clear HO_307003; clear BK299; clear BK306; clear HB; have HO_307003 := n0_; have BK299 := n1_; have BK306 := n2_; have HB := n3_; clear n0_ n1_ n2_ n3_; (try clear hb); (try clear hb2); (try clear hk); (try clear hi)) | (go_at_call 4; (with_reducible refine (salvorlaw21_BoundRuns.calls k2  t312 _ A99.out).mono ?_); rintro e w105 ⟨rfl, hb⟩; have n0_ := Aside0.mk (Kd.R_below (by (with_reducible repeat (first | apply Kd.R_alloc | apply Kd.R_drewN | apply Kd.R_drew)); exact HO_307003.out) hb); have n1_ := Aside0.mk (blk_below (g := gb299) (o := .cells #[.int .i64 t296, .int .i64 t297, .bool t298] 26 (0, 0)) (by (with_reducible repeat (first | refine blk_drewN ?_ _ | refine blk_drew ?_ | refine blk_alloc ?_ _)); exact BK299.out) hb); have n2_ := Aside0.mk (blk_below (g := gb306) (o := .cells #[.int .i64 x307000_2, .int .i64 x307001_2, .int .u8 x307002_2, .slice Ao103 x307003_2.length co103] 30 (0, 0)) (by (with_reducible repeat (first | refine blk_drewN ?_ _ | refine blk_drew ?_ | refine blk_alloc ?_ _)); exact BK306.out) hb); have n3_ := Aside0.mk (below_step (by repeat (first | (with_reducible first | exact HB.out | apply below_alloc | apply pw_below_drewN | apply below_drew1 | refine below_set ?_ GE299.out | refine below_set ?_ GE306.out) | exact HB.out)) hb); clear HO_307003; clear BK299; clear BK306; clear HB; have HO_307003 := n0_; have BK299 := n1_; have BK306 := n2_; have HB := n3_; clear n0_ n1_ n2_ n3_; (try clear hb); (try clear hb2); (try clear hk); (try clear hi)))
                  go_ret
                  exact ⟨by first | rfl | (simp [errW_none, errW_some] <;> rfl) | (simp [*, errW_none, errW_some] <;> rfl), by repeat (first | (with_reducible first | exact HB.out | apply below_alloc | apply pw_below_drewN | apply below_drew1 | refine below_set ?_ GE299.out | refine below_set ?_ GE306.out) | exact HB.out)⟩
                · rw [if_neg c98] at H
                  have c98b0 : (t309 == 0 && (t310 == 0 && (t311 == 0))) = false := by simpa using c98
                  (try (have c98b1 : decide (t309 = 0 && (t310 == 0 && (t311 == 0))) = false := by simpa using c98))
                  (try (have c98b2 : (t309 == 0 && (t310 == 0 && (t311 == 0))) = false := by simpa using c98))
                  (try (have c98b3 : ¬ (t309 = 0 && (t310 == 0 && (t311 == 0))) := by simpa using c98))
                  clear c98
                  obtain rfl := Option.some.inj H
                  have hnb106 := NB299_306.out
                  have hnc106 := NB306_299.out
                  have hcz107_0 : wr.cell? ⟨gb299, 0, none⟩ = some (.int .i64 t296) := (blk_cell BK299.out 0).trans rfl
                  have hcz107_1 : wr.cell? ⟨gb299, 1, none⟩ = some (.int .i64 t297) := (blk_cell BK299.out 1).trans rfl
                  have hcz107_2 : wr.cell? ⟨gb299, 2, none⟩ = some (.bool t298) := (blk_cell BK299.out 2).trans rfl
                  have hfz107_0 := blk_frozen BK299.out 0
                  have hfz107_1 := blk_frozen BK299.out 1
                  have hfz107_2 := blk_frozen BK299.out 2
                  have hcz108_0 : wr.cell? ⟨gb306, 0, none⟩ = some (.int .i64 x307000_2) := (blk_cell BK306.out 0).trans rfl
                  have hcz108_1 : wr.cell? ⟨gb306, 1, none⟩ = some (.int .i64 x307001_2) := (blk_cell BK306.out 1).trans rfl
                  have hcz108_2 : wr.cell? ⟨gb306, 2, none⟩ = some (.int .u8 x307002_2) := (blk_cell BK306.out 2).trans rfl
                  have hcz108_3 : wr.cell? ⟨gb306, 3, none⟩ = some (u307003) := (blk_cell BK306.out 3).trans rfl
                  have hfz108_0 := blk_frozen BK306.out 0
                  have hfz108_1 := blk_frozen BK306.out 1
                  have hfz108_2 := blk_frozen BK306.out 2
                  have hfz108_3 := blk_frozen BK306.out 3
                  obtain ⟨Ao109, co109, eo109⟩ := Kd.R_slice HO_307003.out
                  subst eo109
                  go_wp2_with (first | ((with_reducible refine gate_callee (f := 9) rfl ?_); refine goesL_ (some 75) rfl rfl Try.func9 (by kernel_rfl) rfl #[.agg #[.int .i64 t296, .int .i64 t297, .bool t298], .agg #[.int .i64 x307000_2, .int .i64 x307001_2, .int .u8 x307002_2, .slice Ao109 x307003_2.length co109]] rfl (by (try simp only [List.map_toArray, List.map_cons, List.map_nil]); first | done | rfl | (simp only [List.length_drop, List.length_take]; rfl)) ?_; (with_reducible refine (plan_Next.calls k2 t296 t297 t298 x307000_2 x307001_2 x307002_2 _ _ x307003_2 t309 t310 t311 _ ?side1 ?side2 A97.out).mono ?_); (case side1 => repeat (first | exact (Kd.R_reads' HO_307003.out).2.2 | (with_reducible refine Kd.C_alloc ?_ _) | (with_reducible refine Kd.C_drewN ?_ _) | (with_reducible refine Kd.C_drew ?_))); (case side2 => exact (Kd.R_reads' HO_307003.out).2.1); rintro e w110 ⟨rfl, hb⟩; refine ⟨_, rfl, ?_⟩; have n0_ := Aside0.mk (Kd.R_below (by (with_reducible repeat (first | apply Kd.R_alloc | apply Kd.R_drewN | apply Kd.R_drew)); exact HO_307003.out) hb); have n1_ := Aside0.mk (blk_below (g := gb299) (o := .cells #[.int .i64 t296, .int .i64 t297, .bool t298] 26 (0, 0)) (by (with_reducible repeat (first | refine blk_drewN ?_ _ | refine blk_drew ?_ | refine blk_alloc ?_ _)); exact BK299.out) hb); have n2_ := Aside0.mk (blk_below (g := gb306) (o := .cells #[.int .i64 x307000_2, .int .i64 x307001_2, .int .u8 x307002_2, .slice Ao109 x307003_2.length co109] 30 (0, 0)) (by (with_reducible repeat (first | refine blk_drewN ?_ _ | refine blk_drew ?_ | refine blk_alloc ?_ _)); exact BK306.out) hb); have n3_ := Aside0.mk (below_step (by repeat (first | (with_reducible first | exact HB.out | apply below_alloc | apply pw_below_drewN | apply below_drew1 | refine below_set ?_ GE299.out | refine below_set ?_ GE306.out) | exact HB.out)) hb); clear HO_307003; clear BK299; clear BK306; clear HB; have HO_307003 := n0_; have BK299 := n1_; have BK306 := n2_; have HB := n3_; clear n0_ n1_ n2_ n3_; (try clear hb); (try clear hb2); (try clear hk); (try clear hi)))
                  go_ret
                  exact ⟨by first | rfl | (simp [errW_none, errW_some] <;> rfl) | (simp [*, errW_none, errW_some] <;> rfl), by repeat (first | (with_reducible first | exact HB.out | apply below_alloc | apply pw_below_drewN | apply below_drew1 | refine below_set ?_ GE299.out | refine below_set ?_ GE306.out) | exact HB.out)⟩
        · replace c17 := Bool.eq_false_iff.mpr c17
          subst c17
          have H1 : (some false) = some r := by rw [if_neg (show ¬ (false = true) by decide)] at H; exact H
          clear H
          have H := H1
          clear H1
          obtain rfl := Option.some.inj H
          go_wp2_with (first | ((with_reducible refine gate_callee (f := 5) rfl ?_); refine goesL_ (some 35) rfl rfl Try.func5 (by kernel_rfl) rfl #[.int .u8 a2, .int .u8 a3, .bool a4] rfl (by (try simp only [List.map_toArray, List.map_cons, List.map_nil]); first | done | rfl | (simp only [List.length_drop, List.length_take]; rfl)) ?_; (with_reducible refine (salvorlaw18_Opts.calls a2 a3 a4 t296 t297 t298 _ A14.out).mono ?_); rintro e w111 ⟨rfl, hb⟩; refine ⟨_, rfl, ?_⟩; have n0_ := Aside0.mk (below_step (by repeat (first | (with_reducible first | exact HB.out | apply below_alloc | apply pw_below_drewN | apply below_drew1) | exact HB.out)) hb); clear HB; have HB := n0_; clear n0_; (try clear hb); (try clear hb2); (try clear hk); (try clear hi)) | ((with_reducible refine gate_dst (N := 17) rfl ?_); (try (refine gate_guard (by rfl) ?_; dsimp only)); refine box_event ?hg (N := 17) ?hd (cs := #[.int .i64 0, .int .i64 0, .bool false]) (t := 26) ?hr ?_; (case hd => rfl); (case hg => rfl); (case hr => first | (go_simp; done) | (go_simp; rfl)); intro gb299 hg w112 hbox hb; have n0_ := Aside0.mk (below_step (by repeat (first | (with_reducible first | exact HB.out | apply below_alloc | apply pw_below_drewN | apply below_drew1) | exact HB.out)) hb); have n1_ := Aside0.mk (hbox); have n2_ := Aside0.mk ((by rw [hg]; exact (below_size (by repeat (first | (with_reducible first | exact HB.out | apply below_alloc | apply pw_below_drewN | apply below_drew1) | exact HB.out))) : w.heap.size ≤ gb299)); have n3_ := Aside0.mk ((by rw [hg]; exact (below_size (by repeat (first | (with_reducible first | exact HB.out | apply below_alloc | apply pw_below_drewN | apply below_drew1) | exact HB.out))) : w.heap.size ≤ gb299)); clear HB; have HB := n0_; have BK299 := n1_; have GW299 := n2_; have GE299 := n3_; clear n0_ n1_ n2_ n3_; clear hb hbox hg; have hcz113_0 : w112.cell? ⟨gb299, 0, none⟩ = some (.int .i64 0) := (blk_cell BK299.out 0).trans rfl; have hcz113_1 : w112.cell? ⟨gb299, 1, none⟩ = some (.int .i64 0) := (blk_cell BK299.out 1).trans rfl; have hcz113_2 : w112.cell? ⟨gb299, 2, none⟩ = some (.bool false) := (blk_cell BK299.out 2).trans rfl; have hfz113_0 := blk_frozen BK299.out 0; have hfz113_1 := blk_frozen BK299.out 1; have hfz113_2 := blk_frozen BK299.out 2) | ((with_reducible refine gate_callee (f := 6) rfl ?_); refine goesL_ (some 40) rfl rfl Try.func6 (by kernel_rfl) rfl #[.int .u8 a0, .slice A1 l1.length c1, .int .u8 a5, .int .u8 a6] rfl (by (try simp only [List.map_toArray, List.map_cons, List.map_nil]); first | done | rfl | (simp only [List.length_drop, List.length_take]; rfl)) ?_; (with_reducible refine (salvorlaw18_Map.calls kj8 a0 _ _ l1 a5 a6 t300 t301 t302 t303 _ ?side1 ?side2 A15.out).mono ?_); (case side1 => exact Kd.C_below HR1.out (by repeat (first | (with_reducible first | exact HB.out | apply below_alloc | apply pw_below_drewN | apply below_drew1 | refine below_set ?_ GE299.out) | exact HB.out))); (case side2 => exact HC1.out); rintro e w114 ⟨v304, rfl, ho0, hb⟩; refine ⟨_, rfl, ?_⟩; have n0_ := Aside0.mk (Kd.R_lower ho0 (below_size (by repeat (first | (with_reducible first | exact HB.out | apply below_alloc | apply pw_below_drewN | apply below_drew1 | refine below_set ?_ GE299.out) | exact HB.out)))); have n1_ := Aside0.mk (blk_below (g := gb299) (o := .cells #[.int .i64 t296, .int .i64 t297, .bool t298] 26 (0, 0)) (by (with_reducible repeat (first | refine blk_drewN ?_ _ | refine blk_drew ?_ | refine blk_alloc ?_ _)); refine blk_put (cs := #[.int .i64 t296, .int .i64 t297, .bool false]) ?_ 2 _ rfl; (with_reducible repeat (first | refine blk_drewN ?_ _ | refine blk_drew ?_ | refine blk_alloc ?_ _)); refine blk_put (cs := #[.int .i64 t296, .int .i64 0, .bool false]) ?_ 1 _ rfl; (with_reducible repeat (first | refine blk_drewN ?_ _ | refine blk_drew ?_ | refine blk_alloc ?_ _)); refine blk_put (cs := #[.int .i64 0, .int .i64 0, .bool false]) ?_ 0 _ rfl; (with_reducible repeat (first | refine blk_drewN ?_ _ | refine blk_drew ?_ | refine blk_alloc ?_ _)); exact BK299.out) hb); have n2_ := Aside0.mk (below_step (by repeat (first | (with_reducible first | exact HB.out | apply below_alloc | apply pw_below_drewN | apply below_drew1 | refine below_set ?_ GE299.out) | exact HB.out)) hb); clear BK299; clear HB; have HO305 := n0_; have BK299 := n1_; have HB := n2_; clear n0_ n1_ n2_; (try clear hb); (try clear hb2); (try clear hk); (try clear hi); (try clear ho0)) | ((with_reducible refine gate_dst (N := 18) rfl ?_); (try (refine gate_guard (by rfl) ?_; dsimp only)); refine box_event ?hg (N := 18) ?hd (cs := #[.int .i64 0, .int .i64 0, .int .u8 0, .slice none 0 0]) (t := 30) ?hr ?_; (case hd => rfl); (case hg => rfl); (case hr => first | (go_simp; done) | (go_simp; rfl)); intro gb306 hg w115 hbox hb; have n0_ := Aside0.mk (Kd.R_below (by (with_reducible repeat (first | apply Kd.R_alloc | apply Kd.R_drewN | apply Kd.R_drew)); exact HO305.out) hb); have n1_ := Aside0.mk (blk_below (g := gb299) (o := .cells #[.int .i64 t296, .int .i64 t297, .bool t298] 26 (0, 0)) (by (with_reducible repeat (first | refine blk_drewN ?_ _ | refine blk_drew ?_ | refine blk_alloc ?_ _)); exact BK299.out) hb); have n2_ := Aside0.mk (below_step (by repeat (first | (with_reducible first | exact HB.out | apply below_alloc | apply pw_below_drewN | apply below_drew1 | refine below_set ?_ GE299.out) | exact HB.out)) hb); have n3_ := Aside0.mk (hbox); have n4_ := Aside0.mk ((by rw [hg]; exact (below_size (by repeat (first | (with_reducible first | exact HB.out | apply below_alloc | apply pw_below_drewN | apply below_drew1 | refine below_set ?_ GE299.out) | exact HB.out))) : w.heap.size ≤ gb306)); have n5_ := Aside0.mk ((by rw [hg]; exact (below_size (by repeat (first | (with_reducible first | exact HB.out | apply below_alloc | apply pw_below_drewN | apply below_drew1 | refine below_set ?_ GE299.out) | exact HB.out))) : w.heap.size ≤ gb306)); have n6_ := Aside0.mk ((by rw [hg]; exact Nat.ne_of_lt (blk_lt (g := gb299) (o := .cells #[.int .i64 t296, .int .i64 t297, .bool t298] 26 (0, 0)) (by (with_reducible repeat (first | refine blk_drewN ?_ _ | refine blk_drew ?_ | refine blk_alloc ?_ _)); exact BK299.out)) : gb299 ≠ gb306)); have n7_ := Aside0.mk ((by rw [hg]; exact Nat.ne_of_gt (blk_lt (g := gb299) (o := .cells #[.int .i64 t296, .int .i64 t297, .bool t298] 26 (0, 0)) (by (with_reducible repeat (first | refine blk_drewN ?_ _ | refine blk_drew ?_ | refine blk_alloc ?_ _)); exact BK299.out)) : gb306 ≠ gb299)); clear HO305; clear BK299; clear HB; have HO305 := n0_; have BK299 := n1_; have HB := n2_; have BK306 := n3_; have GW306 := n4_; have GE306 := n5_; have NB299_306 := n6_; have NB306_299 := n7_; clear n0_ n1_ n2_ n3_ n4_ n5_ n6_ n7_; clear hb hbox hg; have hnb116 := NB306_299.out; have hnc116 := NB299_306.out; have hcz117_0 : w115.cell? ⟨gb306, 0, none⟩ = some (.int .i64 0) := (blk_cell BK306.out 0).trans rfl; have hcz117_1 : w115.cell? ⟨gb306, 1, none⟩ = some (.int .i64 0) := (blk_cell BK306.out 1).trans rfl; have hcz117_2 : w115.cell? ⟨gb306, 2, none⟩ = some (.int .u8 0) := (blk_cell BK306.out 2).trans rfl; have hcz117_3 : w115.cell? ⟨gb306, 3, none⟩ = some (.slice none 0 0) := (blk_cell BK306.out 3).trans rfl; have hfz117_0 := blk_frozen BK306.out 0; have hfz117_1 := blk_frozen BK306.out 1; have hfz117_2 := blk_frozen BK306.out 2; have hfz117_3 := blk_frozen BK306.out 3; obtain ⟨Ao118, co118, eo118⟩ := Kd.R_slice HO305.out; subst eo118) | ((with_reducible refine gate_callee (f := 7) rfl ?_); refine goesL_ (some 42) rfl rfl Try.func7 (by kernel_rfl) rfl #[.agg #[.int .i64 t300, .int .i64 t301, .int .u8 t302, .slice Ao118 t303.length co118]] rfl (by (try simp only [List.map_toArray, List.map_cons, List.map_nil]); first | done | rfl | (simp only [List.length_drop, List.length_take]; rfl)) ?_; (with_reducible refine (maptext_May.calls t300 t301 t302 _ _ t303 false _ ?side1 ?side2 A16.out).mono ?_); (case side1 => refine (Kd.R_reads' (e := 56) (base := w.heap.size) (ok := fun k_ => True) (n := t303.length) (c := co118) ?_).2.2; exact (by (with_reducible repeat (first | apply Kd.R_alloc | apply Kd.R_drewN | apply Kd.R_drew)); exact (Kd.R_mono (Kd.R_far (p := ⟨gb306, 3, none⟩) (Kd.R_far (p := ⟨gb306, 2, none⟩) (Kd.R_far (p := ⟨gb306, 1, none⟩) (Kd.R_far (p := ⟨gb306, 0, none⟩) (Kd.R_types HO305.out BK306.out (by decide)) (fun _ hk => hk.2) (.int .i64 t300)) (fun _ hk => hk.2) (.int .i64 t301)) (fun _ hk => hk.2) (.int .u8 t302)) (fun _ hk => hk.2) (.slice Ao118 t303.length co118)) (fun _ h_ => h_.1)))); (case side2 => exact (Kd.R_reads' HO305.out).2.1); rintro e w119 ⟨rfl, hb⟩; refine ⟨_, rfl, ?_⟩; have n0_ := Aside0.mk (Kd.R_below (by (with_reducible repeat (first | apply Kd.R_alloc | apply Kd.R_drewN | apply Kd.R_drew)); exact (Kd.R_mono (Kd.R_far (p := ⟨gb306, 3, none⟩) (Kd.R_far (p := ⟨gb306, 2, none⟩) (Kd.R_far (p := ⟨gb306, 1, none⟩) (Kd.R_far (p := ⟨gb306, 0, none⟩) (Kd.R_types HO305.out BK306.out (by decide)) (fun _ hk => hk.2) (.int .i64 t300)) (fun _ hk => hk.2) (.int .i64 t301)) (fun _ hk => hk.2) (.int .u8 t302)) (fun _ hk => hk.2) (.slice Ao118 t303.length co118)) (fun _ h_ => h_.1))) hb); have n1_ := Aside0.mk (blk_below (g := gb299) (o := .cells #[.int .i64 t296, .int .i64 t297, .bool t298] 26 (0, 0)) (by (with_reducible repeat (first | refine blk_drewN ?_ _ | refine blk_drew ?_ | refine blk_alloc ?_ _)); refine blk_far ?_ NB299_306.out _; (with_reducible repeat (first | refine blk_drewN ?_ _ | refine blk_drew ?_ | refine blk_alloc ?_ _)); refine blk_far ?_ NB299_306.out _; (with_reducible repeat (first | refine blk_drewN ?_ _ | refine blk_drew ?_ | refine blk_alloc ?_ _)); refine blk_far ?_ NB299_306.out _; (with_reducible repeat (first | refine blk_drewN ?_ _ | refine blk_drew ?_ | refine blk_alloc ?_ _)); refine blk_far ?_ NB299_306.out _; (with_reducible repeat (first | refine blk_drewN ?_ _ | refine blk_drew ?_ | refine blk_alloc ?_ _)); exact BK299.out) hb); have n2_ := Aside0.mk (blk_below (g := gb306) (o := .cells #[.int .i64 t300, .int .i64 t301, .int .u8 t302, .slice Ao118 t303.length co118] 30 (0, 0)) (by (with_reducible repeat (first | refine blk_drewN ?_ _ | refine blk_drew ?_ | refine blk_alloc ?_ _)); refine blk_put (cs := #[.int .i64 t300, .int .i64 t301, .int .u8 t302, .slice none 0 0]) ?_ 3 _ rfl; (with_reducible repeat (first | refine blk_drewN ?_ _ | refine blk_drew ?_ | refine blk_alloc ?_ _)); refine blk_put (cs := #[.int .i64 t300, .int .i64 t301, .int .u8 0, .slice none 0 0]) ?_ 2 _ rfl; (with_reducible repeat (first | refine blk_drewN ?_ _ | refine blk_drew ?_ | refine blk_alloc ?_ _)); refine blk_put (cs := #[.int .i64 t300, .int .i64 0, .int .u8 0, .slice none 0 0]) ?_ 1 _ rfl; (with_reducible repeat (first | refine blk_drewN ?_ _ | refine blk_drew ?_ | refine blk_alloc ?_ _)); refine blk_put (cs := #[.int .i64 0, .int .i64 0, .int .u8 0, .slice none 0 0]) ?_ 0 _ rfl; (with_reducible repeat (first | refine blk_drewN ?_ _ | refine blk_drew ?_ | refine blk_alloc ?_ _)); exact BK306.out) hb); have n3_ := Aside0.mk (below_step (by repeat (first | (with_reducible first | exact HB.out | apply below_alloc | apply pw_below_drewN | apply below_drew1 | refine below_set ?_ GE299.out | refine below_set ?_ GE306.out) | exact HB.out)) hb); clear HO305; clear BK299; clear BK306; clear HB; have HO305 := n0_; have BK299 := n1_; have BK306 := n2_; have HB := n3_; clear n0_ n1_ n2_ n3_; (try clear hb); (try clear hb2); (try clear hk); (try clear hi)))
          go_ret
          exact ⟨by first | rfl | (simp [errW_none, errW_some] <;> rfl) | (simp [*, errW_none, errW_some] <;> rfl), by repeat (first | (with_reducible first | exact HB.out | apply below_alloc | apply pw_below_drewN | apply below_drew1 | refine below_set ?_ GE299.out | refine below_set ?_ GE306.out) | exact HB.out)⟩

end Go.Proofs.Ytiaopkgmhpjeeaa.MBoundHolds

namespace Go.Proofs.Ytiaopkgmhpjeeaa.MBoundHolds
open Go.RowKit Go.Proofs.YtiaopkgmhpjeeaaW.PrintWords Go.Proofs.YtiaopkgmhpjeeaaW.PrintLast Go.Proofs.YtiaopkgmhpjeeaaW.PrintMore
set_option linter.unusedVariables false
set_option linter.unusedSimpArgs false

theorem w64 {n : Int} (h : -9223372036854775808 ≤ n ∧ n ≤ 9223372036854775807) : wrap64 n = n := by unfold wrap64; omega
theorem mn_eq (a b : Int) : mn a b = min a b := by unfold mn; omega
theorem mx_eq (a b : Int) : mx a b = max a b := by unfold mx; omega

/-- where the last one ends -/
def endL : List S56 → Int
  | [] => 0
  | [x] => x.f0 + x.f1
  | _ :: y :: l => endL (y :: l)
theorem endL_snoc (l : List S56) (x : S56) : endL (l ++ [x]) = x.f0 + x.f1 := by
  induction l with
  | nil => rfl
  | cons y l ih => cases l with
    | nil => rfl
    | cons z l => exact ih
def headSt : List S56 → Int
  | [] => -1
  | x :: _ => x.f2
/-- regions side by side from e on -/
def WF : Int → List S56 → Prop
  | _, [] => True
  | e, x :: l => x.f0 = e ∧ 1 ≤ x.f1 ∧ isB x.f2 = true ∧ headSt l ≠ x.f2 ∧ WF (e + x.f1) l
def tot : List S56 → Int
  | [] => 0
  | x :: l => x.f1 + tot l
theorem tot_app (a b : List S56) : tot (a ++ b) = tot a + tot b := by
  induction a with
  | nil => simp [tot]
  | cons x a ih => simp only [List.cons_append, tot, ih]; omega
def lastSt : List S56 → Int
  | [] => -1
  | [x] => x.f2
  | _ :: y :: l => lastSt (y :: l)
theorem lastSt_snoc (l : List S56) (x : S56) : lastSt (l ++ [x]) = x.f2 := by
  induction l with
  | nil => rfl
  | cons y l ih => cases l with
    | nil => rfl
    | cons z l => exact ih
theorem isB_pos {s : Int} (h : isB s = true) : s ≠ -1 := by
  intro e; subst e; simp [isB] at h
theorem headSt_snoc (l : List S56) (x : S56) : headSt (l ++ [x]) = if l = [] then x.f2 else headSt l := by
  cases l <;> rfl
theorem wf_snoc (l : List S56) : ∀ (e : Int) (x : S56), WF e (l ++ [x]) ↔ WF e l ∧ x.f0 = e + tot l ∧ 1 ≤ x.f1 ∧ isB x.f2 = true ∧ lastSt l ≠ x.f2 := by
  induction l with
  | nil =>
    intro e x
    simp only [List.nil_append, WF, tot, headSt, lastSt]
    constructor
    · rintro ⟨h1, h2, h3, h4, _⟩; exact ⟨trivial, by omega, h2, h3, h4⟩
    · rintro ⟨_, h1, h2, h3, h4⟩; exact ⟨by omega, h2, h3, h4, trivial⟩
  | cons y l ih =>
    intro e x
    simp only [List.cons_append, WF, ih, tot]
    have hl : lastSt (y :: l) = if l = [] then y.f2 else lastSt l := by cases l <;> rfl
    rw [hl, headSt_snoc]
    by_cases e0 : l = []
    · subst e0
      simp only [if_true, WF, tot, lastSt, headSt]
      constructor
      · rintro ⟨h1, h2, h3, h4, _, h6, h7, h8, h9⟩; exact ⟨⟨h1, h2, h3, (isB_pos h3).symm, trivial⟩, by omega, h7, h8, fun h => h4 h.symm⟩
      · rintro ⟨⟨h1, h2, h3, h4, _⟩, h6, h7, h8, h9⟩; exact ⟨h1, h2, h3, fun h => h9 h.symm, trivial, by omega, h7, h8, (isB_pos h8).symm⟩
    · simp only [if_neg e0]
      constructor
      · rintro ⟨h1, h2, h3, h4, h5, h6, h7, h8, h9⟩; exact ⟨⟨h1, h2, h3, h4, h5⟩, by omega, h7, h8, h9⟩
      · rintro ⟨⟨h1, h2, h3, h4, h5⟩, h6, h7, h8, h9⟩; exact ⟨h1, h2, h3, h4, h5, by omega, h7, h8, h9⟩
theorem wf_len : ∀ (l : List S56) (e : Int), WF e l → (l.length : Int) ≤ tot l
  | [], _, _ => by simp [tot]
  | x :: l, e, h => by
    have := wf_len l _ h.2.2.2.2
    have h2 := h.2.1
    simp only [List.length_cons, tot]; omega
theorem tot_nonneg (l : List S56) (e : Int) (h : WF e l) : 0 ≤ tot l := by have := wf_len l e h; omega
theorem wf_end : ∀ (l : List S56) (e : Int), WF e l → l ≠ [] → endL l = e + tot l
  | [], _, _, h => absurd rfl h
  | [x], e, h, _ => by simp only [endL, tot]; have := h.1; omega
  | x :: y :: l, e, h, _ => by
    have := wf_end (y :: l) _ h.2.2.2.2 (by simp)
    simp only [endL, tot] at this ⊢; omega
theorem wf_end0 (l : List S56) (h : WF 0 l) : endL l = tot l := by
  by_cases e : l = []
  · subst e; rfl
  · rw [wf_end l 0 h e]; omega
theorem mayL_iff : ∀ (l : List S56) (e p : Int), mayL e p l = true ↔ WF e l ∧ e + tot l ≤ max e 1099511627776 ∧ (l ≠ [] → p ≠ headSt l)
  | [], e, p => by simp [mayL, WF, tot]; omega
  | x :: l, e, p => by
    have ih := mayL_iff l (e + x.f1) x.f2
    simp only [mayL, Bool.and_eq_true, beq_iff_eq, decide_eq_true_eq, Bool.not_eq_true', beq_eq_false_iff_ne, WF, tot, ih, headSt]
    constructor
    · rintro ⟨⟨⟨⟨⟨h1, h2⟩, h3⟩, h4⟩, h5⟩, h6, h7, h8⟩
      refine ⟨⟨h1, h2, h4, ?_, h6⟩, by omega, fun _ => h5⟩
      by_cases e0 : l = []
      · subst e0; exact (isB_pos h4).symm
      · exact (h8 e0).symm
    · rintro ⟨⟨h1, h2, h3, h4, h5⟩, h6, h7⟩
      have := tot_nonneg l _ h5
      exact ⟨⟨⟨⟨⟨h1, h2⟩, by omega⟩, h3⟩, h7 (by simp)⟩, h5, by omega, fun _ h => h4 h.symm⟩
/-- well formed, and not too long -/
def Ok (l : List S56) : Prop := WF 0 l ∧ tot l ≤ 1099511627000
theorem Ok.may {l : List S56} (h : Ok l) : region_May.f l = some true := by
  have h1 := wf_len l 0 h.1
  have h2 := h.2
  unfold region_May.f
  rw [if_pos (by omega)]
  congr 1
  unfold mayB
  rw [mayL_iff]
  refine ⟨h.1, by omega, fun e => ?_⟩
  cases l with
  | nil => exact absurd rfl e
  | cons x l => exact (isB_pos h.1.2.2.1).symm
/-- the status at a place -/
def statF : List S56 → Int → Int
  | [], _ => 0
  | r :: l, x => if r.f0 ≤ x ∧ x < r.f0 + r.f1 then r.f2 else statF l x
theorem statF_snoc (l : List S56) (r : S56) (x : Int) (e : Int) (h : WF e (l ++ [r])) : statF (l ++ [r]) x = if r.f0 ≤ x ∧ x < r.f0 + r.f1 then r.f2 else statF l x := by
  induction l generalizing e with
  | nil => simp [statF]
  | cons y l ih =>
    simp only [List.cons_append, statF]
    have h' := h
    simp only [List.cons_append, WF] at h
    have := ih (e + y.f1) h.2.2.2.2
    rw [this]
    have hs := (wf_snoc (y :: l) e r).1 h'
    have ht := tot_nonneg l _ ((wf_snoc l _ r).1 h.2.2.2.2).1
    simp only [tot] at hs
    by_cases c1 : y.f0 ≤ x ∧ x < y.f0 + y.f1
    · rw [if_pos c1, if_pos c1, if_neg (by omega)]
    · rw [if_neg c1, if_neg c1]
end Go.Proofs.Ytiaopkgmhpjeeaa.MBoundHolds

namespace Go.Proofs.Ytiaopkgmhpjeeaa.MBoundHolds
open Go.RowKit Go.Proofs.YtiaopkgmhpjeeaaW.PrintWords Go.Proofs.YtiaopkgmhpjeeaaW.PrintLast Go.Proofs.YtiaopkgmhpjeeaaW.PrintMore
set_option linter.unusedVariables false
set_option linter.unusedSimpArgs false

theorem rd_nat (l : List S56) (j : Nat) (h : j < l.length) : rd_T56 l (j : Int) = l[j] := by unfold rd_T56; simp [List.getD, h]
theorem rd_last (l : List S56) (y : S56) : rd_T56 (l ++ [y]) (l.length : Int) = y := by rw [rd_nat _ _ (by simp)]; simp
theorem end_ok (l : List S56) (h : Ok l) : region_end.f l = some (tot l) := by
  unfold region_end.f
  have hl := wf_len l 0 h.1
  have h2 := h.2
  by_cases e : l = []
  · subst e; simp [tot]
  · rw [if_neg (by have := List.length_pos_iff.2 e; omega)]
    obtain ⟨i, y, rfl⟩ : ∃ i y, l = i ++ [y] := by rcases List.eq_nil_or_concat l with h | ⟨i, y, h⟩; exact absurd h e; exact ⟨i, y, by simpa using h⟩
    have hw := (wf_snoc i 0 y).1 h.1
    rw [tot_app] at h2 ⊢
    simp only [tot] at h2 ⊢
    have e1 : wrap64 (((i ++ [y]).length : Int) - 1) = (i.length : Int) := by
      simp only [List.length_append, List.length_cons, List.length_nil] at hl ⊢
      rw [w64 (by rw [tot_app] at hl; simp only [tot] at hl; omega)]; omega
    rw [e1, if_pos (by omega), if_pos (by simp; omega), rd_last]
    have := tot_nonneg i 0 hw.1
    rw [w64 (by omega)]
    congr 1; omega

theorem push_ok (l : List S56) (a1 a2 : Int) (h : WF 0 l) (h0 : 0 ≤ a1) (hb : tot l + a1 ≤ 1099511627000) (hs : isB a2 = true) :
    ∃ l', region_Push.f l a1 a2 = some l' ∧ WF 0 l' ∧ tot l' = tot l + a1 ∧ ∀ x, statF l' x = if tot l ≤ x ∧ x < tot l + a1 then a2 else statF l x := by
  unfold region_Push.f
  by_cases c0 : a1 < 1
  · rw [if_pos c0]
    exact ⟨l, rfl, h, by omega, fun x => by rw [if_neg (by omega)]⟩
  rw [if_neg c0]
  have hl := wf_len l 0 h
  have ht := tot_nonneg l 0 h
  have he := end_ok l ⟨h, by omega⟩
  rcases List.eq_nil_or_concat l with e | ⟨i, y, e⟩
  · subst e
    have e1 : wrap64 ((([] : List S56).length : Int) - 1) = -1 := by simp [wrap64]
    rw [e1, if_neg (by omega), he]
    refine ⟨[⟨tot [], a1, a2⟩], by simp, ⟨by simp [tot], by simp only; omega, hs, (isB_pos hs).symm, trivial⟩, by simp [tot], fun x => ?_⟩
    simp [statF, tot]
  · obtain rfl : l = i ++ [y] := by simpa using e
    have hw := (wf_snoc i 0 y).1 h
    rw [tot_app] at hb hl
    have hti := tot_nonneg i 0 hw.1
    simp only [tot, List.length_append, List.length_cons, List.length_nil] at hb hl
    have e1 : wrap64 (((i ++ [y]).length : Int) - 1) = (i.length : Int) := by
      simp only [List.length_append, List.length_cons, List.length_nil]
      rw [w64 (by omega)]; omega
    rw [e1, if_pos (by omega), if_pos (by omega), if_pos (by simp; omega), rd_last, he]
    by_cases c1 : y.f2 = a2
    · rw [if_pos c1]
      have e2 : (i ++ [y]).set (i.length : Int).toNat ⟨y.f0, wrap64 (y.f1 + a1), y.f2⟩ = i ++ [⟨y.f0, y.f1 + a1, y.f2⟩] := by
        rw [w64 (by omega)]; simp
      rw [e2]
      have hw' : WF 0 (i ++ [⟨y.f0, y.f1 + a1, y.f2⟩]) := (wf_snoc i 0 _).2 ⟨hw.1, hw.2.1, by simp only; omega, hw.2.2.2.1, hw.2.2.2.2⟩
      refine ⟨_, rfl, hw', by simp only [tot_app, tot]; omega, fun x => ?_⟩
      have et : tot (i ++ [y]) = tot i + y.f1 := by rw [tot_app]; simp [tot]
      rw [statF_snoc _ _ _ _ hw', statF_snoc _ _ _ _ h, et]
      have hy := hw.2.1
      by_cases d1 : y.f0 ≤ x ∧ x < y.f0 + (y.f1 + a1)
      · rw [if_pos d1]
        by_cases d2 : tot i + y.f1 ≤ x ∧ x < tot i + y.f1 + a1
        · rw [if_pos d2]; exact c1
        · rw [if_neg d2, if_pos (by omega)]
      · rw [if_neg d1, if_neg (by omega), if_neg (by omega)]
    · rw [if_neg c1]
      simp only [Option.bind_some]
      rw [if_pos (by simp only [List.length_append, List.length_cons, List.length_nil]; omega)]
      have hw' : WF 0 ((i ++ [y]) ++ [⟨tot (i ++ [y]), a1, a2⟩]) := (wf_snoc _ 0 _).2 ⟨h, by simp, by simp only; omega, hs, by rw [lastSt_snoc]; exact c1⟩
      refine ⟨_, rfl, hw', by rw [tot_app (i ++ [y])]; simp [tot], fun x => ?_⟩
      rw [statF_snoc _ _ _ _ hw']

theorem statF_cut (e : Int) : ∀ (l : List S56) (b x : Int), WF b l → x < b → statF l x = 0
  | [], _, _, _, _ => rfl
  | r :: l, b, x, h, hx => by
    have h1 := h.1; have h2 := h.2.1
    simp only [statF]; rw [if_neg (by omega)]
    exact statF_cut e l _ x h.2.2.2.2 (by omega)

/-- the loop of Set, from a region on -/
theorem setLoop_ok (st fr tt N : Int) (hst : isB st = true) (hft : fr ≤ tt) (hfr : 0 ≤ fr) (htt : tt ≤ N) (hN : N ≤ 1099511627000) : ∀ (rest out : List S56) (p : Int), WF p rest → p + tot rest = N → WF 0 out → tot out = p → 0 ≤ p →
    ∃ l', setLoop st fr tt out rest = some l' ∧ WF 0 l' ∧ tot l' = N ∧ ∀ x, statF l' x = if p ≤ x then (if x < N then (if fr ≤ x ∧ x < tt then st else statF rest x) else statF out x) else statF out x
  | [], out, p, _, hp, ho, hto, h0 => by
    simp only [tot] at hp
    refine ⟨out, rfl, ho, by omega, fun x => ?_⟩
    by_cases c : p ≤ x
    · rw [if_pos c, if_neg (by omega)]
    · rw [if_neg c]
  | r :: rest, out, p, hr, hp, ho, hto, h0 => by
    obtain ⟨hr0, hr1, hr2, hr3, hr4⟩ := hr
    simp only [tot] at hp
    have htr := tot_nonneg rest _ hr4
    have eE : wrap64 (r.f0 + r.f1) = r.f0 + r.f1 := w64 (by omega)
    simp only [setLoop, eE, mn_eq, mx_eq]
    obtain ⟨A, hA⟩ : ∃ A, min (max fr r.f0) (r.f0 + r.f1) = A := ⟨_, rfl⟩
    obtain ⟨B, hB⟩ : ∃ B, min (max tt r.f0) (r.f0 + r.f1) = B := ⟨_, rfl⟩
    rw [hA, hB]
    rw [w64 (n := A - r.f0) (by omega), w64 (n := B - A) (by omega), w64 (n := r.f0 + r.f1 - B) (by omega)]
    obtain ⟨o1, e1, w1, t1, s1⟩ := push_ok out (A - r.f0) r.f2 ho (by omega) (by omega) hr2
    obtain ⟨o2, e2, w2, t2, s2⟩ := push_ok o1 (B - A) st w1 (by omega) (by omega) hst
    obtain ⟨o3, e3, w3, t3, s3⟩ := push_ok o2 (r.f0 + r.f1 - B) r.f2 w2 (by omega) (by omega) hr2
    obtain ⟨l', e4, w4, t4, s4⟩ := setLoop_ok st fr tt N hst hft hfr htt hN rest o3 (p + r.f1) hr4 (by omega) w3 (by omega) (by omega)
    refine ⟨l', by rw [e1]; simp only [Option.bind_some]; rw [e2]; simp only [Option.bind_some]; rw [e3]; simp only [Option.bind_some]; exact e4, w4, t4, fun x => ?_⟩
    rw [s4, s3, s2, s1]
    simp only [statF]
    by_cases c1 : p + r.f1 ≤ x
    · rw [if_pos c1, if_pos (show p ≤ x by omega)]
      by_cases c2 : x < N
      · rw [if_pos c2, if_pos c2, if_neg (show ¬ (r.f0 ≤ x ∧ x < r.f0 + r.f1) by omega)]
      · rw [if_neg c2, if_neg c2, if_neg (by omega), if_neg (by omega), if_neg (by omega)]
    · rw [if_neg c1]
      by_cases c3 : p ≤ x
      · rw [if_pos c3, if_pos (show x < N by omega), if_pos (show r.f0 ≤ x ∧ x < r.f0 + r.f1 by omega)]
        by_cases c4 : fr ≤ x ∧ x < tt
        · rw [if_pos c4, if_neg (by omega), if_pos (by omega)]
        · rw [if_neg c4]
          by_cases c5 : tot o2 ≤ x ∧ x < tot o2 + (r.f0 + r.f1 - B)
          · rw [if_pos c5]
          · rw [if_neg c5, if_neg (by omega), if_pos (by omega)]
      · rw [if_neg c3, if_neg (by omega), if_neg (by omega), if_neg (by omega)]

/-- Set: what it makes of regions that may be -/
theorem set_ok (l : List S56) (pos n st : Int) (h : Ok l) (hp : 0 ≤ pos) (hn : 0 ≤ n) (hst : isB st = true) (hpb : pos ≤ tot l) (hnb : pos + n ≤ tot l) :
    ∃ l', region_Set.f l pos n st = some l' ∧ Ok l' ∧ tot l' = tot l ∧ ∀ x, 0 ≤ x → x < tot l → statF l' x = if pos ≤ x ∧ x < pos + n then st else statF l x := by
  unfold region_Set.f
  rw [h.may]
  simp only [Option.bind_some, Bool.true_and, decide_eq_true hp, decide_eq_true hn, hst, if_true]
  rw [end_ok l h]
  simp only [Option.bind_some, mn_eq]
  have h2 := h.2
  have ht := tot_nonneg l 0 h.1
  rw [show min pos (tot l) = pos by omega, w64 (n := tot l - pos) (by omega), show min n (tot l - pos) = n by omega, w64 (n := pos + n) (by omega)]
  obtain ⟨l', e, w, t, s⟩ := setLoop_ok st pos (pos + n) (tot l) hst (by omega) hp hnb h2 l [] 0 h.1 (by omega) trivial rfl (by omega)
  refine ⟨l', e, ⟨w, by omega⟩, t, fun x hx hxN => ?_⟩
  rw [s, if_pos hx, if_pos hxN]
end Go.Proofs.Ytiaopkgmhpjeeaa.MBoundHolds

namespace Go.Proofs.Ytiaopkgmhpjeeaa.MBoundHolds
open Go.RowKit Go.Proofs.YtiaopkgmhpjeeaaW.PrintWords Go.Proofs.YtiaopkgmhpjeeaaW.PrintLast Go.Proofs.YtiaopkgmhpjeeaaW.PrintMore
set_option linter.unusedVariables false
set_option linter.unusedSimpArgs false

theorem wf_bound : ∀ (l : List S56) (e : Int), WF e l → ∀ r ∈ l, e ≤ r.f0 ∧ 1 ≤ r.f1 ∧ r.f0 + r.f1 ≤ e + tot l ∧ isB r.f2 = true
  | [], _, _, _, h => by cases h
  | x :: l, e, h, r, hr => by
    have ht := tot_nonneg l _ h.2.2.2.2
    have h0 := h.1; have h1 := h.2.1
    simp only [tot]
    rcases List.mem_cons.1 hr with rfl | hr
    · exact ⟨by omega, h1, by omega, h.2.2.1⟩
    · have := wf_bound l _ h.2.2.2.2 r hr
      exact ⟨by omega, this.2.1, by omega, this.2.2.2⟩
theorem drop_rd (l : List S56) (i : Nat) (h : i < l.length) : l.drop i = rd_T56 l (i : Int) :: l.drop (i + 1) := by
  rw [List.drop_eq_getElem_cons h, rd_nat _ _ h]
theorem statF_head (l : List S56) (e : Int) (h : WF e l) (hl : l ≠ []) : statF l e = headSt l := by
  cases l with
  | nil => exact absurd rfl hl
  | cons x l => simp only [statF, headSt]; rw [if_pos]; have := h.1; have := h.2.1; omega
theorem statF_lt : ∀ (l : List S56) (e x : Int), WF e l → x < e → statF l x = 0 := fun l e x h hx => statF_cut e l e x h hx
theorem isB_zero : isB 0 = false := by decide

/-- the first region of a status, from a place on -/
def findF (st fr : Int) : List S56 → Int × Int × Int × Bool
  | [] => (0, 0, 0, false)
  | r :: l => if r.f2 = st ∧ r.f0 + r.f1 > fr then (max r.f0 fr, r.f0 + r.f1 - max r.f0 fr, st, true) else findF st fr l
theorem first_l0 (st fr : Int) (l : List S56) (h : Ok l) (hf : 0 ≤ fr ∧ fr ≤ 1099511627776) : ∀ (d i k : Nat), l.length - i = d → i ≤ l.length → d < k → region_First.l0 k st fr l (l.length : Int) (i : Int) = some (findF st fr (l.drop i))
  | 0, i, k, hd, hi, hk => by
    obtain ⟨k, rfl⟩ : ∃ m, k = m + 1 := ⟨k - 1, by omega⟩
    simp only [region_First.l0]
    rw [if_neg (by omega), List.drop_of_length_le (by omega)]; rfl
  | d + 1, i, k, hd, hi, hk => by
    obtain ⟨k, rfl⟩ : ∃ m, k = m + 1 := ⟨k - 1, by omega⟩
    have hlt : i < l.length := by omega
    have hw := wf_bound l 0 h.1 (rd_T56 l (i : Int)) (by rw [rd_nat _ _ hlt]; exact List.getElem_mem _)
    have hlen := wf_len l 0 h.1
    have h2 := h.2
    simp only [region_First.l0]
    rw [if_pos (by omega), if_pos (by omega), if_pos (by omega), drop_rd l i hlt, w64 (n := (i : Int) + 1) (by omega), w64 (n := (rd_T56 l (i : Int)).f0 + (rd_T56 l (i : Int)).f1) (by omega)]
    have ih := first_l0 st fr l h hf d (i + 1) k (by omega) (by omega) (by omega)
    rw [show ((i + 1 : Nat) : Int) = (i : Int) + 1 by omega] at ih
    simp only [findF, mx_eq]
    by_cases c1 : (rd_T56 l (i : Int)).f2 = st
    · rw [if_pos c1]
      by_cases c2 : (rd_T56 l (i : Int)).f0 + (rd_T56 l (i : Int)).f1 > fr
      · rw [if_pos c2, if_pos ⟨c1, c2⟩, w64 (by omega)]
      · rw [if_neg c2, if_neg (fun x => c2 x.2)]; exact ih
    · rw [if_neg c1, if_neg (fun x => c1 x.1)]; exact ih
theorem first_ok (k : Nat) (st fr : Int) (l : List S56) (h : Ok l) (hf : 0 ≤ fr ∧ fr ≤ 1099511627776) (hk : l.length < k) : region_First.f k l st fr = some (findF st fr l) := by
  unfold region_First.f
  rw [h.may]
  simp only [Option.bind_some, if_true]
  exact first_l0 st fr l h hf l.length 0 k (by omega) (by omega) hk
/-- what is found -/
structure FoundF (st fr e N : Int) (f : Int → Int) (p sz : Int) : Prop where
  p0 : fr ≤ p
  p1 : e ≤ p
  s1 : 1 ≤ sz
  q1 : p + sz ≤ N
  all : ∀ x, p ≤ x → x < p + sz → f x = st
  pre : ∀ x, e ≤ x → fr ≤ x → x < p → f x ≠ st
  beh : p + sz < N → f (p + sz) ≠ st
theorem findF_spec (st fr : Int) : ∀ (l : List S56) (e : Int), WF e l →
    (findF st fr l = (0, 0, 0, false) ∧ ∀ x, e ≤ x → fr ≤ x → x < e + tot l → statF l x ≠ st) ∨
    ∃ p sz, findF st fr l = (p, sz, st, true) ∧ FoundF st fr e (e + tot l) (statF l) p sz
  | [], e, _ => .inl ⟨rfl, fun x h1 h2 h3 => by simp only [tot] at h3; omega⟩
  | r :: l, e, h => by
    have h0 := h.1; have h1 := h.2.1
    have ht := tot_nonneg l _ h.2.2.2.2
    simp only [findF, tot]
    by_cases c : r.f2 = st ∧ r.f0 + r.f1 > fr
    · rw [if_pos c]
      refine .inr ⟨_, _, rfl, by omega, by omega, by omega, by omega, fun x hx1 hx2 => ?_, fun x hx1 hx2 hx3 => by omega, fun hq => ?_⟩
      · simp only [statF]; rw [if_pos (by omega)]; exact c.1
      · simp only [statF]; rw [if_neg (by omega)]
        have e1 : max r.f0 fr + (r.f0 + r.f1 - max r.f0 fr) = e + r.f1 := by omega
        rw [e1]
        by_cases e0 : l = []
        · subst e0; simp only [tot] at hq; omega
        · rw [statF_head l _ h.2.2.2.2 e0, ← c.1]; exact h.2.2.2.1
    · rw [if_neg c]
      have hne : ∀ x, e ≤ x → fr ≤ x → x < e + r.f1 → r.f2 ≠ st := fun x a b d e' => c ⟨e', by omega⟩
      rcases findF_spec st fr l (e + r.f1) h.2.2.2.2 with ⟨e1, hn⟩ | ⟨p, sz, e1, F⟩
      · refine .inl ⟨e1, fun x hx1 hx2 hx3 => ?_⟩
        simp only [statF]
        by_cases d : r.f0 ≤ x ∧ x < r.f0 + r.f1
        · rw [if_pos d]; exact hne x hx1 hx2 (by omega)
        · rw [if_neg d]; exact hn x (by omega) hx2 (by omega)
      · have := F.p1; have := F.s1; have := F.q1
        refine .inr ⟨p, sz, e1, F.p0, by omega, F.s1, by omega, fun x hx1 hx2 => ?_, fun x hx1 hx2 hx3 => ?_, fun hq => ?_⟩
        · simp only [statF]; rw [if_neg (by omega)]; exact F.all x hx1 hx2
        · simp only [statF]
          by_cases d : r.f0 ≤ x ∧ x < r.f0 + r.f1
          · rw [if_pos d]; exact hne x hx1 hx2 (by omega)
          · rw [if_neg d]; exact F.pre x (by omega) hx2 hx3
        · simp only [statF]; rw [if_neg (by omega)]; exact F.beh (by omega)

/-- what is found from the end ahead -/
structure FoundL (st tt e N : Int) (f : Int → Int) (p sz : Int) : Prop where
  p1 : e ≤ p
  s1 : 1 ≤ sz
  q0 : p + sz ≤ tt
  q1 : p + sz ≤ N
  all : ∀ x, p ≤ x → x < p + sz → f x = st
  beh : ∀ x, p + sz ≤ x → x < tt → x < N → f x ≠ st
  pre : e < p → f (p - 1) ≠ st
theorem statF_lastSt (l : List S56) (e : Int) (h : WF e l) (hl : l ≠ []) : statF l (e + tot l - 1) = lastSt l := by
  rcases List.eq_nil_or_concat l with e0 | ⟨i, y, e0⟩
  · exact absurd e0 hl
  · obtain rfl : l = i ++ [y] := by simpa using e0
    have hw := (wf_snoc i e y).1 h
    rw [statF_snoc _ _ _ _ h, lastSt_snoc, tot_app, if_pos]
    simp only [tot]; omega
theorem lastOf_spec (st tt : Int) (htt : tt ≤ 1099511627776) : ∀ (n : Nat) (l : List S56) (e : Int), l.length ≤ n → WF e l → 0 ≤ e → e + tot l ≤ 1099511627000 →
    (lastOf st tt l.reverse = (0, 0, 0, false) ∧ ∀ x, e ≤ x → x < tt → x < e + tot l → statF l x ≠ st) ∨
    ∃ p sz, lastOf st tt l.reverse = (p, sz, st, true) ∧ FoundL st tt e (e + tot l) (statF l) p sz
  | 0, l, e, hn, h, he, hb => by
    obtain rfl : l = [] := List.eq_nil_of_length_eq_zero (by omega)
    exact .inl ⟨rfl, fun x h1 h2 h3 => by simp only [tot] at h3; omega⟩
  | n + 1, l, e, hn, h, he, hb => by
    rcases List.eq_nil_or_concat l with e0 | ⟨i, y, e0⟩
    · subst e0; exact .inl ⟨rfl, fun x h1 h2 h3 => by simp only [tot] at h3; omega⟩
    · obtain rfl : l = i ++ [y] := by simpa using e0
      have hw := (wf_snoc i e y).1 h
      have hti := tot_nonneg i _ hw.1
      have et : tot (i ++ [y]) = tot i + y.f1 := by rw [tot_app]; simp [tot]
      rw [et] at hb ⊢
      rw [List.reverse_append]
      simp only [List.reverse_cons, List.reverse_nil, List.nil_append, List.cons_append, lastOf, mn_eq]
      have hs := fun x => statF_snoc i y x e h
      have hy0 := hw.2.1; have hy1 := hw.2.2.1
      by_cases c : y.f2 = st ∧ y.f0 < tt
      · rw [if_pos c]
        by_cases cx : -9223372036854775808 ≤ tt - y.f0
        · rw [w64 (by omega)]
          refine .inr ⟨_, _, rfl, by omega, by omega, by omega, by omega, fun x hx1 hx2 => ?_, fun x hx1 hx2 hx3 => by omega, fun hq => ?_⟩
          · rw [hs, if_pos (by omega)]; exact c.1
          · rw [hs, if_neg (by omega)]
            have e1 : y.f0 - 1 = e + tot i - 1 := by omega
            by_cases e0 : i = []
            · subst e0; simp only [tot] at hy0; omega
            · rw [e1, statF_lastSt i e hw.1 e0, ← c.1]; exact hw.2.2.2.2
        · omega
      · rw [if_neg c]
        have hne : ∀ x, y.f0 ≤ x → x < tt → y.f2 ≠ st := fun x a b e' => c ⟨e', by omega⟩
        rcases lastOf_spec st tt htt n i e (by simp at hn; omega) hw.1 he (by omega) with ⟨e1, hn⟩ | ⟨p, sz, e1, F⟩
        · refine .inl ⟨e1, fun x hx1 hx2 hx3 => ?_⟩
          rw [hs]
          by_cases d : y.f0 ≤ x ∧ x < y.f0 + y.f1
          · rw [if_pos d]; exact hne x d.1 hx2
          · rw [if_neg d]; exact hn x hx1 hx2 (by omega)
        · have := F.p1; have := F.s1; have := F.q1
          refine .inr ⟨p, sz, e1, F.p1, F.s1, F.q0, by omega, fun x hx1 hx2 => ?_, fun x hx1 hx2 hx3 => ?_, fun hq => ?_⟩
          · rw [hs, if_neg (by omega)]; exact F.all x hx1 hx2
          · rw [hs]
            by_cases d : y.f0 ≤ x ∧ x < y.f0 + y.f1
            · rw [if_pos d]; exact hne x d.1 hx2
            · rw [if_neg d]; exact F.beh x hx1 hx2 (by omega)
          · rw [hs, if_neg (by omega)]; exact F.pre hq
theorem last_ok (st tt : Int) (l : List S56) (h : Ok l) : region_Last.f l st tt = some (lastOf st tt l.reverse) := by
  unfold region_Last.f
  rw [h.may]; rfl
end Go.Proofs.Ytiaopkgmhpjeeaa.MBoundHolds

namespace Go.Proofs.Ytiaopkgmhpjeeaa.MBoundHolds
open Go.RowKit Go.Proofs.YtiaopkgmhpjeeaaW.PrintWords Go.Proofs.YtiaopkgmhpjeeaaW.PrintLast Go.Proofs.YtiaopkgmhpjeeaaW.PrintMore
set_option linter.unusedVariables false
set_option linter.unusedSimpArgs false

/-- the region of a place -/
def atF (pos : Int) : List S56 → Int × Int × Int × Bool
  | [] => (0, 0, 0, false)
  | r :: l => if pos ≥ r.f0 ∧ pos < r.f0 + r.f1 then (r.f0, r.f1, r.f2, true) else atF pos l
theorem at_l0 (pos : Int) (l : List S56) (h : Ok l) : ∀ (d i k : Nat), l.length - i = d → i ≤ l.length → d < k → region_At.l0 k pos l (l.length : Int) (i : Int) = some (atF pos (l.drop i))
  | 0, i, k, hd, hi, hk => by
    obtain ⟨k, rfl⟩ : ∃ m, k = m + 1 := ⟨k - 1, by omega⟩
    simp only [region_At.l0]
    rw [if_neg (by omega), List.drop_of_length_le (by omega)]; rfl
  | d + 1, i, k, hd, hi, hk => by
    obtain ⟨k, rfl⟩ : ∃ m, k = m + 1 := ⟨k - 1, by omega⟩
    have hlt : i < l.length := by omega
    have hw := wf_bound l 0 h.1 (rd_T56 l (i : Int)) (by rw [rd_nat _ _ hlt]; exact List.getElem_mem _)
    have hlen := wf_len l 0 h.1
    have h2 := h.2
    simp only [region_At.l0]
    rw [if_pos (by omega), if_pos (by omega), if_pos (by omega), drop_rd l i hlt, w64 (n := (i : Int) + 1) (by omega), w64 (n := (rd_T56 l (i : Int)).f0 + (rd_T56 l (i : Int)).f1) (by omega)]
    have ih := at_l0 pos l h d (i + 1) k (by omega) (by omega) (by omega)
    rw [show ((i + 1 : Nat) : Int) = (i : Int) + 1 by omega] at ih
    simp only [atF]
    by_cases c1 : pos ≥ (rd_T56 l (i : Int)).f0
    · rw [if_pos c1]
      by_cases c2 : pos < (rd_T56 l (i : Int)).f0 + (rd_T56 l (i : Int)).f1
      · rw [if_pos c2, if_pos ⟨c1, c2⟩]
      · rw [if_neg c2, if_neg (fun x => c2 x.2)]; exact ih
    · rw [if_neg c1, if_neg (fun x => c1 x.1)]; exact ih
structure FoundA (pos e N : Int) (f : Int → Int) (p sz s : Int) : Prop where
  p0 : e ≤ p
  p1 : p ≤ pos
  q0 : pos < p + sz
  q1 : p + sz ≤ N
  all : ∀ x, p ≤ x → x < p + sz → f x = s
  pre : e < p → f (p - 1) ≠ s
  beh : p + sz < N → f (p + sz) ≠ s
theorem atF_spec (pos : Int) : ∀ (l : List S56) (e b : Int), WF e l → e ≤ pos → pos < e + tot l → b ≠ headSt l →
    ∃ p sz s, atF pos l = (p, sz, s, true) ∧ FoundA pos e (e + tot l) (statF l) p sz s ∧ (p = e → s = headSt l)
  | [], e, b, _, h1, h2, _ => by simp only [tot] at h2; omega
  | r :: l, e, b, h, h1, h2, hb => by
    have h0 := h.1; have hr1 := h.2.1
    have ht := tot_nonneg l _ h.2.2.2.2
    simp only [tot] at h2 ⊢
    simp only [atF]
    by_cases c : pos ≥ r.f0 ∧ pos < r.f0 + r.f1
    · rw [if_pos c]
      refine ⟨_, _, _, rfl, ⟨by omega, by omega, by omega, by omega, fun x a d => ?_, fun hq => by omega, fun hq => ?_⟩, fun _ => rfl⟩
      · simp only [statF]; rw [if_pos (by omega)]
      · simp only [statF]; rw [if_neg (by omega), h0]
        by_cases e0 : l = []
        · subst e0; simp only [tot] at hq; omega
        · rw [statF_head l _ h.2.2.2.2 e0]; exact h.2.2.2.1
    · rw [if_neg c]
      obtain ⟨p, sz, s, e1, F, G⟩ := atF_spec pos l (e + r.f1) r.f2 h.2.2.2.2 (by omega) (by omega) (Ne.symm h.2.2.2.1)
      have := F.p0; have := F.q1; have := F.p1; have := F.q0
      refine ⟨p, sz, s, e1, ⟨by omega, F.p1, F.q0, by omega, fun x a d => ?_, fun hq => ?_, fun hq => ?_⟩, fun he => by omega⟩
      · simp only [statF]; rw [if_neg (by omega)]; exact F.all x a d
      · simp only [statF]
        by_cases d : e + r.f1 < p
        · rw [if_neg (by omega)]; exact F.pre d
        · rw [if_pos (by omega), G (by omega)]; exact Ne.symm h.2.2.2.1
      · simp only [statF]; rw [if_neg (by omega)]; exact F.beh (by omega)
theorem at_ok (k : Nat) (pos : Int) (l : List S56) (h : Ok l) (hk : l.length < k) : region_At.f k l pos = some (atF pos l) := by
  unfold region_At.f
  rw [h.may]
  simp only [Option.bind_some, if_true]
  exact at_l0 pos l h l.length 0 k (by omega) (by omega) hk
theorem End_ok (l : List S56) (h : Ok l) : region_End.f l = some (tot l) := by
  unfold region_End.f
  rw [h.may]
  simp only [Option.bind_some, if_true, end_ok l h]
end Go.Proofs.Ytiaopkgmhpjeeaa.MBoundHolds

namespace Go.Proofs.Ytiaopkgmhpjeeaa.MBoundHolds
open Go.RowKit Go.Proofs.YtiaopkgmhpjeeaaW.PrintWords Go.Proofs.YtiaopkgmhpjeeaaW.PrintLast Go.Proofs.YtiaopkgmhpjeeaaW.PrintMore
set_option linter.unusedVariables false
set_option linter.unusedSimpArgs false

/-- an act's places: all of one status; where it begins and ends -/
structure Span (back : Bool) (f : Int → Int) (N st fr p q : Int) : Prop where
  p0 : 0 ≤ p
  pq : p < q
  qN : q ≤ N
  all : ∀ x, p ≤ x → x < q → f x = st
  left : p % 8 = 0 ∨ p = 0 ∨ f (p - 1) ≠ st ∨ p = fr
  right : q % 8 = 0 ∨ q = N ∨ f q ≠ st ∨ q = fr
  fwd : back = false → fr ≤ p
  bwd : back = true → q ≤ fr

theorem seek_cut (k : Nat) (c R : Int) (back : Bool) (m0 m1 m2 : Int) (l : List S56) (h : Ok l) (hk : l.length < k) (st fr : Int) (hfr : 0 ≤ fr ∧ fr ≤ tot l) (more : Int) (hm : 0 ≤ more ∧ more ≤ 1000) :
    (plan_seek.f k c R back m0 m1 m2 l st fr = some (0, 0, 0, false) ∧ (∀ x, 0 ≤ x → x < tot l → (back = false → fr ≤ x) → (back = true → x < fr) → statF l x ≠ st)) ∨
    ∃ a b p s, plan_seek.f k c R back m0 m1 m2 l st fr = some (a, b, st, true) ∧ plan_cut.f c R back a b st more = some (p, s) ∧ Span back (statF l) (tot l) st fr p (p + s) := by
  have h2 := h.2
  cases back with
  | false =>
    simp only [plan_seek.f, plan_cut.f, Bool.false_eq_true, if_false]
    rw [first_ok k st fr l h (by omega) hk]
    rcases findF_spec st fr l 0 h.1 with ⟨e, hn⟩ | ⟨a, b, e, F⟩
    · refine .inl ⟨by rw [e]; rfl, fun x h0 h1 h2 _ => hn x h0 (h2 trivial) (by omega)⟩
    · have := F.p0; have := F.p1; have := F.s1; have := F.q1
      rw [e]
      refine .inr ⟨a, b, _, _, rfl, rfl, ?_⟩
      rw [mn_eq, Int.tdiv_eq_ediv_of_nonneg (by omega), w64 (n := a / 8) (by omega), w64 (n := a / 8 + 1) (by omega), w64 (n := a / 8 + 1 + more) (by omega), w64 (n := (a / 8 + 1 + more) * 8) (by omega), w64 (n := (a / 8 + 1 + more) * 8 - a) (by omega)]
      refine ⟨by omega, by omega, by omega, fun x a d => F.all x a (by omega), ?_, ?_, fun _ => F.p0, (fun h => by cases h)⟩
      · by_cases d : a = fr
        · exact .inr (.inr (.inr d))
        · by_cases d0 : a = 0
          · exact .inr (.inl d0)
          · exact .inr (.inr (.inl (F.pre (a - 1) (by omega) (by omega) (by omega))))
      · by_cases d : b ≤ (a / 8 + 1 + more) * 8 - a
        · by_cases d0 : a + b = tot l
          · exact .inr (.inl (by omega))
          · have := F.beh (by omega)
            refine .inr (.inr (.inl ?_))
            rw [show a + min b ((a / 8 + 1 + more) * 8 - a) = a + b by omega]; exact this
        · exact .inl (by omega)
  | true =>
    simp only [plan_seek.f, plan_cut.f, if_true]
    rw [last_ok st fr l h]
    rcases lastOf_spec st fr (by omega) l.length l 0 (Nat.le_refl _) h.1 (by omega) (by omega) with ⟨e, hn⟩ | ⟨a, b, e, F⟩
    · refine .inl ⟨by rw [e]; rfl, fun x h0 h1 _ h2 => hn x h0 (h2 trivial) (by omega)⟩
    · have := F.p1; have := F.s1; have := F.q1; have := F.q0
      rw [e]
      refine .inr ⟨a, b, _, _, rfl, rfl, ?_⟩
      rw [mx_eq, w64 (n := a + b) (by omega), w64 (n := a + b - 1) (by omega), Int.tdiv_eq_ediv_of_nonneg (by omega), w64 (n := (a + b - 1) / 8) (by omega), w64 (n := (a + b - 1) / 8 * 8) (by omega), w64 (n := more * 8) (by omega), w64 (n := (a + b - 1) / 8 * 8 - more * 8) (by omega), w64 (n := a + b - max a ((a + b - 1) / 8 * 8 - more * 8)) (by omega)]
      refine ⟨by omega, by omega, by omega, fun x d1 d2 => F.all x (by omega) (by omega), ?_, ?_, (fun h => by cases h), fun _ => by omega⟩
      · by_cases d : a < (a + b - 1) / 8 * 8 - more * 8
        · exact .inl (by omega)
        · have e1 : max a ((a + b - 1) / 8 * 8 - more * 8) = a := by omega
          rw [e1]
          by_cases d0 : a = 0
          · exact .inr (.inl d0)
          · exact .inr (.inr (.inl (F.pre (by omega))))
      · have e1 : max a ((a + b - 1) / 8 * 8 - more * 8) + (a + b - max a ((a + b - 1) / 8 * 8 - more * 8)) = a + b := by omega
        rw [e1]
        by_cases d : a + b = fr
        · exact .inr (.inr (.inr d))
        · by_cases d0 : a + b = tot l
          · exact .inr (.inl (by omega))
          · exact .inr (.inr (.inl (F.beh (a + b) (by omega) (by omega) (by omega))))
theorem edge_ok (c R : Int) (back : Bool) (m0 m1 m2 : Int) (l : List S56) (h : Ok l) : plan_edge.f c R back m0 m1 m2 l = some (if back then tot l else 0) := by
  cases back <;> simp [plan_edge.f, End_ok l h]
/-- none of a status -/
def NoSt (f : Int → Int) (N st : Int) : Prop := ∀ x, 0 ≤ x → x < N → f x ≠ st
/-- what comes next -/
inductive Nx (back : Bool) (f : Int → Int) (N R P pass : Int) : Int × Int × Int × Bool → Prop
  | one (i st p s : Int) : (i = 1 ∧ st = 63 ∨ i = 2 ∧ st = 42 ∧ NoSt f N 63 ∨ i = 3 ∧ st = 47 ∧ NoSt f N 63 ∧ NoSt f N 42) → Span back f N st (if back then N else 0) p (p + s) → Nx back f N R P pass (i, p, s, false)
  | again (p s : Int) : NoSt f N 63 → NoSt f N 42 → NoSt f N 47 → pass < R → Span back f N 45 P p (p + s) → Nx back f N R P pass (4, p, s, false)
  | fresh (p s : Int) : NoSt f N 63 → NoSt f N 42 → NoSt f N 47 → pass + 1 < R → (∀ x, 0 ≤ x → x < N → (back = false → P ≤ x) → (back = true → x < P) → f x ≠ 45) → Span back f N 45 (if back then N else 0) p (p + s) → Nx back f N R P pass (4, p, s, true)
  | over : NoSt f N 63 → NoSt f N 42 → NoSt f N 47 → Nx back f N R P pass (0, 0, 0, false)
theorem retry_ok (k : Nat) (c R : Int) (back : Bool) (P pass m2 : Int) (l : List S56) (h : Ok l) (hk : l.length + 2 < k) (hP : 0 ≤ P ∧ P ≤ tot l) (hpass : 0 ≤ pass ∧ pass ≤ 20) (hR : 0 ≤ R ∧ R ≤ 20)
    (n1 : NoSt (statF l) (tot l) 63) (n2 : NoSt (statF l) (tot l) 42) (n3 : NoSt (statF l) (tot l) 47) :
    ∃ r, plan_retry.f k c R back P pass m2 l = some r ∧ Nx back (statF l) (tot l) R P pass r := by
  unfold plan_retry.f
  have ht := tot_nonneg l 0 h.1
  by_cases c0 : pass ≥ R
  · rw [if_pos c0]; exact ⟨_, rfl, .over n1 n2 n3⟩
  rw [if_neg c0]
  obtain ⟨k, rfl⟩ : ∃ m, k = m + 1 := ⟨k - 1, by omega⟩
  rcases seek_cut (k + 1) c R back P pass m2 l h (by omega) 45 P hP 0 (by omega) with ⟨e, hn⟩ | ⟨a, b, p, s, e, e2, S⟩
  · rw [e]
    simp only [Option.bind_some, Bool.false_eq_true, if_false]
    rw [w64 (n := pass + 1) (by omega)]
    by_cases c1 : pass + 1 < R
    · simp only [plan_retry.j0, decide_eq_true c1, if_true]
      rw [edge_ok _ _ _ _ _ _ _ h]
      simp only [Option.bind_some]
      rcases seek_cut k c R back P pass m2 l h (by omega) 45 (if back then tot l else 0) (by cases back <;> simp <;> omega) 0 (by omega) with ⟨e, hn2⟩ | ⟨a, b, p, s, e, e2, S⟩
      · rw [e]; simp only [Option.bind_some, Bool.false_eq_true, if_false]; exact ⟨_, rfl, .over n1 n2 n3⟩
      · rw [e]; simp only [Option.bind_some, if_true]; rw [e2]; exact ⟨_, rfl, .fresh p s n1 n2 n3 c1 hn S⟩
    · simp only [plan_retry.j0, decide_eq_false c1, Bool.false_eq_true, if_false]; exact ⟨_, rfl, .over n1 n2 n3⟩
  · rw [e]
    simp only [Option.bind_some, if_true, plan_retry.j0, Bool.false_eq_true, if_false]
    rw [e2]
    exact ⟨_, rfl, .again p s n1 n2 n3 (by omega) S⟩
theorem next_ok (k : Nat) (c R : Int) (back : Bool) (P pass m2 : Int) (l : List S56) (h : Ok l) (hk : l.length + 8 < k) (hP : 0 ≤ P ∧ P ≤ tot l) (hpass : 0 ≤ pass ∧ pass ≤ 20) (hR : 0 ≤ R ∧ R ≤ 20) (hc : 1 ≤ c ∧ c ≤ 512) :
    ∃ r, plan_next.f k c R back P pass m2 l = some r ∧ Nx back (statF l) (tot l) R P pass r := by
  unfold plan_next.f
  have ht := tot_nonneg l 0 h.1
  have hed : 0 ≤ (if back = true then tot l else 0) ∧ (if back = true then tot l else 0) ≤ tot l := by cases back <;> simp <;> omega
  simp only [Option.bind_some]
  rw [w64 (n := c - 1) (by omega)]
  obtain ⟨k, rfl⟩ : ∃ m, k = m + 4 := ⟨k - 4, by omega⟩
  have fin : ∀ st, (∀ x, 0 ≤ x → x < tot l → (back = false → (if back = true then tot l else 0) ≤ x) → (back = true → x < (if back = true then tot l else 0)) → statF l x ≠ st) → NoSt (statF l) (tot l) st := by
    intro st hn x h0 h1
    refine hn x h0 h1 (fun e => ?_) (fun e => ?_)
    · subst e; simpa using h0
    · subst e; simpa using h1
  have w1 : wrap64 (0 + 1) = 1 := w64 (by omega)
  have w2 : wrap64 (1 + 1) = 2 := w64 (by omega)
  have w3 : wrap64 (2 + 1) = 3 := w64 (by omega)
  simp only [plan_next.l0, List.length_cons, List.length_nil, w1, w2, w3]
  rw [edge_ok _ _ _ _ _ _ _ h]
  have r0 : ∀ (a b c : S57), rd_T57 [a, b, c] 0 = a := fun _ _ _ => rfl
  have r1 : ∀ (a b c : S57), rd_T57 [a, b, c] 1 = b := fun _ _ _ => rfl
  have r2 : ∀ (a b c : S57), rd_T57 [a, b, c] 2 = c := fun _ _ _ => rfl
  simp only [r0, r1, r2, Option.bind_some]
  rw [if_pos (by omega), if_pos (by omega), if_pos (by omega)]
  rcases seek_cut (k + 3) c R back P pass m2 l h (by omega) 63 _ hed (c - 1) (by omega) with ⟨e, hn⟩ | ⟨a, b, p, s, e, e2, S⟩
  · rw [e]
    simp only [Option.bind_some, Bool.false_eq_true, if_false]
    rw [if_pos (by omega), if_pos (by omega), if_pos (by omega)]
    rcases seek_cut (k + 2) c R back P pass m2 l h (by omega) 42 _ hed 0 (by omega) with ⟨e, hn2⟩ | ⟨a, b, p, s, e, e2, S⟩
    · rw [e]
      simp only [Option.bind_some, Bool.false_eq_true, if_false]
      rw [if_pos (by omega), if_pos (by omega), if_pos (by omega)]
      rcases seek_cut (k + 1) c R back P pass m2 l h (by omega) 47 _ hed 0 (by omega) with ⟨e, hn3⟩ | ⟨a, b, p, s, e, e2, S⟩
      · rw [e]
        simp only [Option.bind_some, Bool.false_eq_true, if_false]
        rw [if_neg (by omega)]
        obtain ⟨r, e, X⟩ := retry_ok k c R back P pass m2 l h (by omega) hP hpass hR (fin _ hn) (fin _ hn2) (fin _ hn3)
        rw [e]; exact ⟨_, rfl, X⟩
      · rw [e]; simp only [Option.bind_some, if_true]; rw [e2]; exact ⟨_, rfl, .one 3 47 p s (.inr (.inr ⟨rfl, rfl, fin _ hn, fin _ hn2⟩)) S⟩
    · rw [e]; simp only [Option.bind_some, if_true]; rw [e2]; exact ⟨_, rfl, .one 2 42 p s (.inr (.inl ⟨rfl, rfl, fin _ hn⟩)) S⟩
  · rw [e]; simp only [Option.bind_some, if_true]; rw [e2]; exact ⟨_, rfl, .one 1 63 p s (.inl ⟨rfl, rfl⟩) S⟩
end Go.Proofs.Ytiaopkgmhpjeeaa.MBoundHolds

namespace Go.Proofs.Ytiaopkgmhpjeeaa.MBoundHolds
open Go.RowKit Go.Proofs.YtiaopkgmhpjeeaaW.PrintWords Go.Proofs.YtiaopkgmhpjeeaaW.PrintLast Go.Proofs.YtiaopkgmhpjeeaaW.PrintMore
set_option linter.unusedVariables false
set_option linter.unusedSimpArgs false

/-- a run of places that are all of one status, and as long as can be -/
structure RunOf (f : Int → Int) (N st a b : Int) : Prop where
  a0 : 0 ≤ a
  bN : b ≤ N
  all : ∀ x, a ≤ x → x < b → f x = st
  pre : 0 < a → f (a - 1) ≠ st
  beh : b < N → f b ≠ st
/-- what is there behind an act of kind i -/
structure Behind (i : Int) (f : Int → Int) (N p q : Int) (f' : Int → Int) : Prop where
  ex : ∃ (m s' : Int) (base : Int → Int), p ≤ m ∧ m ≤ q ∧ (m < q → i = 1 ∧ s' = 42 ∨ i ≠ 1 ∧ s' = 45) ∧
    (base = f ∨ i = 2 ∧ ∃ a b, RunOf f N 42 a b ∧ a ≤ p ∧ q ≤ b ∧ ∀ x, base x = if a ≤ x ∧ x < b then 47 else f x) ∧
    ∀ x, 0 ≤ x → x < N → f' x = if p ≤ x ∧ x < m then 43 else if m ≤ x ∧ x < q then s' else base x
theorem done_ok (k : Nat) (l : List S56) (h : Ok l) (hk : l.length < k) (i p s g : Int) (hi : i = 1 ∨ i = 2 ∨ i = 3 ∨ i = 4) (hp : 0 ≤ p) (hs : 0 < s) (hq : p + s ≤ tot l) (hg : 0 ≤ g ∧ g ≤ s)
    (h2 : i = 2 → ∀ x, p ≤ x → x < p + s → statF l x = 42) :
    ∃ l', plan_done.f k l i p s g = some l' ∧ Ok l' ∧ tot l' = tot l ∧ Behind i (statF l) (tot l) p (p + s) (statF l') := by
  unfold plan_done.f
  have hb := h.2
  by_cases c1 : i = 1
  · rw [if_pos c1]
    obtain ⟨l1, e1, o1, t1, s1⟩ := set_ok l p g 43 h hp hg.1 (by decide) (by omega) (by omega)
    rw [w64 (n := p + g) (by omega), w64 (n := s - g) (by omega)]
    obtain ⟨l2, e2, o2, t2, s2⟩ := set_ok l1 (p + g) (s - g) 42 o1 (by omega) (by omega) (by decide) (by omega) (by omega)
    refine ⟨l2, by rw [e1]; simp only [Option.bind_some]; rw [e2]; rfl, o2, by omega, ⟨p + g, 42, statF l, by omega, by omega, fun _ => .inl ⟨c1, rfl⟩, .inl rfl, fun x h0 hN => ?_⟩⟩
    rw [s2 x h0 (by omega), s1 x h0 hN]
    by_cases d : p ≤ x ∧ x < p + g
    · rw [if_pos d, if_pos d, if_neg (by omega)]
    · rw [if_neg d, if_neg d]
      by_cases d2 : p + g ≤ x ∧ x < p + s
      · rw [if_pos d2, if_pos (by omega)]
      · rw [if_neg d2, if_neg (by omega)]
  rw [if_neg c1]
  by_cases c2 : g = s
  · rw [if_pos c2]
    obtain ⟨l1, e1, o1, t1, s1⟩ := set_ok l p s 43 h hp (by omega) (by decide) (by omega) (by omega)
    refine ⟨l1, by rw [e1]; rfl, o1, by omega, ⟨p + s, 0, statF l, by omega, by omega, fun _ => by omega, .inl rfl, fun x h0 hN => ?_⟩⟩
    rw [s1 x h0 hN]
    by_cases d : p ≤ x ∧ x < p + s
    · rw [if_pos d, if_pos d]
    · rw [if_neg d, if_neg d, if_neg (by omega)]
  rw [if_neg c2]
  by_cases c3 : i = 2
  · rw [if_pos c3, at_ok k p l h hk]
    obtain ⟨a, z, st, e, F, _⟩ := atF_spec p l 0 (-1) h.1 (by omega) (by omega) (by
      cases l with
      | nil => simp only [tot] at hq; omega
      | cons y l => exact (isB_pos h.1.2.2.1).symm)
    have := F.p0; have := F.p1; have := F.q0; have hF := F.q1
    have est : st = 42 := by rw [← F.all p (by omega) (by omega)]; exact h2 c3 p (by omega) (by omega)
    subst est
    have hqb : p + s ≤ a + z := by
      by_cases hlt : a + z < p + s
      · exact absurd (h2 c3 (a + z) (by omega) hlt) (F.beh (by omega))
      · omega
    obtain ⟨l1, e1, o1, t1, s1⟩ := set_ok l a z 47 h (by omega) (by omega) (by decide) (by omega) (by omega)
    obtain ⟨l2, e2, o2, t2, s2⟩ := set_ok l1 p s 45 o1 (by omega) (by omega) (by decide) (by omega) (by omega)
    refine ⟨l2, by rw [e]; simp only [Option.bind_some]; rw [e1]; simp only [Option.bind_some]; rw [e2]; rfl, o2, by omega, ⟨p, 45, fun x => if a ≤ x ∧ x < a + z then 47 else statF l x, by omega, by omega, fun _ => .inr ⟨c1, rfl⟩, .inr ⟨c3, a, a + z, ⟨by omega, by omega, F.all, F.pre, fun hh => F.beh (by omega)⟩, by omega, hqb, fun x => rfl⟩, fun x h0 hN => ?_⟩⟩
    rw [s2 x h0 (by omega), s1 x h0 hN, if_neg (show ¬ (p ≤ x ∧ x < p) by omega)]
  · rw [if_neg c3]
    obtain ⟨l1, e1, o1, t1, s1⟩ := set_ok l p s 45 h hp (by omega) (by decide) (by omega) (by omega)
    refine ⟨l1, by rw [e1]; rfl, o1, by omega, ⟨p, 45, statF l, by omega, by omega, fun _ => .inr ⟨c1, rfl⟩, .inl rfl, fun x h0 hN => ?_⟩⟩
    rw [s1 x h0 hN, if_neg (show ¬ (p ≤ x ∧ x < p) by omega)]

/-! ### what holds of a map, and what becomes less -/
structure Inv (C : Int → Bool) (N : Int) (f : Int → Int) (P : Int) : Prop where
  eight : ∀ x, x % 8 = 0 → C x = true
  cells : ∀ x, 0 ≤ x → x + 1 < N → C (x + 1) = false → f x = 43 ∨ f (x + 1) = f x
  P0 : 0 ≤ P
  PN : P ≤ N
  at_ : C P = true ∨ P = 0 ∨ P = N ∨ f (P - 1) = 43
theorem span_norm {C : Int → Bool} {N : Int} {f : Int → Int} {P : Int} (I : Inv C N f P) {back : Bool} {st fr p q : Int} (S : Span back f N st fr p q) (hst : st ≠ 43) (hfr : C fr = true ∨ fr = 0 ∨ fr = N ∨ f (fr - 1) = 43) :
    (C p = true ∨ p = 0 ∨ f (p - 1) = 43) ∧ (C q = true ∨ q = N) := by
  have := S.p0; have := S.pq; have := S.qN
  constructor
  · rcases S.left with h | h | h | h
    · exact .inl (I.eight p h)
    · exact .inr (.inl h)
    · by_cases c : C p = true
      · exact .inl c
      · by_cases p0 : p = 0
        · exact .inr (.inl p0)
        · have := I.cells (p - 1) (by omega) (by omega) (by rw [show p - 1 + 1 = p by omega]; simpa using c)
          rw [show p - 1 + 1 = p by omega, S.all p (by omega) (by omega)] at this
          rcases this with h' | h'
          · exact .inr (.inr h')
          · exact absurd h'.symm h
    · subst h
      rcases hfr with h | h | h | h
      · exact .inl h
      · exact .inr (.inl h)
      · omega
      · exact .inr (.inr h)
  · rcases S.right with h | h | h | h
    · exact .inl (I.eight q h)
    · exact .inr h
    · by_cases qN : q = N
      · exact .inr qN
      · by_cases c : C q = true
        · exact .inl c
        · have := I.cells (q - 1) (by omega) (by omega) (by rw [show q - 1 + 1 = q by omega]; simpa using c)
          rw [show q - 1 + 1 = q by omega, S.all (q - 1) (by omega) (by omega)] at this
          rcases this with h' | h'
          · exact absurd h' hst
          · exact absurd h' h
    · subst h
      rcases hfr with h | h | h | h
      · exact .inl h
      · omega
      · exact .inr h
      · rw [S.all (q - 1) (by omega) (by omega)] at h; exact absurd h hst
theorem inv_behind {C : Int → Bool} {N : Int} {f f' : Int → Int} {P i p q : Int} (I : Inv C N f P) (hp : 0 ≤ p) (hpq : p < q) (hq : q ≤ N)
    (hl : C p = true ∨ p = 0 ∨ f (p - 1) = 43) (hr : C q = true ∨ q = N) (B : Behind i f N p q f') :
    ∀ x, 0 ≤ x → x + 1 < N → C (x + 1) = false → f' x = 43 ∨ f' (x + 1) = f' x := by
  obtain ⟨m, s', base, h1, h2, h3, h4, h5⟩ := B.ex
  have hbase : (∀ x, 0 ≤ x → x + 1 < N → C (x + 1) = false → base x = 43 ∨ base (x + 1) = base x) ∧ (C p = true ∨ p = 0 ∨ base (p - 1) = 43) := by
    rcases h4 with rfl | ⟨_, a, b, Rn, hap, hqb, hba⟩
    · exact ⟨I.cells, hl⟩
    · refine ⟨fun x h0 hN hC => ?_, ?_⟩
      · have := I.cells x h0 hN hC
        rw [hba, hba]
        by_cases c1 : a ≤ x ∧ x < b
        · by_cases c2 : a ≤ x + 1 ∧ x + 1 < b
          · rw [if_pos c1, if_pos c2]; exact .inr rfl
          · have e : x + 1 = b := by omega
            rcases this with h | h
            · rw [Rn.all x c1.1 c1.2] at h; cases h
            · rw [Rn.all x c1.1 c1.2, e] at h; exact absurd h (Rn.beh (by omega))
        · rw [if_neg c1]
          by_cases c2 : a ≤ x + 1 ∧ x + 1 < b
          · have e : x + 1 = a := by omega
            rcases this with h | h
            · exact .inl h
            · rw [Rn.all (x + 1) c2.1 c2.2] at h
              have := Rn.pre (by omega)
              rw [show a - 1 = x by omega] at this
              exact absurd h.symm this
          · rw [if_neg c2]; exact this
      · rcases hl with h | h | h
        · exact .inl h
        · exact .inr (.inl h)
        · refine .inr (.inr ?_)
          rw [hba]
          by_cases c : a ≤ p - 1 ∧ p - 1 < b
          · rw [Rn.all _ c.1 c.2] at h; cases h
          · rw [if_neg c]; exact h
  intro x h0 hN hC
  rw [h5 x h0 (by omega), h5 (x + 1) (by omega) hN]
  by_cases c1 : p ≤ x ∧ x < m
  · rw [if_pos c1]; exact .inl rfl
  rw [if_neg c1]
  by_cases c2 : m ≤ x ∧ x < q
  · rw [if_pos c2, if_neg (by omega)]
    by_cases c3 : x + 1 < q
    · rw [if_pos (by omega)]; exact .inr rfl
    · have e : x + 1 = q := by omega
      rcases hr with h | h
      · rw [e, h] at hC; cases hC
      · omega
  rw [if_neg c2]
  by_cases c3 : x + 1 = p
  · rcases hbase.2 with h | h | h
    · rw [c3, h] at hC; cases hC
    · omega
    · rw [← c3, show x + 1 - 1 = x by omega] at h; exact .inl h
  by_cases c4 : q ≤ x
  · rw [if_neg (by omega), if_neg (by omega)]; exact hbase.1 x h0 hN hC
  · rw [if_neg (by omega), if_neg (by omega)]; exact hbase.1 x h0 hN hC

/-- sums -/
def cnt (g : Nat → Nat) : Nat → Nat
  | 0 => 0
  | n + 1 => cnt g n + g n
theorem cnt_le {g h : Nat → Nat} : ∀ n, (∀ x, x < n → g x ≤ h x) → cnt g n ≤ cnt h n
  | 0, _ => Nat.le_refl _
  | n + 1, H => by have := cnt_le n (fun x hx => H x (by omega)); have := H n (by omega); simp only [cnt]; omega
theorem cnt_lt {g h : Nat → Nat} : ∀ n, (∀ x, x < n → g x ≤ h x) → (∃ y, y < n ∧ g y < h y) → cnt g n < cnt h n
  | 0, _, ⟨y, hy, _⟩ => by omega
  | n + 1, H, ⟨y, hy, hlt⟩ => by
    simp only [cnt]
    by_cases e : y = n
    · subst e; have := cnt_le y (fun x hx => H x (by omega)); omega
    · have := cnt_lt n (fun x hx => H x (by omega)) ⟨y, by omega, hlt⟩; have := H n (by omega); omega
theorem cnt_zero {g : Nat → Nat} : ∀ n, (∀ x, x < n → g x = 0) → cnt g n = 0
  | 0, _ => rfl
  | n + 1, H => by simp only [cnt]; rw [cnt_zero n (fun x hx => H x (by omega)), H n (by omega)]
theorem cnt_mul {g : Nat → Nat} (a : Nat) : ∀ n, cnt (fun x => a * g x) n = a * cnt g n
  | 0 => rfl
  | n + 1 => by simp only [cnt]; rw [cnt_mul a n, Nat.mul_add]
def lev (s : Int) : Nat := if s = 63 then 3 else if s = 42 then 2 else if s = 47 then 1 else 0
def isLast (C : Int → Bool) (N x : Int) : Bool := C (x + 1) || x + 1 == N
def phi (C : Int → Bool) (N : Int) (f : Int → Int) (n : Nat) : Nat := cnt (fun x => if isLast C N x then lev (f x) else 0) n
def cellsN (C : Int → Bool) (N : Int) (n : Nat) : Nat := cnt (fun x => if isLast C N x then 1 else 0) n
def badN (C : Int → Bool) (N : Int) (f : Int → Int) (back : Bool) (P : Int) (n : Nat) : Nat := cnt (fun x => if isLast C N x && (f x == 45) && (if back then decide ((x : Int) < P) else decide (P ≤ (x : Int))) then 1 else 0) n
def meas (C : Int → Bool) (N : Int) (n : Nat) (back : Bool) (R : Int) (f : Int → Int) (P pass : Int) : Nat :=
  if phi C N f n = 0 then (if pass < R then badN C N f back P n + (R - 1 - pass).toNat * cellsN C N n else 0) else phi C N f n + R.toNat * cellsN C N n
theorem bad_le (C : Int → Bool) (N : Int) (f : Int → Int) (back : Bool) (P : Int) (n : Nat) : badN C N f back P n ≤ cellsN C N n := by
  have h1 : ∀ (b : Bool), (if b = true then 1 else 0) ≤ 1 := by intro b; cases b <;> simp
  refine cnt_le n (fun x _ => ?_)
  by_cases c : isLast C N x = true
  · rw [if_pos c]; exact h1 _
  · simp [c]
theorem tail_le (C : Int → Bool) (N : Int) (n : Nat) (back : Bool) (R : Int) (f : Int → Int) (P pass : Int) (hp : 0 ≤ pass) : (if pass < R then badN C N f back P n + (R - 1 - pass).toNat * cellsN C N n else 0) ≤ R.toNat * cellsN C N n := by
  split
  · rename_i h
    have := bad_le C N f back P n
    calc badN C N f back P n + (R - 1 - pass).toNat * cellsN C N n ≤ 1 * cellsN C N n + (R - 1 - pass).toNat * cellsN C N n := by omega
      _ = (1 + (R - 1 - pass).toNat) * cellsN C N n := by rw [Nat.add_mul]
      _ ≤ R.toNat * cellsN C N n := Nat.mul_le_mul_right _ (by omega)
  · omega
theorem phi_le (C : Int → Bool) (N : Int) (f : Int → Int) (n : Nat) : phi C N f n ≤ 3 * cellsN C N n := by
  unfold cellsN
  rw [← cnt_mul]
  refine cnt_le n (fun x _ => ?_)
  by_cases c : isLast C N x = true
  · rw [if_pos c, if_pos c]; unfold lev; repeat' split
    all_goals omega
  · simp [c]
theorem meas_le (C : Int → Bool) (N : Int) (n : Nat) (back : Bool) (R : Int) (f : Int → Int) (P pass : Int) (hp : 0 ≤ pass) : meas C N n back R f P pass ≤ (3 + R.toNat) * cellsN C N n := by
  unfold meas
  rw [Nat.add_mul]
  have := phi_le C N f n
  have := tail_le C N n back R f P pass hp
  split <;> omega
end Go.Proofs.Ytiaopkgmhpjeeaa.MBoundHolds

namespace Go.Proofs.Ytiaopkgmhpjeeaa.MBoundHolds
open Go.RowKit Go.Proofs.YtiaopkgmhpjeeaaW.PrintWords Go.Proofs.YtiaopkgmhpjeeaaW.PrintLast Go.Proofs.YtiaopkgmhpjeeaaW.PrintMore
set_option linter.unusedVariables false
set_option linter.unusedSimpArgs false

theorem last_of {C : Int → Bool} {N q : Int} (hr : C q = true ∨ q = N) (hq : 0 < q) : isLast C N (((q - 1).toNat : Nat) : Int) = true := by
  unfold isLast
  rw [show (((q - 1).toNat : Nat) : Int) + 1 = q by omega]
  rcases hr with h | h
  · simp [h]
  · simp [h]
/-- one act of a copy, a trim, a scrape -/
theorem step_one {C : Int → Bool} {N : Int} {f f' : Int → Int} {P i st p q : Int} {back : Bool} (n : Nat) (hn : (n : Int) = N) (I : Inv C N f P)
    (hi : i = 1 ∧ st = 63 ∨ i = 2 ∧ st = 42 ∨ i = 3 ∧ st = 47) (S : Span back f N st (if back then N else 0) p q) (B : Behind i f N p q f') :
    Inv C N f' P ∧ phi C N f' n < phi C N f n := by
  have := S.p0; have := S.pq; have := S.qN
  have hst : st ≠ 43 := by omega
  obtain ⟨hl, hr⟩ := span_norm I S hst (by cases back <;> simp)
  have hc := inv_behind I S.p0 S.pq S.qN hl hr B
  obtain ⟨m, s', base, h1, h2, h3, h4, h5⟩ := B.ex
  have hb43 : ∀ x, f x = 43 → base x = 43 := by
    intro x hx
    rcases h4 with rfl | ⟨_, a, b, Rn, _, _, hba⟩
    · exact hx
    · rw [hba]
      by_cases c : a ≤ x ∧ x < b
      · rw [Rn.all x c.1 c.2] at hx; cases hx
      · rw [if_neg c]; exact hx
  have hlevb : ∀ x, lev (base x) ≤ lev (f x) := by
    intro x
    rcases h4 with rfl | ⟨_, a, b, Rn, _, _, hba⟩
    · exact Nat.le_refl _
    · rw [hba]
      by_cases c : a ≤ x ∧ x < b
      · rw [if_pos c, Rn.all x c.1 c.2]; decide
      · rw [if_neg c]; exact Nat.le_refl _
  refine ⟨⟨I.eight, hc, I.P0, I.PN, ?_⟩, ?_⟩
  · rcases I.at_ with h | h | h | h
    · exact .inl h
    · exact .inr (.inl h)
    · exact .inr (.inr (.inl h))
    · by_cases p0 : P = 0
      · exact .inr (.inl p0)
      · refine .inr (.inr (.inr ?_))
        have hP0 := I.P0; have hPN := I.PN
        rw [h5 (P - 1) (by omega) (by omega)]
        have hns : ¬ (p ≤ P - 1 ∧ P - 1 < q) := fun c => hst ((S.all _ c.1 c.2).symm.trans h)
        rw [if_neg (by omega), if_neg (by omega)]
        exact hb43 _ h
  · have key : ∀ x : Int, p ≤ x → x < q → lev (f' x) < lev (f x) := by
      intro x a b
      rw [h5 x (by omega) (by omega), S.all x a b]
      by_cases c : p ≤ x ∧ x < m
      · rw [if_pos c]
        rcases hi with ⟨_, rfl⟩ | ⟨_, rfl⟩ | ⟨_, rfl⟩ <;> decide
      · rw [if_neg c, if_pos (by omega)]
        rcases h3 (by omega) with ⟨e1, rfl⟩ | ⟨e1, rfl⟩
        · rcases hi with ⟨_, rfl⟩ | ⟨e, rfl⟩ | ⟨e, rfl⟩
          · decide
          · omega
          · omega
        · rcases hi with ⟨e, rfl⟩ | ⟨e, rfl⟩ | ⟨e, rfl⟩ <;> decide
    refine cnt_lt n (fun x hx => ?_) ⟨(q - 1).toNat, by omega, ?_⟩
    · by_cases c : isLast C N x = true
      · rw [if_pos c, if_pos c]
        by_cases d : p ≤ (x : Int) ∧ (x : Int) < q
        · exact Nat.le_of_lt (key x d.1 d.2)
        · rw [h5 x (by omega) (by omega), if_neg (by omega), if_neg (by omega)]; exact hlevb x
      · simp [c]
    · rw [if_pos (last_of hr (by omega)), if_pos (last_of hr (by omega))]
      exact key _ (by omega) (by omega)
theorem phi_zero {C : Int → Bool} {N : Int} {f : Int → Int} (n : Nat) (hn : (n : Int) = N) (n1 : NoSt f N 63) (n2 : NoSt f N 42) (n3 : NoSt f N 47) : phi C N f n = 0 := by
  refine cnt_zero n (fun x hx => ?_)
  have e : lev (f x) = 0 := by
    unfold lev
    rw [if_neg (n1 x (by omega) (by omega)), if_neg (n2 x (by omega) (by omega)), if_neg (n3 x (by omega) (by omega))]
  rw [e]; split <;> rfl
/-- one try -/
theorem step_again {C : Int → Bool} {N : Int} {f f' : Int → Int} {P p q : Int} {back : Bool} {fr : Int} (n : Nat) (hn : (n : Int) = N) (I : Inv C N f P)
    (hfr : C fr = true ∨ fr = 0 ∨ fr = N ∨ f (fr - 1) = 43)
    (n1 : NoSt f N 63) (n2 : NoSt f N 42) (n3 : NoSt f N 47) (S : Span back f N 45 fr p q) (B : Behind 4 f N p q f') :
    Inv C N f' (if back then p else q) ∧ phi C N f' n = 0 ∧ badN C N f' back (if back then p else q) n < badN C N f back fr n ∧ badN C N f' back (if back then p else q) n < cellsN C N n := by
  have := S.p0; have := S.pq; have := S.qN
  obtain ⟨hl, hr⟩ := span_norm I S (by decide) hfr
  have hc := inv_behind I S.p0 S.pq S.qN hl hr B
  obtain ⟨m, s', base, h1, h2, h3, h4, h5⟩ := B.ex
  have hbase : base = f := by
    rcases h4 with h | ⟨h, _⟩
    · exact h
    · exact absurd h (by decide)
  subst hbase
  have hin : ∀ x, p ≤ x → x < q → f' x = 43 ∨ f' x = 45 := by
    intro x a b
    rw [h5 x (by omega) (by omega)]
    by_cases c : p ≤ x ∧ x < m
    · rw [if_pos c]; exact .inl rfl
    · rw [if_neg c, if_pos (by omega)]
      rcases h3 (by omega) with ⟨e, _⟩ | ⟨_, e⟩
      · exact absurd e (by decide)
      · exact .inr e
  have hout : ∀ x, 0 ≤ x → x < N → ¬ (p ≤ x ∧ x < q) → f' x = base x := by
    intro x a b c
    rw [h5 x a b, if_neg (by omega), if_neg (by omega)]
  have hno : ∀ st, st ≠ 43 → st ≠ 45 → NoSt base N st → NoSt f' N st := by
    intro st e1 e2 hh x a b
    by_cases c : p ≤ x ∧ x < q
    · rcases hin x c.1 c.2 with h | h
      · rw [h]; exact e1.symm
      · rw [h]; exact e2.symm
    · rw [hout x a b c]; exact hh x a b
  have hy := last_of (C := C) (N := N) hr (by omega)
  have hlt : ∀ g : Nat → Nat, (∀ x, x < n → (if isLast C N x && (f' x == 45) && (if back then decide ((x : Int) < (if back then p else q)) else decide ((if back then p else q) ≤ (x : Int))) then 1 else 0) ≤ g x) → 0 < g (q - 1).toNat →
      badN C N f' back (if back then p else q) n < cnt g n := by
    intro g h1 h2
    refine cnt_lt n h1 ⟨(q - 1).toNat, by omega, ?_⟩
    rw [if_neg]
    · exact h2
    · cases back with
      | false => simp; intro _ _; omega
      | true => simp; intro _ _; omega
  refine ⟨⟨I.eight, hc, by cases back <;> simp <;> omega, by cases back <;> simp <;> omega, ?_⟩, phi_zero n hn (hno 63 (by decide) (by decide) n1) (hno 42 (by decide) (by decide) n2) (hno 47 (by decide) (by decide) n3), ?_, ?_⟩
  · cases back with
    | false =>
      rcases hr with h | h
      · exact .inl h
      · exact .inr (.inr (.inl h))
    | true =>
      rcases hl with h | h | h
      · exact .inl h
      · exact .inr (.inl h)
      · by_cases p0 : p = 0
        · exact .inr (.inl p0)
        · refine .inr (.inr (.inr ?_))
          simp only [if_true]
          rw [hout (p - 1) (by omega) (by omega) (by omega)]; exact h
  · refine hlt _ (fun x hx => ?_) ?_
    · by_cases c : isLast C N x = true
      · by_cases d : p ≤ (x : Int) ∧ (x : Int) < q
        · rw [if_neg]
          · omega
          · cases back with
            | false => simp; intro _ _; omega
            | true => simp; intro _ _; omega
        · rw [hout x (by omega) (by omega) d]
          by_cases e : base x = 45
          · cases back with
            | false =>
              have := S.fwd rfl
              simp only [c, e, Bool.false_eq_true, if_false, beq_self_eq_true, Bool.true_and, decide_eq_true_eq]
              by_cases a : q ≤ (x : Int)
              · rw [if_pos a, if_pos (by omega)]; exact Nat.le_refl _
              · rw [if_neg a]; omega
            | true =>
              have := S.bwd rfl
              simp only [c, e, if_true, beq_self_eq_true, Bool.true_and, decide_eq_true_eq]
              by_cases a : (x : Int) < p
              · rw [if_pos a, if_pos (by omega)]; exact Nat.le_refl _
              · rw [if_neg a]; omega
          · have : (base x == 45) = false := by simpa using e
            simp [this]
      · simp [c]
    · have e : base (((q - 1).toNat : Nat) : Int) = 45 := S.all _ (by omega) (by omega)
      have hb : (if back then decide ((((q - 1).toNat : Nat) : Int) < fr) else decide (fr ≤ (((q - 1).toNat : Nat) : Int))) = true := by
        cases back with
        | false => have := S.fwd rfl; simp only [Bool.false_eq_true, if_false, decide_eq_true_eq]; omega
        | true => have := S.bwd rfl; simp only [if_true, decide_eq_true_eq]; omega
      simp only [hy, e, hb, beq_self_eq_true, Bool.and_self, if_true]; omega
  · refine hlt _ (fun x hx => ?_) ?_
    · have h1 : ∀ (b : Bool), (if b = true then 1 else 0) ≤ 1 := by intro b; cases b <;> simp
      by_cases c : isLast C N x = true
      · rw [if_pos c]; exact h1 _
      · simp [c]
    · rw [if_pos hy]; omega
end Go.Proofs.Ytiaopkgmhpjeeaa.MBoundHolds

namespace Go.Proofs.Ytiaopkgmhpjeeaa.MBoundHolds
open Go.RowKit Go.Proofs.YtiaopkgmhpjeeaaW.PrintWords Go.Proofs.YtiaopkgmhpjeeaaW.PrintLast Go.Proofs.YtiaopkgmhpjeeaaW.PrintMore
set_option linter.unusedVariables false
set_option linter.unusedSimpArgs false

structure Good (C : Int → Bool) (N : Int) (l : List S56) (P pass mst : Int) : Prop where
  ok : Ok l
  t : tot l = N
  inv : Inv C N (statF l) P
  pass : 0 ≤ pass ∧ pass ≤ 20
  st : isB mst = true
theorem may_ok {c R : Int} (back : Bool) (hc : 1 ≤ c ∧ c ≤ 512) (hR : 0 ≤ R ∧ R ≤ 20) : plan_May.f c R back = some true := by
  unfold plan_May.f
  rw [if_pos (by omega), if_pos (by omega), if_pos (by omega)]; simp; omega
theorem mmay_ok {C : Int → Bool} {N : Int} {l : List S56} {P pass mst : Int} (G : Good C N l P pass mst) : maptext_May.f P pass mst l = some true := by
  unfold maptext_May.f
  rw [G.ok.may, End_ok l G.ok, G.t]
  simp only [Option.bind_some, Bool.true_and, decide_eq_true G.inv.P0, decide_eq_true G.inv.PN, decide_eq_true G.pass.1, decide_eq_true G.pass.2, G.st, Bool.and_self]
theorem good_len {C : Int → Bool} {N : Int} {l : List S56} {P pass mst : Int} (G : Good C N l P pass mst) : (l.length : Int) ≤ N := by
  have := wf_len l 0 G.ok.1; have := G.t; omega
theorem nextG {C : Int → Bool} {N : Int} {l : List S56} {P pass mst : Int} (G : Good C N l P pass mst) (k : Nat) (c R : Int) (back : Bool) (hk : N + 8 < k) (hR : 0 ≤ R ∧ R ≤ 20) (hc : 1 ≤ c ∧ c ≤ 512) :
    ∃ r, plan_next.f k c R back P pass mst l = some r ∧ Nx back (statF l) N R P pass r := by
  have := good_len G
  obtain ⟨r, e, X⟩ := next_ok k c R back P pass mst l G.ok (by omega) ⟨G.inv.P0, by rw [G.t]; exact G.inv.PN⟩ G.pass hR hc
  rw [G.t] at X
  exact ⟨r, e, X⟩
theorem NextG {C : Int → Bool} {N : Int} {l : List S56} {P pass mst : Int} (G : Good C N l P pass mst) (k : Nat) (c R : Int) (back : Bool) (hk : N + 8 < k) (hR : 0 ≤ R ∧ R ≤ 20) (hc : 1 ≤ c ∧ c ≤ 512) :
    ∃ r, plan_next.f k c R back P pass mst l = some r ∧ Nx back (statF l) N R P pass r ∧ plan_Next.f k c R back P pass mst l = some (r.1, r.2.1, r.2.2.1) := by
  obtain ⟨r, e, X⟩ := nextG G k c R back hk hR hc
  refine ⟨r, e, X, ?_⟩
  unfold plan_Next.f
  rw [may_ok back hc hR]
  simp only [Option.bind_some, if_true]
  rw [mmay_ok G]
  simp only [Option.bind_some, if_true]
  rw [e]; rfl
theorem statusG {C : Int → Bool} {N : Int} {l : List S56} {P pass mst : Int} (G : Good C N l P pass mst) (k : Nat) (c R : Int) (back : Bool) (hk : N + 8 < k) (hR : 0 ≤ R ∧ R ≤ 20) (hc : 1 ≤ c ∧ c ≤ 512) :
    ∃ v, plan_status.f k c R back P pass mst l = some v ∧ isB v = true := by
  obtain ⟨r, e, X⟩ := nextG G k c R back hk hR hc
  unfold plan_status.f
  rw [e]
  simp only [Option.bind_some]
  repeat' split
  all_goals exact ⟨_, rfl, by decide⟩
theorem AfterG {C : Int → Bool} {N : Int} {l : List S56} {P pass mst : Int} (G : Good C N l P pass mst) (n : Nat) (hn : (n : Int) = N) (hN : N ≤ 10000) (k : Nat) (c R : Int) (back : Bool) (got : Int) (hk : N + 12 < k) (hR : 0 ≤ R ∧ R ≤ 20) (hc : 1 ≤ c ∧ c ≤ 512)
    {r : Int × Int × Int × Bool} (hr : ∀ k' : Nat, N + 8 < k' → plan_next.f k' c R back P pass mst l = some r) (X : Nx back (statF l) N R P pass r) (h0 : r.1 ≠ 0) :
    ∃ P' pass' mst' l', plan_After.f k c R back P pass mst l got = some (P', pass', mst', l') ∧ Good C N l' P' pass' mst' ∧ meas C N n back R (statF l') P' pass' < meas C N n back R (statF l) P pass := by
  have hlen := good_len G
  have hok := G.ok
  have hb := hok.2
  have ht := G.t
  unfold plan_After.f plan_copied.f api_Region_30.f
  rw [if_pos (by omega)]
  simp only [Option.bind_some]
  rw [may_ok back hc hR]
  simp only [Option.bind_some, if_true]
  rw [mmay_ok G]
  simp only [Option.bind_some, Bool.not_true]
  obtain ⟨k, rfl⟩ : ∃ m, k = m + 2 := ⟨k - 2, by omega⟩
  simp only [plan_After.j0, Bool.false_eq_true, if_false]
  rw [hr (k + 1) (by omega)]
  simp only [Option.bind_some]
  rw [if_neg h0, mn_eq, mx_eq]
  have fin : ∀ (l' : List S56) (P' pass' : Int) (i p s : Int) (fresh : Bool), Good C N l' P' pass' mst → (if i = 4 then (if back = true then p else wrap64 (p + s)) else P) = P' → (if fresh = true then wrap64 (pass + 1) else pass) = pass' →
      ∃ v, plan_After.j1 (k + 1) fresh c R back P pass mst l' i p s = some (P', pass', v, l') ∧ isB v = true := by
    intro l' P' pass' i p s fresh G' e1 e2
    obtain ⟨v, e, hv⟩ := statusG G' k c R back (by omega) hR hc
    refine ⟨v, ?_, hv⟩
    simp only [plan_After.j1]
    by_cases c1 : i = 4
    · rw [if_pos c1] at e1 ⊢
      cases back with
      | true =>
        simp only [if_true] at e1 ⊢
        cases fresh <;> simp only [Bool.false_eq_true, if_true, if_false] at e2 ⊢ <;> rw [e1, e2, e] <;> rfl
      | false =>
        simp only [Bool.false_eq_true, if_false] at e1 ⊢
        cases fresh <;> simp only [Bool.false_eq_true, if_true, if_false] at e2 ⊢ <;> rw [e1, e2, e] <;> rfl
    · rw [if_neg c1] at e1 ⊢
      subst e1
      cases fresh <;> simp only [Bool.false_eq_true, if_true, if_false] at e2 ⊢ <;> rw [e2, e] <;> rfl
  cases X with
  | over => exact absurd rfl h0
  | one i st p s hi S =>
    have hi' : i = 1 ∧ st = 63 ∨ i = 2 ∧ st = 42 ∨ i = 3 ∧ st = 47 := by omega
    have := S.p0; have := S.pq; have := S.qN
    obtain ⟨l', e, o', t', B⟩ := done_ok (k + 1) l hok (by omega) i p s (min (max got 0) s) (by omega) S.p0 (by omega) (by omega) (by omega) (fun h2 x a b => by rw [S.all x a b]; omega)
    rw [ht] at B
    obtain ⟨I', hlt⟩ := step_one n hn G.inv hi' S B
    obtain ⟨v, e1, hv⟩ := fin l' P pass i p s false ⟨o', by omega, I', G.pass, G.st⟩ (by rw [if_neg (by omega)]) rfl
    rw [e]
    refine ⟨P, pass, v, l', e1, ⟨o', by omega, I', G.pass, hv⟩, ?_⟩
    unfold meas
    rw [if_neg (show ¬ phi C N (statF l) n = 0 by omega)]
    have := tail_le C N n back R (statF l') P pass G.pass.1
    split <;> omega
  | again p s n1 n2 n3 hp S =>
    have := S.p0; have := S.pq; have := S.qN
    obtain ⟨l', e, o', t', B⟩ := done_ok (k + 1) l hok (by omega) 4 p s (min (max got 0) s) (by omega) S.p0 (by omega) (by omega) (by omega) (fun h2 => absurd h2 (by decide))
    rw [ht] at B
    obtain ⟨I', hz, hlt, _⟩ := step_again n hn G.inv G.inv.at_ n1 n2 n3 S B
    have eP : (if (4 : Int) = 4 then (if back = true then p else wrap64 (p + s)) else P) = (if back = true then p else p + s) := by
      rw [if_pos rfl, w64 (by omega)]
    obtain ⟨v, e1, hv⟩ := fin l' _ pass 4 p s false ⟨o', by omega, I', G.pass, G.st⟩ eP rfl
    rw [e]
    refine ⟨_, pass, v, l', e1, ⟨o', by omega, I', G.pass, hv⟩, ?_⟩
    unfold meas
    rw [if_pos (phi_zero n hn n1 n2 n3), if_pos hz, if_pos hp, if_pos hp]
    omega
  | fresh p s n1 n2 n3 hp hno S =>
    have := S.p0; have := S.pq; have := S.qN
    obtain ⟨l', e, o', t', B⟩ := done_ok (k + 1) l hok (by omega) 4 p s (min (max got 0) s) (by omega) S.p0 (by omega) (by omega) (by omega) (fun h2 => absurd h2 (by decide))
    rw [ht] at B
    obtain ⟨I', hz, _, hlt⟩ := step_again n hn G.inv (by cases back <;> simp) n1 n2 n3 S B
    have eP : (if (4 : Int) = 4 then (if back = true then p else wrap64 (p + s)) else P) = (if back = true then p else p + s) := by
      rw [if_pos rfl, w64 (by omega)]
    have hpass := G.pass
    obtain ⟨v, e1, hv⟩ := fin l' _ (pass + 1) 4 p s true ⟨o', by omega, I', by omega, G.st⟩ eP (by rw [if_pos rfl, w64 (by omega)])
    rw [e]
    refine ⟨_, pass + 1, v, l', e1, ⟨o', by omega, I', by omega, hv⟩, ?_⟩
    unfold meas
    rw [if_pos (phi_zero n hn n1 n2 n3), if_pos hz, if_pos (show pass < R by omega), if_pos hp]
    rw [show (R - 1 - pass).toNat = 1 + (R - 1 - (pass + 1)).toNat by omega, Nat.add_mul]
    omega
theorem set_gen (l : List S56) (pos n st : Int) (h : Ok l) (hp : 0 ≤ pos ∧ pos ≤ 1000000) (hn : 0 ≤ n ∧ n ≤ 1000000) (hst : isB st = true) : ∃ l', region_Set.f l pos n st = some l' ∧ Ok l' ∧ tot l' = tot l := by
  unfold region_Set.f
  rw [h.may]
  simp only [Option.bind_some, Bool.true_and, decide_eq_true hp.1, decide_eq_true hn.1, hst, if_true]
  rw [end_ok l h]
  simp only [Option.bind_some, mn_eq]
  have h2 := h.2
  have ht := tot_nonneg l 0 h.1
  rw [w64 (n := tot l - min pos (tot l)) (by omega), w64 (n := min pos (tot l) + min n (tot l - min pos (tot l))) (by omega)]
  obtain ⟨l', e, w, t, s⟩ := setLoop_ok st (min pos (tot l)) (min pos (tot l) + min n (tot l - min pos (tot l))) (tot l) hst (by omega) (by omega) (by omega) h2 l [] 0 h.1 (by omega) trivial rfl (by omega)
  exact ⟨l', e, ⟨w, by omega⟩, t⟩
end Go.Proofs.Ytiaopkgmhpjeeaa.MBoundHolds

namespace Go.Proofs.Ytiaopkgmhpjeeaa.MBoundHolds
open Go.RowKit Go.Proofs.YtiaopkgmhpjeeaaW.PrintWords Go.Proofs.YtiaopkgmhpjeeaaW.PrintLast Go.Proofs.YtiaopkgmhpjeeaaW.PrintMore
set_option linter.unusedVariables false
set_option linter.unusedSimpArgs false

theorem runs_mono (k : Nat) : ∀ d, salvorlaw21_BoundRuns.f k = some true → salvorlaw21_BoundRuns.f (k + d) = some true
  | 0, h => h
  | d + 1, h => salvorlaw21_BoundRuns.mono _ _ (runs_mono k d h)
theorem runs_ok (k : Nat) (h : 20 ≤ k) : salvorlaw21_BoundRuns.f k = some true := by
  have := runs_mono 20 (k - 20) (by decide +kernel)
  rwa [show 20 + (k - 20) = k by omega] at this
theorem next_mono (c R : Int) (back : Bool) (P pass mst : Int) (l : List S56) (k : Nat) (r : Int × Int × Int × Bool) : ∀ d, plan_next.f k c R back P pass mst l = some r → plan_next.f (k + d) c R back P pass mst l = some r
  | 0, h => h
  | d + 1, h => plan_next.mono _ _ _ _ _ _ _ _ _ (next_mono c R back P pass mst l k r d h)

/-- the loop: as many acts as are left at most -/
theorem loop_ok {C : Int → Bool} {N : Int} (n : Nat) (hn : (n : Int) = N) (hN : N ≤ 10000) (c R : Int) (back : Bool) (hR : 0 ≤ R ∧ R ≤ 20) (hc : 1 ≤ c ∧ c ≤ 512) (l7 : List Int) (hl7 : l7.length ≤ 100) (hw7 : ∀ x ∈ l7, 0 ≤ x ∧ x ≤ 255) (T : Int) (hT : T ≤ 1000000) :
    ∀ (d : Nat) (k : Nat) (i : Int) (l : List S56) (P pass mst : Int), Good C N l P pass mst → 0 ≤ i → i ≤ T → (meas C N n back R (statF l) P pass : Int) ≤ T - i → T - i = d → N + d + 40 < k →
      salvorlaw21_BoundHolds.l0 k l7 T i c R back P pass mst l = some true := by
  intro d
  induction d with
  | zero =>
    intro k i l P pass mst G hi hiT hm hd hk
    obtain ⟨k, rfl⟩ : ∃ m, k = m + 1 := ⟨k - 1, by omega⟩
    simp only [salvorlaw21_BoundHolds.l0]
    rw [if_neg (by omega)]
    obtain ⟨r0, e0, X0⟩ := nextG G (n + 9) c R back (by omega) hR hc
    have hall : ∀ k' : Nat, N + 8 < k' → plan_next.f k' c R back P pass mst l = some r0 := fun k' hk' => by
      have := next_mono c R back P pass mst l (n + 9) r0 (k' - (n + 9)) e0
      rwa [show n + 9 + (k' - (n + 9)) = k' by omega] at this
    obtain ⟨r, e, X, eN⟩ := NextG G k c R back (by omega) hR hc
    obtain rfl : r0 = r := Option.some.inj ((hall k (by omega)).symm.trans e)
    by_cases h0 : r0.1 = 0
    · rw [eN]
      simp only [Option.bind_some]
      have er : r0 = (0, 0, 0, false) := by
        cases X with
        | over => rfl
        | one i st p s hi S => simp only at h0; omega
        | again => simp at h0
        | fresh => simp at h0
      subst er
      simp only [beq_self_eq_true, Bool.and_self, if_true, runs_ok k (by omega), Option.bind_some]
    · obtain ⟨P', pass', mst', l', _, _, hlt⟩ := AfterG G n hn hN (n + 20) c R back 0 (by omega) hR hc hall X h0
      omega
  | succ d ih =>
    intro k i l P pass mst G hi hiT hm hd hk
    obtain ⟨k, rfl⟩ : ∃ m, k = m + 1 := ⟨k - 1, by omega⟩
    simp only [salvorlaw21_BoundHolds.l0]
    rw [if_pos (by omega)]
    obtain ⟨r0, e0, X0⟩ := nextG G (n + 9) c R back (by omega) hR hc
    have hall : ∀ k' : Nat, N + 8 < k' → plan_next.f k' c R back P pass mst l = some r0 := fun k' hk' => by
      have := next_mono c R back P pass mst l (n + 9) r0 (k' - (n + 9)) e0
      rwa [show n + 9 + (k' - (n + 9)) = k' by omega] at this
    obtain ⟨r, e, X, eN⟩ := NextG G k c R back (by omega) hR hc
    obtain rfl : r0 = r := Option.some.inj ((hall k (by omega)).symm.trans e)
    rw [eN]
    simp only [Option.bind_some]
    by_cases h0 : r0.1 = 0
    · rw [if_pos h0]
      have er : r0 = (0, 0, 0, false) := by
        cases X with
        | over => rfl
        | one i st p s hi S => simp only at h0; omega
        | again => simp at h0
        | fresh => simp at h0
      subst er
      simp only [beq_self_eq_true, Bool.and_self, if_true, runs_ok k (by omega), Option.bind_some]
    · rw [if_neg h0]
      have go : ∀ got : Int, ((plan_After.f k c R back P pass mst l got).bind fun bt => salvorlaw21_BoundHolds.l0 k l7 T (wrap64 (i + 1)) c R back bt.1 bt.2.1 bt.2.2.1 bt.2.2.2) = some true := by
        intro got
        obtain ⟨P', pass', mst', l', ea, G', hlt⟩ := AfterG G n hn hN k c R back got (by omega) hR hc hall X h0
        rw [ea]
        simp only [Option.bind_some]
        rw [w64 (by omega)]
        exact ih k (i + 1) l' P' pass' mst' G' (by omega) (by omega) (by omega) (by omega) (by omega)
      by_cases c7 : (l7.length : Int) > 0
      · have h1 := Int.tmod_nonneg (l7.length : Int) hi
        have h2 := Int.tmod_lt_of_pos i c7
        rw [if_pos c7, if_neg (by omega), if_pos h1, if_pos h2]
        exact go _
      · rw [if_neg c7]; exact go 0

/-! ### the map that the law begins with -/
theorem cut_ok (x : S53) (h : 0 ≤ x.f2 ∧ x.f2 ≤ 255) : ∃ s, salvorlaw16_Cut_of.f x.f0 x.f1 x.f2 = some s ∧ isB s = true := by
  unfold salvorlaw16_Cut_of.f
  have h1 := Int.tmod_nonneg 5 h.1
  have h2 := Int.tmod_lt_of_pos x.f2 (b := 5) (by omega)
  simp only [Option.bind_some]
  rw [if_pos h1, if_pos (by simpa using h2)]
  refine ⟨_, rfl, ?_⟩
  generalize Int.tmod x.f2 5 = m at *
  rcases (show m = 0 ∨ m = 1 ∨ m = 2 ∨ m = 3 ∨ m = 4 by omega) with rfl | rfl | rfl | rfl | rfl <;> decide
def Small (x : S53) : Prop := (0 ≤ x.f0 ∧ x.f0 ≤ 255) ∧ (0 ≤ x.f1 ∧ x.f1 ≤ 255) ∧ (0 ≤ x.f2 ∧ x.f2 ≤ 255)
theorem made_l0 (l1 : List S53) (hl : l1.length ≤ 1000) (hs : ∀ x ∈ l1, Small x) : ∀ (d i k : Nat) (l : List S56), l1.length - i = d → i ≤ l1.length → d < k → Ok l → ∃ l', salvorlaw16_Made.l0 k l1 l (i : Int) = some l' ∧ Ok l' ∧ tot l' = tot l
  | 0, i, k, l, hd, hi, hk, h => by
    obtain ⟨k, rfl⟩ : ∃ m, k = m + 1 := ⟨k - 1, by omega⟩
    simp only [salvorlaw16_Made.l0]
    rw [if_neg (by omega)]
    exact ⟨l, rfl, h, rfl⟩
  | d + 1, i, k, l, hd, hi, hk, h => by
    obtain ⟨k, rfl⟩ : ∃ m, k = m + 1 := ⟨k - 1, by omega⟩
    have hlt : i < l1.length := by omega
    have e : rd_T53 l1 (i : Int) = l1[i] := by unfold rd_T53; simp [List.getD, hlt]
    have hx := hs l1[i] (List.getElem_mem _)
    simp only [salvorlaw16_Made.l0]
    rw [if_pos (by omega), if_pos (by omega), e]
    obtain ⟨s, e1, h1⟩ := cut_ok l1[i] hx.2.2
    rw [e1]
    simp only [Option.bind_some]
    have := hx.1; have := hx.2.1
    rw [w64 (n := l1[i].f0) (by omega), w64 (n := l1[i].f1) (by omega), w64 (n := (i : Int) + 1) (by omega)]
    obtain ⟨l2, e2, o2, t2⟩ := set_gen l l1[i].f0 l1[i].f1 s h (by omega) (by omega) h1
    rw [e2]
    simp only [Option.bind_some]
    obtain ⟨l3, e3, o3, t3⟩ := made_l0 l1 hl hs d (i + 1) k l2 (by omega) (by omega) (by omega) o2
    rw [show ((i + 1 : Nat) : Int) = (i : Int) + 1 by omega] at e3
    exact ⟨l3, e3, o3, by omega⟩
theorem made_ok (k : Nat) (a0 : Int) (h0 : 0 ≤ a0 ∧ a0 ≤ 255) (l1 : List S53) (hl : l1.length ≤ 1000) (hs : ∀ x ∈ l1, Small x) (hk : l1.length < k) : ∃ l, salvorlaw16_Made.f k a0 l1 = some l ∧ Ok l ∧ tot l = a0 := by
  unfold salvorlaw16_Made.f region_New.f
  rw [w64 (by omega)]
  by_cases c : a0 < 1
  · rw [if_pos c]
    simp only [Option.bind_some]
    obtain ⟨l, e, o, t⟩ := made_l0 l1 hl hs l1.length 0 k [] (by omega) (by omega) hk ⟨trivial, by simp [tot]⟩
    exact ⟨l, e, o, by simp only [tot] at t; omega⟩
  · rw [if_neg c, if_neg (by omega)]
    simp only [Option.bind_some]
    obtain ⟨l, e, o, t⟩ := made_l0 l1 hl hs l1.length 0 k [⟨0, a0, 63⟩] (by omega) (by omega) hk ⟨⟨rfl, by simp only; omega, (show isB 63 = true by decide), (show (-1 : Int) ≠ 63 by decide), trivial⟩, by simp [tot]; omega⟩
    exact ⟨l, e, o, by simp only [tot] at t; omega⟩
/-! ### how many cells -/
def isStart (l : List S56) (x : Int) : Bool := l.any (fun r => r.f0 == x)
theorem stat_same : ∀ (l : List S56) (e x : Int), WF e l → e ≤ x → x + 1 < e + tot l → isStart l (x + 1) = false → statF l (x + 1) = statF l x
  | [], e, x, _, h1, h2, _ => by simp only [tot] at h2; omega
  | r :: l, e, x, h, h1, h2, h3 => by
    simp only [isStart, List.any_cons, Bool.or_eq_false_iff, beq_eq_false_iff_ne] at h3
    simp only [tot] at h2
    have h0 := h.1; have hr := h.2.1
    simp only [statF]
    by_cases c1 : r.f0 ≤ x ∧ x < r.f0 + r.f1
    · rw [if_pos c1]
      by_cases c2 : r.f0 ≤ x + 1 ∧ x + 1 < r.f0 + r.f1
      · rw [if_pos c2]
      · have e1 : x + 1 = e + r.f1 := by omega
        cases l with
        | nil => simp only [tot] at h2; omega
        | cons y l =>
          have := h.2.2.2.2.1
          have h4 := h3.2
          simp only [List.any_cons, Bool.or_eq_false_iff, beq_eq_false_iff_ne] at h4
          exact absurd (by omega) h4.1
    · rw [if_neg c1, if_neg (by omega)]
      exact stat_same l _ x h.2.2.2.2 (by omega) (by omega) h3.2
theorem cnt_add {g h : Nat → Nat} : ∀ n, cnt (fun x => g x + h x) n = cnt g n + cnt h n
  | 0 => rfl
  | n + 1 => by simp only [cnt]; rw [cnt_add n]; omega
theorem cnt_eq (v : Int) : ∀ n, cnt (fun x => if (v == (x : Int) + 1) then 1 else 0) n ≤ 1 ∧ ((n : Int) < v → cnt (fun x => if (v == (x : Int) + 1) then 1 else 0) n = 0)
  | 0 => by simp [cnt]
  | n + 1 => by
    have ih := cnt_eq v n
    simp only [cnt]
    by_cases c : v = (n : Int) + 1
    · rw [ih.2 (by omega)]; simp [c]
    · have : (v == (n : Int) + 1) = false := by simpa using c
      rw [this]; simp only [Bool.false_eq_true, if_false]
      exact ⟨ih.1, fun h => ih.2 (by omega)⟩
theorem or_le (a b : Bool) : (if (a || b) = true then 1 else 0) ≤ (if a = true then 1 else 0) + (if b = true then 1 else 0) := by cases a <;> cases b <;> simp
theorem or4_le (a b c d : Bool) : (if (a || b || c || d) = true then 1 else 0) ≤ (if (a || d) = true then 1 else 0) + ((if b = true then 1 else 0) + (if c = true then 1 else 0)) := by cases a <;> cases b <;> cases c <;> cases d <;> simp
theorem cnt_starts (n : Nat) : ∀ (l : List S56), cnt (fun x => if isStart l ((x : Int) + 1) then 1 else 0) n ≤ l.length
  | [] => by
    have h := cnt_zero (g := fun x : Nat => if isStart [] ((x : Int) + 1) then 1 else 0) n (fun x _ => rfl)
    rw [h]; exact Nat.zero_le _
  | r :: l => by
    have h1 := (cnt_eq r.f0 n).1
    have h2 := cnt_starts n l
    have h3 : cnt (fun x => if isStart (r :: l) ((x : Int) + 1) then 1 else 0) n ≤ cnt (fun x => (if (r.f0 == (x : Int) + 1) then 1 else 0) + (if isStart l ((x : Int) + 1) then 1 else 0)) n := by
      refine cnt_le n (fun x _ => ?_)
      unfold isStart
      simp only [List.any_cons]
      exact or_le _ _
    rw [cnt_add] at h3
    simp only [List.length_cons]; omega
theorem cnt_starts' (n : Nat) (l : List S56) (h : WF 0 l) (hl : l ≠ []) : cnt (fun x => if isStart l ((x : Int) + 1) then 1 else 0) n + 1 ≤ l.length := by
  cases l with
  | nil => exact absurd rfl hl
  | cons r l =>
    have h2 := cnt_starts n l
    have h3 : cnt (fun x => if isStart (r :: l) ((x : Int) + 1) then 1 else 0) n ≤ cnt (fun x => if isStart l ((x : Int) + 1) then 1 else 0) n := by
      refine cnt_le n (fun x _ => ?_)
      have : (r.f0 == (x : Int) + 1) = false := by have := h.1; simp; omega
      unfold isStart
      simp only [List.any_cons, this, Bool.false_or]; exact Nat.le_refl _
    simp only [List.length_cons]; omega
theorem cnt_eight : ∀ n : Nat, cnt (fun x => if ((x : Int) + 1) % 8 == 0 then 1 else 0) n = n / 8
  | 0 => rfl
  | n + 1 => by
    simp only [cnt]; rw [cnt_eight n]
    by_cases c : ((n : Int) + 1) % 8 = 0
    · simp only [c, beq_self_eq_true, if_true]; omega
    · have : (((n : Int) + 1) % 8 == 0) = false := by simpa using c
      rw [this]; simp only [Bool.false_eq_true, if_false]; omega
def cuts (l : List S56) (P x : Int) : Bool := x % 8 == 0 || P == x || isStart l x
theorem cells_le (l : List S56) (h : WF 0 l) (hl : l ≠ []) (P : Int) (n : Nat) (hn : (n : Int) = tot l) : cellsN (cuts l P) (tot l) n ≤ (n + 7) / 8 + l.length := by
  have h0 : 0 < n := by
    have := wf_len l 0 h
    have := List.length_pos_iff.2 hl
    omega
  obtain ⟨m, rfl⟩ : ∃ m, n = m + 1 := ⟨n - 1, by omega⟩
  have hs := cnt_starts' (m + 1) l h hl
  have hp := (cnt_eq P (m + 1)).1
  have h8 : cnt (fun x => if (((x : Int) + 1) % 8 == 0 || (x : Int) + 1 == tot l) then 1 else 0) (m + 1) ≤ (m + 1 + 7) / 8 := by
    simp only [cnt]
    have e1 : cnt (fun x => if (((x : Int) + 1) % 8 == 0 || (x : Int) + 1 == tot l) then 1 else 0) m ≤ cnt (fun x => if ((x : Int) + 1) % 8 == 0 then 1 else 0) m := by
      refine cnt_le m (fun x hx => ?_)
      have : ((x : Int) + 1 == tot l) = false := by simp; omega
      rw [this, Bool.or_false]; exact Nat.le_refl _
    rw [cnt_eight] at e1
    have : ∀ (b : Bool), (if b = true then 1 else 0) ≤ 1 := by intro b; cases b <;> simp
    have := this (((m : Int) + 1) % 8 == 0 || (m : Int) + 1 == tot l)
    omega
  have h3 : cellsN (cuts l P) (tot l) (m + 1) ≤ cnt (fun x => (if (((x : Int) + 1) % 8 == 0 || (x : Int) + 1 == tot l) then 1 else 0) + ((if (P == (x : Int) + 1) then 1 else 0) + (if isStart l ((x : Int) + 1) then 1 else 0))) (m + 1) := by
    refine cnt_le _ (fun x _ => ?_)
    unfold isLast cuts
    exact or4_le _ _ _ _
  rw [cnt_add, cnt_add] at h3
  omega
end Go.Proofs.Ytiaopkgmhpjeeaa.MBoundHolds

namespace Go.Proofs.Ytiaopkgmhpjeeaa.MBoundHolds
open Go.RowKit Go.Proofs.YtiaopkgmhpjeeaaW.PrintWords Go.Proofs.YtiaopkgmhpjeeaaW.PrintLast Go.Proofs.YtiaopkgmhpjeeaaW.PrintMore
set_option linter.unusedVariables false
set_option linter.unusedSimpArgs false

theorem acts_ok {C : Int → Bool} {N : Int} {l : List S56} {P pass mst : Int} (G : Good C N l P pass mst) (hN : N ≤ 10000) (k : Nat) (c R : Int) (back : Bool) (hc : 1 ≤ c ∧ c ≤ 512) (hR : 0 ≤ R ∧ R ≤ 20) (hk : 0 < k) :
    bound_Acts.f k c R back P pass mst l = some ((3 + 2 * R) * ((N + 7) / 8 + l.length)) := by
  obtain ⟨k, rfl⟩ : ∃ m, k = m + 1 := ⟨k - 1, by omega⟩
  have hl := good_len G
  have hN0 := tot_nonneg l 0 G.ok.1
  rw [G.t] at hN0
  unfold bound_Acts.f
  rw [may_ok back hc hR]
  simp only [Option.bind_some, if_true]
  rw [mmay_ok G]
  simp only [Option.bind_some, Bool.not_true, bound_Acts.j0, Bool.false_eq_true, if_false]
  rw [End_ok l G.ok, G.t]
  simp only [Option.bind_some, bound_Sectors.f]
  rw [if_neg (by omega), if_neg (by omega)]
  simp only [Option.bind_some]
  rw [w64 (n := N + 8) (by omega), w64 (n := N + 8 - 1) (by omega), Int.tdiv_eq_ediv_of_nonneg (by omega), w64 (n := (N + 8 - 1) / 8) (by omega), w64 (n := 2 * R) (by omega), w64 (n := 3 + 2 * R) (by omega), w64 (n := (N + 8 - 1) / 8 + (l.length : Int)) (by omega)]
  rw [show N + 8 - 1 = N + 7 by omega]
  obtain ⟨u, hu⟩ : ∃ u, (N + 7) / 8 + (l.length : Int) = u := ⟨_, rfl⟩
  rw [hu]
  have hu0 : 0 ≤ u ∧ u ≤ 20000 := by omega
  have h1 : 0 ≤ (3 + 2 * R) * u := Int.mul_nonneg (by omega) hu0.1
  have h2 : (3 + 2 * R) * u ≤ 43 * 20000 := Int.mul_le_mul (by omega) hu0.2 hu0.1 (by omega)
  rw [w64 (by omega)]

theorem bound_holds (a0 : Int) (l1 : List S53) (a2 a3 : Int) (a4 : Bool) (a5 a6 : Int) (l7 : List Int) (h0 : 0 ≤ a0 ∧ a0 ≤ 255) (h1 : ∀ x ∈ l1, Small x) (h2 : 0 ≤ a2 ∧ a2 ≤ 255) (h3 : 0 ≤ a3 ∧ a3 ≤ 255) (h5 : 0 ≤ a5 ∧ a5 ≤ 255) (h6 : 0 ≤ a6 ∧ a6 ≤ 255) (h7 : ∀ x ∈ l7, 0 ≤ x ∧ x ≤ 255) :
    ∃ k, salvorlaw21_BoundHolds.f k a0 l1 a2 a3 a4 a5 a6 l7 = some true := by
  refine ⟨2000000, ?_⟩
  unfold salvorlaw21_BoundHolds.f
  obtain ⟨K, hK⟩ : ∃ K : Nat, 2000000 = K + 1 := ⟨1999999, rfl⟩
  rw [hK]
  have hK2 : K = 1999999 := by omega
  have hruns : ∀ b, b = true → salvorlaw21_BoundHolds.j0 (K + 1) a0 l1 a2 a3 a4 a5 a6 l7 b = some true := by
    intro b hb; subst hb
    simp only [salvorlaw21_BoundHolds.j0, if_true, runs_ok K (by omega), Option.bind_some]
  by_cases c1 : (l1.length : Int) > 10
  · rw [if_pos c1]; exact hruns _ rfl
  rw [if_neg c1]
  by_cases c2 : (l7.length : Int) > 100
  · exact hruns _ (decide_eq_true c2)
  rw [decide_eq_false c2]
  simp only [salvorlaw21_BoundHolds.j0, Bool.false_eq_true, if_false, salvorlaw18_Opts.f, salvorlaw18_Map.f, Option.bind_some]
  have t2 := Int.tmod_nonneg 6 h2.1
  have t2' := Int.tmod_lt_of_pos a2 (b := 6) (by omega)
  have t3 := Int.tmod_nonneg 5 h3.1
  have t3' := Int.tmod_lt_of_pos a3 (b := 5) (by omega)
  have t6 := Int.tmod_nonneg 6 h6.1
  have t6' := Int.tmod_lt_of_pos a6 (b := 6) (by omega)
  have t5 := Int.tmod_nonneg (a0 + 1) h5.1
  have t5' := Int.tmod_lt_of_pos a5 (b := a0 + 1) (by omega)
  rw [w64 (n := a0) (by omega), w64 (n := a5) (by omega), w64 (n := a0 + 1) (by omega), if_neg (by omega), w64 (n := Int.tmod a2 6) (by omega), w64 (n := Int.tmod a2 6 + 1) (by omega), w64 (n := Int.tmod a3 5) (by omega), w64 (n := Int.tmod a6 6) (by omega)]
  obtain ⟨c, hcc⟩ : ∃ c, Int.tmod a2 6 + 1 = c := ⟨_, rfl⟩
  rw [hcc]
  generalize Int.tmod a3 5 = R at *
  generalize Int.tmod a6 6 = pass at *
  generalize Int.tmod a5 (a0 + 1) = P at *
  obtain ⟨l, e, o, t⟩ := made_ok K a0 h0 l1 (by omega) h1 (by omega)
  rw [e]
  simp only [Option.bind_some]
  have G : Good (cuts l P) a0 l P pass 63 := ⟨o, t, ⟨fun x hx => by simp [cuts, hx], fun x hx hxN hC => by
      simp only [cuts, Bool.or_eq_false_iff] at hC
      exact .inr (stat_same l 0 x o.1 hx (by omega) hC.2), t5, by omega, .inl (by simp [cuts])⟩, by omega, by decide⟩
  rw [mmay_ok G]
  simp only [Option.bind_some, if_true]
  have hc : 1 ≤ c ∧ c ≤ 512 := by omega
  rw [acts_ok G (by omega) K c R a4 hc (by omega) (by omega)]
  simp only [Option.bind_some]
  have hlen := good_len G
  obtain ⟨n, hn⟩ : ∃ n : Nat, (n : Int) = a0 := ⟨a0.toNat, by omega⟩
  obtain ⟨u, hu⟩ : ∃ u, (a0 + 7) / 8 + (l.length : Int) = u := ⟨_, rfl⟩
  rw [hu]
  have hu0 : 0 ≤ u ∧ u ≤ 300 := by omega
  have g1 : 0 ≤ (3 + 2 * R) * u := Int.mul_nonneg (by omega) hu0.1
  have g2 : (3 + 2 * R) * u ≤ 43 * 300 := Int.mul_le_mul (by omega) hu0.2 hu0.1 (by omega)
  have hm : (meas (cuts l P) a0 n a4 R (statF l) P pass : Int) ≤ (3 + 2 * R) * u := by
    have m1 := meas_le (cuts l P) a0 n a4 R (statF l) P pass (by omega)
    have m2 : cellsN (cuts l P) a0 n ≤ u.toNat := by
      by_cases el : l = []
      · subst el
        simp only [tot] at t
        obtain rfl : n = 0 := by omega
        exact Nat.zero_le _
      · have := cells_le l o.1 el P n (by omega)
        rw [t] at this; omega
    have m3 : (3 + R.toNat) * cellsN (cuts l P) a0 n ≤ (3 + 2 * R.toNat) * u.toNat := Nat.mul_le_mul (by omega) m2
    have m4 : (((3 + 2 * R.toNat) * u.toNat : Nat) : Int) = (3 + 2 * R) * u := by
      rw [Int.natCast_mul, Int.natCast_add, Int.natCast_mul, Int.toNat_of_nonneg t3, Int.toNat_of_nonneg hu0.1]; rfl
    omega
  exact loop_ok n hn (by omega) c R a4 (by omega) hc l7 (by omega) h7 _ (by omega) ((3 + 2 * R) * u).toNat K 0 l P pass 63 G (by omega) g1 (by omega) (by omega) (by omega)
end Go.Proofs.Ytiaopkgmhpjeeaa.MBoundHolds
