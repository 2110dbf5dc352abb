import Derived.Test.YtiaopkgmhpjeeaaG1
import Derived.Test.YtiaopkgmhpjeeaaProg
import Derived.Below
import Derived.Deep.Draws
import Derived.Deep.AppendLies
import Derived.Maps.AppendAt
import Derived.OwnWalk
import Derived.Laws.BytesArg
import Derived.Laws.MakeOwn
import Derived.Laws.OwnMore
import Derived.Deep.OwnRows
import Derived.Tactics
import Derived.Lib.ConvBytes
import Derived.Laws.Slices
import Derived.WalkKit
import Derived.KernelRfl
import Derived.RowKit3
import Derived.Deep.LoopGhost
import Derived.Deep.QuietTactic
import Derived.BigQuiet
import Derived.WideLaws
import Derived.Deep.DeepCutAuto
import Derived.Deep.CutBlock
import Derived.Deep.RegionHeld3
import Derived.Laws.Rows
import Derived.Lib.AppendStr
import Derived.ArgAppend
import Derived.Laws.IdiomCopy
import Derived.OrdersHeld
import Derived.Laws.BitsLemmas
import Derived.RowKit
import Derived.RangeFuncNested
import Derived.RangeFuncBox
import Derived.WalkSpells
-- printed by myprint.py (a program of this session's, over the kit's printer)
namespace Go.Proofs.Ytiaopkgmhpjeeaa.MBoundHolds
open Go.RowKit Go.Proofs.YtiaopkgmhpjeeaaW.PrintWords Go.Proofs.YtiaopkgmhpjeeaaW.PrintLast Go.Proofs.YtiaopkgmhpjeeaaW.PrintMore
attribute [local go_sem] max2_int min2_int max_two min_two max_three min_three max_four min_four   -- for this text's walks alone
set_option linter.unusedVariables false
set_option linter.unusedSimpArgs false



def errW : Option Int → Value
  | none => .nilIface
  | some c => .iface 0 (.int .i64 c)
theorem errW_none : errW none = .nilIface := rfl
theorem errW_some (c : Int) : errW (some c) = .iface 0 (.int .i64 c) := rfl

theorem info5 : (Try.prog.info? 5).map (fun i => (i.zero, i.size, i.bytes)) = some (some (.int .u8 0), 1, 1) := by kernel_rfl
theorem info56 : (Try.prog.info? 56).map (fun i => (i.zero, i.size, i.bytes)) = some (some (.agg #[(.int .i64 0), (.int .i64 0), (.int .u8 0)]), 3, 24) := by kernel_rfl
theorem info57 : (Try.prog.info? 57).map (fun i => (i.zero, i.size, i.bytes)) = some (some (.agg #[(.int .i64 0), (.int .u8 0), (.int .i64 0)]), 3, 24) := by kernel_rfl
-- the values' own types
/-! #### struct type 56 -/
structure S56 where
  f0 : Int
  f1 : Int
  f2 : Int
def z56 : S56 := ⟨(0 : Int), (0 : Int), (0 : Int)⟩
def k56 : Kd S56 := Kd.iso (Kd.pair (Kd.int .i64) (Kd.pair (Kd.int .i64) (Kd.int .u8))) (fun x : S56 => (x.f0, x.f1, x.f2))
theorem k56_open {w : World} {x : S56} {cs : List Value} (h : k56.K w x cs) : cs = [.int .i64 x.f0, .int .i64 x.f1, .int .u8 x.f2] := by
  obtain ⟨_, _, rfl, rfl, ⟨_, _, rfl, rfl, rfl⟩⟩ := h
  exact rfl
theorem k56_openM {w : World} {base : Nat} {ok : Nat → Prop} {x : S56} {cs : List Value} (h : k56.M w base ok x cs) : cs = [.int .i64 x.f0, .int .i64 x.f1, .int .u8 x.f2] := by
  obtain ⟨_, _, rfl, rfl, ⟨_, _, rfl, rfl, rfl⟩⟩ := h
  exact rfl
theorem k56_mk (w : World) (x : S56)  : k56.K w x [.int .i64 x.f0, .int .i64 x.f1, .int .u8 x.f2] := ⟨[.int .i64 x.f0], [.int .i64 x.f1, .int .u8 x.f2], rfl, rfl, ⟨[.int .i64 x.f1], [.int .u8 x.f2], rfl, rfl, rfl⟩⟩
theorem k56_mkM (w : World) (base : Nat) (ok : Nat → Prop) (x : S56)  : k56.M w base ok x [.int .i64 x.f0, .int .i64 x.f1, .int .u8 x.f2] := ⟨[.int .i64 x.f0], [.int .i64 x.f1, .int .u8 x.f2], rfl, rfl, ⟨[.int .i64 x.f1], [.int .u8 x.f2], rfl, rfl, rfl⟩⟩
def rd_T56 (xs : List S56) (i : Int) : S56 := xs.getD i.toNat z56
theorem at_T56 {w : World} {A : Option Addr} {n : Nat} {xs : List S56} (h : Kd.C k56 w A n xs) (i : Int) (h0 : 0 ≤ i) (h1 : i < n) : ∃ ad , A = some ad ∧ w.cell? (ad.add (i.toNat * 3)) = some (.int .i64 (rd_T56 xs i).f0) ∧ w.cell? ⟨(ad.add (i.toNat * 3)).block, (ad.add (i.toNat * 3)).off + 1, none⟩ = some (.int .i64 (rd_T56 xs i).f1) ∧ w.cell? ⟨(ad.add (i.toNat * 3)).block, (ad.add (i.toNat * 3)).off + 2, none⟩ = some (.int .u8 (rd_T56 xs i).f2) := by
  obtain ⟨ad, c, e, _, hK, hc0⟩ := Kd.C_get h z56 i h0 h1
  have hc : ∀ j u, c[j]? = some u → w.cell? (ad.add (i.toNat * 3 + j)) = some u := hc0
  obtain rfl := k56_open hK
  exact ⟨ad, e, hc 0 _ rfl, by rw [← add_field _ _ 1 (by omega)]; exact hc 1 _ rfl, by rw [← add_field _ _ 2 (by omega)]; exact hc 2 _ rfl⟩

/-! #### struct type 53 -/
structure S53 where
  f0 : Int
  f1 : Int
  f2 : Int
def z53 : S53 := ⟨(0 : Int), (0 : Int), (0 : Int)⟩
def k53 : Kd S53 := Kd.iso (Kd.pair (Kd.int .u8) (Kd.pair (Kd.int .u8) (Kd.int .u8))) (fun x : S53 => (x.f0, x.f1, x.f2))
theorem k53_open {w : World} {x : S53} {cs : List Value} (h : k53.K w x cs) : cs = [.int .u8 x.f0, .int .u8 x.f1, .int .u8 x.f2] := by
  obtain ⟨_, _, rfl, rfl, ⟨_, _, rfl, rfl, rfl⟩⟩ := h
  exact rfl
theorem k53_openM {w : World} {base : Nat} {ok : Nat → Prop} {x : S53} {cs : List Value} (h : k53.M w base ok x cs) : cs = [.int .u8 x.f0, .int .u8 x.f1, .int .u8 x.f2] := by
  obtain ⟨_, _, rfl, rfl, ⟨_, _, rfl, rfl, rfl⟩⟩ := h
  exact rfl
theorem k53_mk (w : World) (x : S53)  : k53.K w x [.int .u8 x.f0, .int .u8 x.f1, .int .u8 x.f2] := ⟨[.int .u8 x.f0], [.int .u8 x.f1, .int .u8 x.f2], rfl, rfl, ⟨[.int .u8 x.f1], [.int .u8 x.f2], rfl, rfl, rfl⟩⟩
theorem k53_mkM (w : World) (base : Nat) (ok : Nat → Prop) (x : S53)  : k53.M w base ok x [.int .u8 x.f0, .int .u8 x.f1, .int .u8 x.f2] := ⟨[.int .u8 x.f0], [.int .u8 x.f1, .int .u8 x.f2], rfl, rfl, ⟨[.int .u8 x.f1], [.int .u8 x.f2], rfl, rfl, rfl⟩⟩
def rd_T53 (xs : List S53) (i : Int) : S53 := xs.getD i.toNat z53
theorem at_T53 {w : World} {A : Option Addr} {n : Nat} {xs : List S53} (h : Kd.C k53 w A n xs) (i : Int) (h0 : 0 ≤ i) (h1 : i < n) : ∃ ad , A = some ad ∧ w.cell? (ad.add (i.toNat * 3)) = some (.int .u8 (rd_T53 xs i).f0) ∧ w.cell? ⟨(ad.add (i.toNat * 3)).block, (ad.add (i.toNat * 3)).off + 1, none⟩ = some (.int .u8 (rd_T53 xs i).f1) ∧ w.cell? ⟨(ad.add (i.toNat * 3)).block, (ad.add (i.toNat * 3)).off + 2, none⟩ = some (.int .u8 (rd_T53 xs i).f2) := by
  obtain ⟨ad, c, e, _, hK, hc0⟩ := Kd.C_get h z53 i h0 h1
  have hc : ∀ j u, c[j]? = some u → w.cell? (ad.add (i.toNat * 3 + j)) = some u := hc0
  obtain rfl := k53_open hK
  exact ⟨ad, e, hc 0 _ rfl, by rw [← add_field _ _ 1 (by omega)]; exact hc 1 _ rfl, by rw [← add_field _ _ 2 (by omega)]; exact hc 2 _ rfl⟩

/-! #### struct type 57 -/
structure S57 where
  f0 : Int
  f1 : Int
  f2 : Int
def z57 : S57 := ⟨(0 : Int), (0 : Int), (0 : Int)⟩
def k57 : Kd S57 := Kd.iso (Kd.pair (Kd.int .i64) (Kd.pair (Kd.int .u8) (Kd.int .i64))) (fun x : S57 => (x.f0, x.f1, x.f2))
theorem k57_open {w : World} {x : S57} {cs : List Value} (h : k57.K w x cs) : cs = [.int .i64 x.f0, .int .u8 x.f1, .int .i64 x.f2] := by
  obtain ⟨_, _, rfl, rfl, ⟨_, _, rfl, rfl, rfl⟩⟩ := h
  exact rfl
theorem k57_openM {w : World} {base : Nat} {ok : Nat → Prop} {x : S57} {cs : List Value} (h : k57.M w base ok x cs) : cs = [.int .i64 x.f0, .int .u8 x.f1, .int .i64 x.f2] := by
  obtain ⟨_, _, rfl, rfl, ⟨_, _, rfl, rfl, rfl⟩⟩ := h
  exact rfl
theorem k57_mk (w : World) (x : S57)  : k57.K w x [.int .i64 x.f0, .int .u8 x.f1, .int .i64 x.f2] := ⟨[.int .i64 x.f0], [.int .u8 x.f1, .int .i64 x.f2], rfl, rfl, ⟨[.int .u8 x.f1], [.int .i64 x.f2], rfl, rfl, rfl⟩⟩
theorem k57_mkM (w : World) (base : Nat) (ok : Nat → Prop) (x : S57)  : k57.M w base ok x [.int .i64 x.f0, .int .u8 x.f1, .int .i64 x.f2] := ⟨[.int .i64 x.f0], [.int .u8 x.f1, .int .i64 x.f2], rfl, rfl, ⟨[.int .u8 x.f1], [.int .i64 x.f2], rfl, rfl, rfl⟩⟩
def rd_T57 (xs : List S57) (i : Int) : S57 := xs.getD i.toNat z57
theorem at_T57 {w : World} {A : Option Addr} {n : Nat} {xs : List S57} (h : Kd.C k57 w A n xs) (i : Int) (h0 : 0 ≤ i) (h1 : i < n) : ∃ ad , A = some ad ∧ w.cell? (ad.add (i.toNat * 3)) = some (.int .i64 (rd_T57 xs i).f0) ∧ w.cell? ⟨(ad.add (i.toNat * 3)).block, (ad.add (i.toNat * 3)).off + 1, none⟩ = some (.int .u8 (rd_T57 xs i).f1) ∧ w.cell? ⟨(ad.add (i.toNat * 3)).block, (ad.add (i.toNat * 3)).off + 2, none⟩ = some (.int .i64 (rd_T57 xs i).f2) := by
  obtain ⟨ad, c, e, _, hK, hc0⟩ := Kd.C_get h z57 i h0 h1
  have hc : ∀ j u, c[j]? = some u → w.cell? (ad.add (i.toNat * 3 + j)) = some u := hc0
  obtain rfl := k57_open hK
  exact ⟨ad, e, hc 0 _ rfl, by rw [← add_field _ _ 1 (by omega)]; exact hc 1 _ rfl, by rw [← add_field _ _ 2 (by omega)]; exact hc 2 _ rfl⟩

end Go.Proofs.Ytiaopkgmhpjeeaa.MBoundHolds

-- printed by myprint.py (a program of this session's, over the kit's printer)
namespace Go.Proofs.Ytiaopkgmhpjeeaa.MBoundHolds
open Go.RowKit Go.Proofs.YtiaopkgmhpjeeaaW.PrintWords Go.Proofs.YtiaopkgmhpjeeaaW.PrintLast Go.Proofs.YtiaopkgmhpjeeaaW.PrintMore
attribute [local go_sem] max2_int min2_int max_two min_two max_three min_three max_four min_four   -- for this text's walks alone
set_option linter.unusedVariables false
set_option linter.unusedSimpArgs false

theorem eqA35 (d : Nat) (w : World) (x0 y0 : Int) (x1 y1 : Int) (x2 y2 : Int) :
    (Op.equalIn (d + 2) 35 (.agg #[.int .i64 x0, .int .i64 x1, .int .i64 x2]) (.agg #[.int .i64 y0, .int .i64 y1, .int .i64 y2])).run Try.prog w = .ok (x0 == y0 && (x1 == y1 && (x2 == y2))) w := by
  refine eqA_of Try.underlying35 (by kernel_rfl) ?_
  refine eqf_cons (by rfl) (by go_simp; rfl) (by go_simp; rfl) (by go_simp) ?_
  refine eqf_cons (by rfl) (by go_simp; rfl) (by go_simp; rfl) (by go_simp) ?_
  exact eqf_last (by rfl) (by go_simp; rfl) (by go_simp; rfl) (by go_simp)
end Go.Proofs.Ytiaopkgmhpjeeaa.MBoundHolds

-- printed by myprint.py (a program of this session's, over the kit's printer)
namespace Go.Proofs.Ytiaopkgmhpjeeaa.MBoundHolds
open Go.RowKit Go.Proofs.YtiaopkgmhpjeeaaW.PrintWords Go.Proofs.YtiaopkgmhpjeeaaW.PrintLast Go.Proofs.YtiaopkgmhpjeeaaW.PrintMore
attribute [local go_sem] max2_int min2_int max_two min_two max_three min_three max_four min_four   -- for this text's walks alone
set_option linter.unusedVariables false
set_option linter.unusedSimpArgs false

/-! ### region_New: function 22 -/
def region_New.f (a0 : Int) : Option ((List (S56))) := if a0 < 1 then (some ([] : List (S56))) else (if a0 > 1099511627776 then (some ([] : List (S56))) else (some (([(⟨0, a0, 63⟩ : S56)] : List (S56)))))
set_option maxHeartbeats 8000000 in
set_option maxRecDepth 100000 in
theorem region_New.calls (a0 : Int) (r : List (S56)) (w : World) (h : region_New.f a0 = some r) :
    Calls Try.prog 22 #[.int .i64 a0] w fun e w' => ∃ v0_ : Value, e = .returned (v0_) ∧ Kd.R k56 56 w' w.heap.size (fun _ => True) v0_ r ∧ Below w.heap.size w w' := by
  have hu56 := Try.underlying56
  have HB := Aside0.mk (Below.refl w.heap.size w)
  have H : (if a0 < 1 then (some ([] : List (S56))) else (if a0 > 1099511627776 then (some ([] : List (S56))) else (some (([(⟨0, a0, 63⟩ : S56)] : List (S56)))))) = some r := h
  clear h
  by_cases c2 : a0 < 1
  · rw [if_pos c2] at H
    have c2b0 : decide (a0 < 1) = true := decide_eq_true c2
    clear c2
    obtain rfl := Option.some.inj H
    go_enter Try.func22, Try.ntmps22
    go_wp2
    go_ret
    exact ⟨_, by first | rfl | (simp [errW_none, errW_some] <;> rfl) | (simp [*, errW_none, errW_some] <;> rfl), by first | exact Kd.R_nil _ _ _ _ _ | exact Kd.N_nil _ _ _ _ _ | exact Kd.V_nil _ _ _ _ _ | exact Kd.Q_nil _ _ _ _ _ | exact Kd.S_nil _ _ _ _ _, by repeat (first | (with_reducible first | exact HB.out | apply below_alloc | apply pw_below_drewN | apply below_drew1) | exact HB.out)⟩
  · rw [if_neg c2] at H
    have c2b0 : decide (a0 < 1) = false := decide_eq_false c2
    clear c2
    by_cases c3 : a0 > 1099511627776
    · rw [if_pos c3] at H
      have c3b0 : decide (1099511627776 < a0) = true := decide_eq_true c3
      clear c3
      obtain rfl := Option.some.inj H
      go_enter Try.func22, Try.ntmps22
      go_wp2
      go_ret
      exact ⟨_, by first | rfl | (simp [errW_none, errW_some] <;> rfl) | (simp [*, errW_none, errW_some] <;> rfl), by first | exact Kd.R_nil _ _ _ _ _ | exact Kd.N_nil _ _ _ _ _ | exact Kd.V_nil _ _ _ _ _ | exact Kd.Q_nil _ _ _ _ _ | exact Kd.S_nil _ _ _ _ _, by repeat (first | (with_reducible first | exact HB.out | apply below_alloc | apply pw_below_drewN | apply below_drew1) | exact HB.out)⟩
    · rw [if_neg c3] at H
      have c3b0 : decide (1099511627776 < a0) = false := decide_eq_false c3
      clear c3
      obtain ⟨y101, hy101⟩ : ∃ y_ : List (S56), y_ = (([(⟨0, a0, 63⟩ : S56)] : List (S56))) := ⟨_, rfl⟩
      replace H : (some y101) = some r := by first | (rw [hy101]; with_reducible exact H) | (have H2_ := (Option.bind_some _ _).symm.trans H; rw [hy101]; with_reducible exact H2_) | (have H2_ := (Option.bind_some _ _).symm.trans H; with_reducible exact H2_) | with_reducible exact H | (rw [hy101]; exact H) | exact H
      have Ny101 := Aside0.mk hy101
      clear hy101
      obtain rfl := Option.some.inj H
      go_enter Try.func22, Try.ntmps22
      go_wp2_with (first | ((with_reducible refine gate_dst (N := 11) rfl ?_); refine Kd.R_lit k56 _ 56 ?hg (N := 11) ?hd (xs := ([(⟨0, a0, 63⟩ : S56)] : List (S56))) (inner := [.int .i64 0, .int .i64 a0, .int .u8 63]) (ok := fun _ => True) (okp := fun _ => True) ?hr ?hp (fun _ hk => hk) trivial (Below.refl _ _) (Nat.le_refl _) (by simp) ?_; (case hd => rfl); (case hg => rfl); (case hr => first | (go_simp; done) | (go_simp; rfl)); (case hp => exact (Reps.c3 (show Kd.M k56 _ _ _ (⟨0, a0, 63⟩ : S56) [.int .i64 0, .int .i64 a0, .int .u8 63] from (k56_mkM _ _ _ (⟨0, a0, 63⟩ : S56) )) (Reps.none _ _))); intro v102 w4 ho5 hb hg_ hnew_; clear hg_ hnew_; (first | rw [← Ny101.out] at ho5 | (simp only [Int.reduceToNat] at ho5; rw [← Ny101.out] at ho5)); have n0_ := Aside0.mk (Kd.R_lower ho5 (below_size (by repeat (first | (with_reducible first | exact HB.out | apply below_alloc | apply pw_below_drewN | apply below_drew1) | exact HB.out)))); have n1_ := Aside0.mk (below_step (by repeat (first | (with_reducible first | exact HB.out | apply below_alloc | apply pw_below_drewN | apply below_drew1) | exact HB.out)) hb); clear HB; have HO103 := n0_; have HB := n1_; clear n0_ n1_; clear hb ho5))
      go_ret
      exact ⟨_, by first | rfl | (simp [errW_none, errW_some] <;> rfl) | (simp [*, errW_none, errW_some] <;> rfl), by (with_reducible repeat (first | apply Kd.R_alloc | apply Kd.R_drewN | apply Kd.R_drew)); exact HO103.out, by repeat (first | (with_reducible first | exact HB.out | apply below_alloc | apply pw_below_drewN | apply below_drew1) | exact HB.out)⟩

end Go.Proofs.Ytiaopkgmhpjeeaa.MBoundHolds

-- printed by myprint.py (a program of this session's, over the kit's printer)
namespace Go.Proofs.Ytiaopkgmhpjeeaa.MBoundHolds
open Go.RowKit Go.Proofs.YtiaopkgmhpjeeaaW.PrintWords Go.Proofs.YtiaopkgmhpjeeaaW.PrintLast Go.Proofs.YtiaopkgmhpjeeaaW.PrintMore
attribute [local go_sem] max2_int min2_int max_two min_two max_three min_three max_four min_four   -- for this text's walks alone
set_option linter.unusedVariables false
set_option linter.unusedSimpArgs false

/-! ### salvorlaw16_Cut_of: function 24 -/
def salvorlaw16_Cut_of.f (a0_0 : Int) (a0_1 : Int) (a0_2 : Int) : Option (Int) := (some (([63, 42, 47, 45, 43] : List Int) : List Int)).bind fun y118 => (if 0 ≤ (Int.tmod a0_2 5) then (if (Int.tmod a0_2 5) < (y118.length : Int) then (some (rd y118 (Int.tmod a0_2 5))) else (none)) else (none))
set_option maxHeartbeats 8000000 in
set_option maxRecDepth 100000 in
theorem salvorlaw16_Cut_of.calls (a0_0 : Int) (a0_1 : Int) (a0_2 : Int) (r : Int) (w : World) (h : salvorlaw16_Cut_of.f a0_0 a0_1 a0_2 = some r) :
    Calls Try.prog 24 #[.agg #[.int .u8 a0_0, .int .u8 a0_1, .int .u8 a0_2]] w fun e w' => e = .returned (.int .u8 r) ∧ Below w.heap.size w w' := by
  have hu53 := Try.underlying53
  have HB := Aside0.mk (Below.refl w.heap.size w)
  have H : ((some (([63, 42, 47, 45, 43] : List Int) : List Int)).bind fun y118 => (if 0 ≤ (Int.tmod a0_2 5) then (if (Int.tmod a0_2 5) < (y118.length : Int) then (some (rd y118 (Int.tmod a0_2 5))) else (none)) else (none))) = some r := h
  clear h
  obtain ⟨y118, hy118⟩ : ∃ y_ : List Int, y_ = (([63, 42, 47, 45, 43] : List Int)) := ⟨_, rfl⟩
  replace H : (if 0 ≤ (Int.tmod a0_2 5) then (if (Int.tmod a0_2 5) < (y118.length : Int) then (some (rd y118 (Int.tmod a0_2 5))) else (none)) else (none)) = some r := by first | (rw [hy118]; with_reducible exact H) | (have H2_ := (Option.bind_some _ _).symm.trans H; rw [hy118]; with_reducible exact H2_) | (have H2_ := (Option.bind_some _ _).symm.trans H; with_reducible exact H2_) | with_reducible exact H | (rw [hy118]; exact H) | exact H
  have Ny118 := Aside0.mk hy118
  clear hy118
  obtain ⟨ji2, hji2⟩ : ∃ j_ : Int, (Int.tmod a0_2 5) = j_ := ⟨_, rfl⟩
  replace H : (if 0 ≤ (ji2) then (if (ji2) < (y118.length : Int) then (some (rd y118 (ji2))) else (none)) else (none)) = some r := by first | (rw [hji2] at H; exact H) | (simp only [hji2] at H ⊢; exact H)
  by_cases c3 : 0 ≤ (ji2)
  · rw [if_pos c3] at H
    have c3b0 : decide (0 ≤ (ji2)) = true := decide_eq_true c3
    clear c3
    by_cases c4 : (ji2) < (y118.length : Int)
    · rw [if_pos c4] at H
      have c4b0 : decide ((ji2) < (y118.length : Int)) = true := decide_eq_true c4
      clear c4
      obtain rfl := Option.some.inj H
      go_enter Try.func24, Try.ntmps24
      go_wp2_with (first | ((with_reducible refine gate_dst (N := 1) rfl ?_); refine box_event ?hg (N := 1) ?hd (cs := #[.int .u8 a0_0, .int .u8 a0_1, .int .u8 a0_2]) (t := 53) ?hr ?_; (case hd => rfl); (case hg => rfl); (case hr => first | (go_simp; done) | (go_simp; rfl)); intro gb117 hg w5 hbox hb; have n0_ := Aside0.mk (below_step (by repeat (first | (with_reducible first | exact HB.out | apply below_alloc | apply pw_below_drewN | apply below_drew1) | exact HB.out)) hb); have n1_ := Aside0.mk (hbox); have n2_ := Aside0.mk ((by rw [hg]; exact (below_size (by repeat (first | (with_reducible first | exact HB.out | apply below_alloc | apply pw_below_drewN | apply below_drew1) | exact HB.out))) : w.heap.size ≤ gb117)); have n3_ := Aside0.mk ((by rw [hg]; exact (below_size (by repeat (first | (with_reducible first | exact HB.out | apply below_alloc | apply pw_below_drewN | apply below_drew1) | exact HB.out))) : w.heap.size ≤ gb117)); clear HB; have HB := n0_; have BK117 := n1_; have GW117 := n2_; have GE117 := n3_; clear n0_ n1_ n2_ n3_; clear hb hbox hg) | ((with_reducible refine gate_dst (N := 3) rfl ?_); refine Kd.R_lit (Kd.int .u8) _ 5 ?hg (N := 3) ?hd (xs := ([63, 42, 47, 45, 43] : List Int)) (inner := [.int .u8 63, .int .u8 42, .int .u8 47, .int .u8 45, .int .u8 43]) (ok := fun _ => True) (okp := fun _ => True) ?hr ?hp (fun _ hk => hk) trivial (Below.refl _ _) (Nat.le_refl _) (by simp) ?_; (case hd => rfl); (case hg => rfl); (case hr => first | (go_simp; done) | (go_simp; rfl)); (case hp => exact (Reps.one (show Kd.M (Kd.int .u8) _ _ _ 63 [.int .u8 63] from rfl) (Reps.one (show Kd.M (Kd.int .u8) _ _ _ 42 [.int .u8 42] from rfl) (Reps.one (show Kd.M (Kd.int .u8) _ _ _ 47 [.int .u8 47] from rfl) (Reps.one (show Kd.M (Kd.int .u8) _ _ _ 45 [.int .u8 45] from rfl) (Reps.one (show Kd.M (Kd.int .u8) _ _ _ 43 [.int .u8 43] from rfl) (Reps.none _ _))))))); intro v119 w6 ho7 hb hg_ hnew_; clear hg_ hnew_; (first | rw [← Ny118.out] at ho7 | (simp only [Int.reduceToNat] at ho7; rw [← Ny118.out] at ho7)); have n0_ := Aside0.mk (Kd.R_lower ho7 (below_size (by repeat (first | (with_reducible first | exact HB.out | apply below_alloc | apply pw_below_drewN | apply below_drew1 | refine below_set ?_ GE117.out) | exact HB.out)))); have n1_ := Aside0.mk (blk_below (g := gb117) (o := .cells #[.int .u8 a0_0, .int .u8 a0_1, .int .u8 a0_2] 53 (0, 0)) (by (with_reducible repeat (first | refine blk_drewN ?_ _ | refine blk_drew ?_ | refine blk_alloc ?_ _)); exact BK117.out) hb); have n2_ := Aside0.mk (below_step (by repeat (first | (with_reducible first | exact HB.out | apply below_alloc | apply pw_below_drewN | apply below_drew1 | refine below_set ?_ GE117.out) | exact HB.out)) hb); clear BK117; clear HB; have HO120 := n0_; have BK117 := n1_; have HB := n2_; clear n0_ n1_ n2_; clear hb ho7; have hcz8_0 : w6.cell? ⟨gb117, 0, none⟩ = some (.int .u8 a0_0) := (blk_cell BK117.out 0).trans rfl; have hcz8_1 : w6.cell? ⟨gb117, 1, none⟩ = some (.int .u8 a0_1) := (blk_cell BK117.out 1).trans rfl; have hcz8_2 : w6.cell? ⟨gb117, 2, none⟩ = some (.int .u8 a0_2) := (blk_cell BK117.out 2).trans rfl; have hfz8_0 := blk_frozen BK117.out 0; have hfz8_1 := blk_frozen BK117.out 1; have hfz8_2 := blk_frozen BK117.out 2; obtain ⟨Ao9, co9, eo9⟩ := Kd.R_slice HO120.out; subst eo9; have p121 : 0 ≤ ((ji2) : Int) := of_decide_eq_true (by first | (with_reducible assumption) | assumption); have q121 : (ji2) < (y118.length : Int) := of_decide_eq_true (by first | (with_reducible assumption) | assumption); obtain ⟨ad121, e121, hx121_0⟩ := Kd.at_int (Kd.R_reads' HO120.out).2.2 (ji2) p121 q121; cases e121; replace p121 := eq_true p121; replace q121 := eq_true q121))
      go_ret
      exact ⟨by first | rfl | (simp [errW_none, errW_some] <;> rfl) | (simp only [← hji2]; first | rfl | (simp [errW_none, errW_some] <;> rfl)) | (simp [*, errW_none, errW_some] <;> rfl), by repeat (first | (with_reducible first | exact HB.out | apply below_alloc | apply pw_below_drewN | apply below_drew1 | refine below_set ?_ GE117.out) | exact HB.out)⟩
    · rw [if_neg c4] at H
      exact absurd H (by simp)
  · rw [if_neg c3] at H
    exact absurd H (by simp)

end Go.Proofs.Ytiaopkgmhpjeeaa.MBoundHolds

namespace Go.Sal
open Go Go.RowKit
variable {P : Program} {ops : Array Oper} {C : World → Prop} {Q : Act → Prop} {a : Act} {o : Oper} {rest : List Oper}
/-- one operation of a region that draws, in each world of the class -/
theorem wpQuiet_op {v : Value} (hw : Region.wanted o (yielded ops a.tmps) = true) (h : ∀ w, C w → o.quietAt P a C w v)
    (hn : wpQuiet P ops C Q rest (a.put o.dst v)) : wpQuiet P ops C Q (o :: rest) a := by
  unfold wpQuiet; rw [if_pos hw]; exact ⟨v, h, hn⟩
theorem wpQuiet_opE (hw : Region.wanted o (yielded ops a.tmps) = true) (h : ∃ v, (∀ w, C w → o.quietAt P a C w v) ∧ wpQuiet P ops C Q rest (a.put o.dst v)) : wpQuiet P ops C Q (o :: rest) a :=
  let ⟨_, h1, h2⟩ := h
  wpQuiet_op hw h1 h2
theorem wpQuiet_off (hw : Region.wanted o (yielded ops a.tmps) = false) (hn : wpQuiet P ops C Q rest (a.put o.dst undef)) : wpQuiet P ops C Q (o :: rest) a := by
  unfold wpQuiet; rw [if_neg (by simp [hw])]; exact hn
/-- a region that draws its order, whose operations read, and whose calls make new memory alone -/
theorem wp_region_ext {id : Nat} {Q' : Exit → Act → World → Prop} {w : World} {l : List Oper} (hm : P.follows .mixedOrders = true) (hB : Region.lexB .any l.toArray = true)
    (h : wpQuiet P l.toArray (Below w.heap.size w) (fun a' => ∀ w', Below w.heap.size w w' → Q' .normal a' w') l a) : (Code.region id l.toArray true).wp P Q' a w :=
  wp_region_quiet (C := Below w.heap.size w) hm hB ⟨rfl, rfl, rfl, Nat.le_refl _, fun _ _ => rfl⟩ (by simpa using h)
theorem lt_of_cell {w : World} {b o : Nat} {v : Value} (h : w.cell? ⟨b, o, none⟩ = some v) : b < w.heap.size := World.block_lt_of_cell? w _ h
theorem cell_later {w w' : World} {b o : Nat} {v : Value} (hb : Below w.heap.size w w') (h : w.cell? ⟨b, o, none⟩ = some v) : w'.cell? ⟨b, o, none⟩ = some v :=
  (hb.cell (p := ⟨b, o, none⟩) (lt_of_cell h)).trans h
theorem blk_cell' {w : World} {g : Nat} {t : TypeId} {cs : Array Value} (h : w.heap[g]? = some (.cells cs t (0, 0))) (i : Nat) {v : Value} (e : cs[i]? = some v) : w.cell? ⟨g, i, none⟩ = some v := (cell_of_row w g i cs t (0, 0) h).trans e
theorem blkN (w : World) (o : Obj) : (w.alloc o).heap[w.heap.size]? = some o := by
  show (w.heap.push o)[w.heap.size]? = _
  simp
theorem blk_later {w w' : World} {g : Nat} {o : Obj} (hb : Below w.heap.size w w') (h : w.heap[g]? = some o) : w'.heap[g]? = some o :=
  (hb.block g (by by_cases hg : g < w.heap.size; exact hg; rw [Array.getElem?_eq_none (by omega)] at h; cases h)).trans h
/-- a whole block -/
def Blk (W : World) (b : Nat) (cs : Array Value) (t : TypeId) : Prop := W.heap[b]? = some (.cells cs t (0, 0))
theorem Blk.lt {W : World} {b : Nat} {cs : Array Value} {t : TypeId} (h : Blk W b cs t) : b < W.heap.size := (Array.getElem?_eq_some_iff.1 h).1
theorem Blk.cell {W : World} {b : Nat} {cs : Array Value} {t : TypeId} (h : Blk W b cs t) (i : Nat) {v : Value} (e : cs[i]? = some v) : W.cell? ⟨b, i, none⟩ = some v := blk_cell' h i e
theorem Blk.frozen {W : World} {b : Nat} {cs : Array Value} {t : TypeId} (h : Blk W b cs t) (i : Nat) : W.frozen? ⟨b, i, none⟩ = false := by simp [World.frozen?, show W.heap[b]? = _ from h]
theorem Blk.new (W : World) (cs : Array Value) (t : TypeId) : Blk (W.alloc (.cells cs t)) W.heap.size cs t := blkN W _
theorem Blk.later {W W' : World} {b : Nat} {cs : Array Value} {t : TypeId} (h : Blk W b cs t) (hb : Below W.heap.size W W') : Blk W' b cs t := blk_later hb h
theorem Blk.below {W W' : World} {n₀ b : Nat} {cs : Array Value} {t : TypeId} (h : Blk W b cs t) (hb : Below n₀ W W') (hl : b < n₀) : Blk W' b cs t := (hb.block b hl).trans h
theorem Blk.alloc {W : World} {b : Nat} {cs : Array Value} {t : TypeId} (h : Blk W b cs t) (o : Obj) : Blk (W.alloc o) b cs t := h.later ((Below.refl _ W).alloc (Nat.le_refl _) o)
theorem Blk.drewN {W : World} {b : Nat} {cs : Array Value} {t : TypeId} (h : Blk W b cs t) (n : Nat) : Blk (W.drewN n) b cs t := h
theorem Blk.set {W : World} {b : Nat} {cs : Array Value} {t : TypeId} (h : Blk W b cs t) (i : Nat) (u : Value) : Blk (W.setCell ⟨b, i, none⟩ u) b (cs.setIfInBounds i u) t := by
  obtain ⟨hlt, hk⟩ := Array.getElem?_eq_some_iff.1 h
  show (W.heap.modify b _)[b]? = _
  rw [Array.getElem?_eq_getElem (by rw [Array.size_modify]; exact hlt), Array.getElem_modify_self, hk]
  rfl
theorem Blk.set' {W : World} {b : Nat} {cs cs' : Array Value} {t : TypeId} (h : Blk W b cs t) (i : Nat) (u : Value) (e : cs.setIfInBounds i u = cs') : Blk (W.setCell ⟨b, i, none⟩ u) b cs' t := e ▸ h.set i u
theorem Blk.set_other {W : World} {b : Nat} {cs : Array Value} {t : TypeId} (h : Blk W b cs t) {p : Addr} (u : Value) (hne : b ≠ p.block) : Blk (W.setCell p u) b cs t := (Below.heap_setCell W p u b hne).trans h
theorem Blk.grown {W W' : World} {b : Nat} {cs : Array Value} {t : TypeId} {row : Option Nat} (h : Blk W b cs t) (hg : W.grownBy W' row) (hne : some b ≠ row) : Blk W' b cs t := (hg.block b h.lt hne).trans h
/-- what is no cells is turned: this block stays -/
theorem Blk.kept {W W' : World} {b : Nat} {cs : Array Value} {t : TypeId} {row : Option Nat} (h : Blk W b cs t) (hg : W.grownBy W' row) (hr : ∀ r, row = some r → ∃ o : Obj, W.heap[r]? = some o ∧ o.isCells = false) : Blk W' b cs t := by
  refine h.grown hg (fun e => ?_)
  obtain ⟨o, ho, hc⟩ := hr b e.symm
  rw [show W.heap[b]? = _ from h] at ho
  cases ho
  simp [Obj.isCells] at hc
end Go.Sal

-- printed by myprint.py (a program of this session's, over the kit's printer)
namespace Go.Proofs.Ytiaopkgmhpjeeaa.MBoundHolds
open Go.RowKit Go.Proofs.YtiaopkgmhpjeeaaW.PrintWords Go.Proofs.YtiaopkgmhpjeeaaW.PrintLast Go.Proofs.YtiaopkgmhpjeeaaW.PrintMore
attribute [local go_sem] max2_int min2_int max_two min_two max_three min_three max_four min_four   -- for this text's walks alone
set_option linter.unusedVariables false
set_option linter.unusedSimpArgs false

/-! ### region_Is: function 16 -/
def region_Is.f (a0 : Int) : Option (Bool) := if a0 = 63 then (some true) else (if a0 = 42 then (some true) else (if a0 = 47 then (some true) else (if a0 = 45 then (some true) else (if a0 = 43 then (some true) else (some false)))))
set_option maxHeartbeats 8000000 in
set_option maxRecDepth 100000 in
theorem region_Is.calls (a0 : Int) (r : Bool) (w : World) (h : region_Is.f a0 = some r) :
    Calls Try.prog 16 #[.int .u8 a0] w fun e w' => e = .returned (.bool r) ∧ Drawn0 w w' := by
  have H : (if a0 = 63 then (some true) else (if a0 = 42 then (some true) else (if a0 = 47 then (some true) else (if a0 = 45 then (some true) else (if a0 = 43 then (some true) else (some false)))))) = some r := h
  clear h
  by_cases c2 : a0 = 63
  · rw [if_pos c2] at H
    have c2b0 : (a0 == 63) = true := beq_iff_eq.mpr c2
    have c2b1 : (a0 != 63) = false := bne_eq_false_iff_eq.mpr c2
    clear c2
    obtain rfl := Option.some.inj H
    go_enter Try.func16, Try.ntmps16
    go_wp2
    go_ret
    exact ⟨by first | rfl | (simp; done) | (simp [*]; done), by repeat (first | exact Drawn0.refl _ | apply Drawn0.step)⟩
  · rw [if_neg c2] at H
    have c2b0 : (a0 == 63) = false := beq_eq_false_iff_ne.mpr c2
    have c2b1 : (a0 != 63) = true := bne_iff_ne.mpr c2
    by_cases c3 : a0 = 42
    · rw [if_pos c3] at H
      have c3b0 : (a0 == 42) = true := beq_iff_eq.mpr c3
      have c3b1 : (a0 != 42) = false := bne_eq_false_iff_eq.mpr c3
      clear c3
      obtain rfl := Option.some.inj H
      go_enter Try.func16, Try.ntmps16
      go_wp2
      go_ret
      exact ⟨by first | rfl | (simp; done) | (simp [*]; done), by repeat (first | exact Drawn0.refl _ | apply Drawn0.step)⟩
    · rw [if_neg c3] at H
      have c3b0 : (a0 == 42) = false := beq_eq_false_iff_ne.mpr c3
      have c3b1 : (a0 != 42) = true := bne_iff_ne.mpr c3
      by_cases c4 : a0 = 47
      · rw [if_pos c4] at H
        have c4b0 : (a0 == 47) = true := beq_iff_eq.mpr c4
        have c4b1 : (a0 != 47) = false := bne_eq_false_iff_eq.mpr c4
        clear c4
        obtain rfl := Option.some.inj H
        go_enter Try.func16, Try.ntmps16
        go_wp2
        go_ret
        exact ⟨by first | rfl | (simp; done) | (simp [*]; done), by repeat (first | exact Drawn0.refl _ | apply Drawn0.step)⟩
      · rw [if_neg c4] at H
        have c4b0 : (a0 == 47) = false := beq_eq_false_iff_ne.mpr c4
        have c4b1 : (a0 != 47) = true := bne_iff_ne.mpr c4
        by_cases c5 : a0 = 45
        · rw [if_pos c5] at H
          have c5b0 : (a0 == 45) = true := beq_iff_eq.mpr c5
          have c5b1 : (a0 != 45) = false := bne_eq_false_iff_eq.mpr c5
          clear c5
          obtain rfl := Option.some.inj H
          go_enter Try.func16, Try.ntmps16
          go_wp2
          go_ret
          exact ⟨by first | rfl | (simp; done) | (simp [*]; done), by repeat (first | exact Drawn0.refl _ | apply Drawn0.step)⟩
        · rw [if_neg c5] at H
          have c5b0 : (a0 == 45) = false := beq_eq_false_iff_ne.mpr c5
          have c5b1 : (a0 != 45) = true := bne_iff_ne.mpr c5
          by_cases c6 : a0 = 43
          · rw [if_pos c6] at H
            have c6b0 : (a0 == 43) = true := beq_iff_eq.mpr c6
            have c6b1 : (a0 != 43) = false := bne_eq_false_iff_eq.mpr c6
            clear c6
            obtain rfl := Option.some.inj H
            go_enter Try.func16, Try.ntmps16
            go_wp2
            go_ret
            exact ⟨by first | rfl | (simp; done) | (simp [*]; done), by repeat (first | exact Drawn0.refl _ | apply Drawn0.step)⟩
          · rw [if_neg c6] at H
            have c6b0 : (a0 == 43) = false := beq_eq_false_iff_ne.mpr c6
            have c6b1 : (a0 != 43) = true := bne_iff_ne.mpr c6
            obtain rfl := Option.some.inj H
            go_enter Try.func16, Try.ntmps16
            go_wp2
            go_ret
            exact ⟨by first | rfl | (simp; done) | (simp [*]; done), by repeat (first | exact Drawn0.refl _ | apply Drawn0.step)⟩

end Go.Proofs.Ytiaopkgmhpjeeaa.MBoundHolds

namespace Go.Proofs.Ytiaopkgmhpjeeaa.MBoundHolds
open Go.RowKit Go.Proofs.YtiaopkgmhpjeeaaW.PrintWords Go.Proofs.YtiaopkgmhpjeeaaW.PrintLast Go.Proofs.YtiaopkgmhpjeeaaW.PrintMore
attribute [local go_sem] max2_int min2_int max_two min_two max_three min_three max_four min_four
set_option linter.unusedVariables false
set_option linter.unusedSimpArgs false

theorem lt_of_cell {w : World} {b o : Nat} {v : Value} (h : w.cell? ⟨b, o, none⟩ = some v) : b < w.heap.size := World.block_lt_of_cell? w _ h
def isB (s : Int) : Bool := s == 63 || s == 42 || s == 47 || s == 45 || s == 43
/-- regions from an end on, behind one of a status -/
def mayL : Int → Int → List S56 → Bool
  | _, _, [] => true
  | e, p, x :: l => x.f0 == e && decide (1 ≤ x.f1) && decide (x.f1 ≤ 1099511627776 - e) && isB x.f2 && !(p == x.f2) && mayL (e + x.f1) x.f2 l
def mayB (l : List S56) : Bool := mayL 0 (-1) l
def region_May.f (l0 : List (S56)) : Option (Bool) := if l0.length < 1099511627776 then some (mayB l0) else none

theorem is_calls (s : Int) (w : World) : Calls Try.prog 16 #[.int .u8 s] w fun e w' => e = .returned (.bool (isB s)) ∧ Drawn0 w w' :=
  region_Is.calls s (isB s) w (by unfold region_Is.f isB; repeat' split
                                  all_goals simp [*])
set_option maxHeartbeats 1600000 in
set_option maxRecDepth 100000 in
theorem region_May.calls (A0 : Option Addr) (c0 : Nat) (l0 : List (S56)) (r : Bool) (w : World) (hr0 : Kd.C k56 w A0 l0.length l0) (hc0 : l0.length ≤ c0) (h : region_May.f l0 = some r) :
    Calls Try.prog 14 #[.slice A0 l0.length c0] w fun e w' => e = .returned (.bool r) ∧ Below w.heap.size w w' := by
  have hu56 := Try.underlying56
  have HR0 := Aside0.mk hr0
  have HC0 := Aside0.mk hc0
  clear hr0 hc0
  have HB := Aside0.mk (Below.refl w.heap.size w)
  have hlen : l0.length < 1099511627776 := by
    unfold region_May.f at h; split at h <;> simp_all
  obtain rfl : mayB l0 = r := by
    unfold region_May.f at h; rw [if_pos hlen] at h; exact Option.some.inj h
  clear h
  go_enter Try.func14, Try.ntmps14
  go_wp2
  go_loopw [3, 8] (fun v3 v8 w' => ∃ (i : Nat) (e p : Int), v3 = .int .i64 e ∧ v8 = .int .i64 i ∧ i ≤ l0.length ∧ 0 ≤ e ∧ e ≤ 1099511627776 ∧ Aside0 (mayL e p (l0.drop i) = mayB l0 ∧ (0 < i → p = (rd_T56 l0 (i - 1)).f2) ∧ (i = 0 → p = -1)) ∧ Aside0 (Below w.heap.size w w')) (fun _ v8 _ => l0.length - (intOf v8).toNat)
  case atStart => exact ⟨0, 0, -1, rfl, rfl, by omega, by omega, by omega, ⟨rfl, by omega, fun _ => rfl⟩, HB⟩
  case round =>
    obtain ⟨i, e, p, rfl, rfl, hi, he0, he1, HA, HB⟩ := hrel
    by_cases hlt : i < l0.length
    · obtain ⟨ad, e104, hx0, hx1, hx2⟩ := at_T56 HR0.out (i : Int) (by omega) (by omega)
      cases e104
      simp only [Int.toNat_natCast] at hx0 hx1 hx2
      replace hx0 := (HB.out.cell (World.block_lt_of_cell? w _ hx0)).trans hx0
      replace hx1 := (HB.out.cell (World.block_lt_of_cell? w _ hx1)).trans hx1
      replace hx2 := (HB.out.cell (World.block_lt_of_cell? w _ hx2)).trans hx2
      have hxe : l0.drop i = rd_T56 l0 i :: l0.drop (i + 1) := by
        rw [List.drop_eq_getElem_cons hlt]; unfold rd_T56; simp [List.getD, hlt]
      have HX := Aside0.mk hxe
      clear hxe
      have hprev : 0 < i → ∃ ad', (some ad : Option Addr) = some ad' ∧ w.cell? (ad'.add ((i - 1 : Int).toNat * 3)) = some (.int .i64 (rd_T56 l0 (i - 1)).f0) ∧ w.cell? ⟨(ad'.add ((i - 1 : Int).toNat * 3)).block, (ad'.add ((i - 1 : Int).toNat * 3)).off + 1, none⟩ = some (.int .i64 (rd_T56 l0 (i - 1)).f1) ∧ w.cell? ⟨(ad'.add ((i - 1 : Int).toNat * 3)).block, (ad'.add ((i - 1 : Int).toNat * 3)).off + 2, none⟩ = some (.int .u8 (rd_T56 l0 (i - 1)).f2) := fun h => at_T56 HR0.out (i - 1 : Int) (by omega) (by omega)
      have HP := Aside0.mk hprev
      clear hprev
      generalize hxs : rd_T56 l0 (i : Int) = x at *
      replace hxs := Aside0.mk hxs
      obtain ⟨a, b, s⟩ := x
      dsimp only at hx0 hx1 hx2
      obtain ⟨HA1, HA2, HA3⟩ := HA.out
      rw [HX.out] at HA1
      simp only [mayL] at HA1
      have HA1 := Aside0.mk HA1
      by_cases c1 : a = e
      · subst c1
        have c1b : (a != a) = false := by simp
        by_cases c2 : b < 1
        · have HF := Aside0.mk (show mayB l0 = false by rw [← HA1.out]; simp [show ¬ (1 ≤ b) by omega]); go_wp2; go_quiet ((go_at_call 16; exact Calls.quiet_of ((is_calls _ _).mono fun e w' h => ⟨h.1, h.2.out⟩))); go_wp2; go_ret; exact ⟨by rw [HF.out]; rfl, by repeat (first | exact HB.out | apply below_alloc | apply pw_below_drewN | apply below_drew1)⟩
        · have c2b : decide (b < 1) = false := decide_eq_false c2
          by_cases c3 : 1099511627776 - a < b
          · have HF := Aside0.mk (show mayB l0 = false by rw [← HA1.out]; simp [show ¬ (b ≤ 1099511627776 - a) by omega]); go_wp2; go_quiet ((go_at_call 16; exact Calls.quiet_of ((is_calls _ _).mono fun e w' h => ⟨h.1, h.2.out⟩))); go_wp2; go_ret; exact ⟨by rw [HF.out]; rfl, by repeat (first | exact HB.out | apply below_alloc | apply pw_below_drewN | apply below_drew1)⟩
          · have c3b : decide (1099511627776 - a < b) = false := decide_eq_false c3
            have hw1 : IntKind.i64.wrap (1099511627776 - a) = 1099511627776 - a := IntWalk.i64_in _ (by omega)
            by_cases c4 : isB s = true
            · by_cases c5 : 0 < i
              · obtain ⟨ad', e', hy0, hy1, hy2⟩ := HP.out c5
                cases e'
                replace hy2 := (HB.out.cell (World.block_lt_of_cell? w _ hy2)).trans hy2
                clear hy0 hy1
                have hw2 : IntKind.i64.wrap ((i : Int) - 1) = (i : Int) - 1 := IntWalk.i64_in _ (by omega)
                have hb1 : (0 : Int) ≤ (i : Int) - 1 := by omega
                have hb1' : (1 : Int) ≤ (i : Int) := by omega
                have hb2 : (i : Int) - 1 < (l0.length : Int) := by omega
                have htn : ((i : Int) - 1).toNat = i - 1 := by omega
                rw [htn] at hy2
                have hbl : (ad.add ((i - 1) * 3)).block < wr.heap.size := lt_of_cell hy2
                have c5b : decide ((0:Int) < (i : Int)) = true := by simp; omega
                replace HA2 := HA2 c5
                rw [← HA2] at hy2
                have HA2 := Aside0.mk HA2
                by_cases c6 : p = s
                · have c6b : (p == s) = true := by simpa using c6
                  have HF := Aside0.mk (show mayB l0 = false by rw [← HA1.out]; simp [c6]); go_wp2; go_quiet ((go_at_call 16; exact Calls.quiet_of ((is_calls _ _).mono fun e w' h => ⟨h.1, h.2.out⟩))); go_wp2; go_ret; exact ⟨by rw [HF.out]; rfl, by repeat (first | exact HB.out | apply below_alloc | apply pw_below_drewN | apply below_drew1)⟩
                · have c6b : (p == s) = false := by simpa using c6
                  have HT := Aside0.mk (show mayL (a + b) s (l0.drop (i + 1)) = mayB l0 by rw [← HA1.out]; simp [show 1 ≤ b by omega, show b ≤ 1099511627776 - a by omega, c4, c6])
                  clear HA1
                  go_wp2
                  go_quiet ((go_at_call 16; exact Calls.quiet_of ((is_calls _ _).mono fun e w' h => ⟨h.1, h.2.out⟩)))
                  go_wp2
                  go_roundw
                  case rel => exact ⟨i + 1, a + b, s, by go_num, by go_num, by omega, by omega, by omega, ⟨HT.out, fun _ => by rw [show ((i + 1 : Nat) : Int) - 1 = i by omega, hxs.out], by omega⟩, ⟨by repeat (first | exact HB.out | apply below_alloc | apply pw_below_drewN | apply below_drew1)⟩⟩
                  case measure => simp [intOf]; omega
              · have hi0 := Aside0.mk (show i = 0 by omega)
                have HA3 := Aside0.mk (HA3 hi0.out)
                have c5b : decide ((0:Int) < (i : Int)) = false := by simp; omega
                have HT := Aside0.mk (show mayL (a + b) s (l0.drop (i + 1)) = mayB l0 by rw [← HA1.out]; simp [show 1 ≤ b by omega, show b ≤ 1099511627776 - a by omega, c4, HA3.out]; exact fun _ h => by rw [← h] at c4; simp [isB] at c4)
                clear HA1
                go_wp2
                go_quiet ((go_at_call 16; exact Calls.quiet_of ((is_calls _ _).mono fun e w' h => ⟨h.1, h.2.out⟩)))
                go_wp2
                go_roundw
                case rel => exact ⟨i + 1, a + b, s, by go_num, by go_num, by omega, by omega, by omega, ⟨HT.out, fun _ => by rw [show ((i + 1 : Nat) : Int) - 1 = i by omega, hxs.out], by omega⟩, ⟨by repeat (first | exact HB.out | apply below_alloc | apply pw_below_drewN | apply below_drew1)⟩⟩
                case measure => simp [intOf]; omega
            · have c4b : isB s = false := by simpa using c4
              have HF := Aside0.mk (show mayB l0 = false by rw [← HA1.out]; simp [c4b]); go_wp2; go_quiet ((go_at_call 16; exact Calls.quiet_of ((is_calls _ _).mono fun e w' h => ⟨h.1, h.2.out⟩))); go_wp2; go_ret; exact ⟨by rw [HF.out]; rfl, by repeat (first | exact HB.out | apply below_alloc | apply pw_below_drewN | apply below_drew1)⟩
      · have c1b : (a != e) = true := by simpa using c1
        have HF := Aside0.mk (show mayB l0 = false by rw [← HA1.out]; simp [c1]); go_wp2; go_quiet ((go_at_call 16; exact Calls.quiet_of ((is_calls _ _).mono fun e w' h => ⟨h.1, h.2.out⟩))); go_wp2; go_ret; exact ⟨by rw [HF.out]; rfl, by repeat (first | exact HB.out | apply below_alloc | apply pw_below_drewN | apply below_drew1)⟩
    · have HF := Aside0.mk (show mayB l0 = true by rw [← HA.out.1, List.drop_of_length_le (by omega)]; rfl)
      go_wp2
      go_ret
      exact ⟨by rw [HF.out]; rfl, by repeat (first | exact HB.out | apply below_alloc | apply pw_below_drewN | apply below_drew1)⟩
end Go.Proofs.Ytiaopkgmhpjeeaa.MBoundHolds

namespace Go.Proofs.Ytiaopkgmhpjeeaa.MBoundHolds
open Go.RowKit Go.Proofs.YtiaopkgmhpjeeaaW.PrintWords Go.Proofs.YtiaopkgmhpjeeaaW.PrintLast Go.Proofs.YtiaopkgmhpjeeaaW.PrintMore
attribute [local go_sem] max2_int min2_int max_two min_two max_three min_three max_four min_four
set_option linter.unusedVariables false
set_option linter.unusedSimpArgs false

/-- a copy -/
def api_Region_30.f (l0 : List S56) : Option (List S56) := if l0.length < 1099511627776 then some l0 else none
theorem api_Region_30.calls (A0 : Option Addr) (c0 : Nat) (l0 : List (S56)) (r : List (S56)) (w : World) (hr0 : Kd.C k56 w A0 l0.length l0) (hc0 : l0.length ≤ c0) (h : api_Region_30.f l0 = some r) :
    Calls Try.prog 30 #[.slice A0 l0.length c0] w fun e w' => ∃ v0_ : Value, e = .returned (v0_) ∧ Kd.R k56 56 w' w.heap.size (fun _ => True) v0_ r ∧ Below w.heap.size w w' := by
  have hu28 := Try.underlying28
  have HB := Aside0.mk (Below.refl w.heap.size w)
  have hlen : l0.length < 1099511627776 := by
    unfold api_Region_30.f at h; split at h <;> simp_all
  obtain rfl : l0 = r := by
    unfold api_Region_30.f at h; rw [if_pos hlen] at h; exact Option.some.inj h
  clear h
  have HR0 := Aside0.mk hr0
  clear hr0
  cases A0 with
  | none =>
    obtain rfl : l0 = [] := by
      rcases Nat.eq_zero_or_pos l0.length with h0 | h0
      · exact List.eq_nil_of_length_eq_zero h0
      · obtain ⟨ad, h, _⟩ := HR0.out.2.2 h0
        cases h
    have hq := fun (W : World) (a : Option Addr) (n c n' c' : Nat) => Lib.run_eql_slice_nil (P := Try.prog) W 28 56 a n c n' c' hu28
    go_enter Try.func30, Try.ntmps30
    go_wp2
    refine bodyPost_ret (results_tmp rfl _ _ _) rfl ?_
    exact ⟨_, rfl, Kd.R_nil _ _ _ _ _, HB.out⟩
  | some ad =>
    have hq := fun (W : World) (a : Option Addr) (n c n' c' : Nat) => Lib.run_eql_slice_nil (P := Try.prog) W 28 56 a n c n' c' hu28
    go_enter Try.func30, Try.ntmps30
    have HO := Aside0.mk (show Kd.R k56 56 (w.alloc (Obj.cells #[] 56)) w.heap.size (fun _ => True) (.slice (some ⟨w.heap.size, 0, none⟩) 0 0) [] from
      ⟨fun _ _ => trivial, [], ⟨rfl, .inr ⟨w.heap.size, 0, #[], rfl, Nat.le_refl _, by (show (w.heap.push _)[w.heap.size]? = _); simp, Nat.le_refl _, Nat.zero_le _, rfl, rfl⟩⟩, Reps.none _ _⟩)
    have HC := Aside0.mk (Kd.C_below HR0.out (Below.alloc (Below.refl w.heap.size w) (Nat.le_refl _) (Obj.cells #[] 56)))
    have HB1 := Aside0.mk (Below.alloc (Below.refl w.heap.size w) (Nat.le_refl _) (Obj.cells #[] 56))
    go_wp2_with (first | (at_builtin; refine Kd.R_append_rows k56 (w0 := w) w.heap.size rfl (.tmp 5) (.tmp 6) 28 56 _ 24 rfl Try.underlying28 info56 rfl (by decide) (by omega) (.slice (some ⟨w.heap.size, 0, none⟩) 0 0) [] l0 _ _ _ (fun _ => True) (fun _ => False) rfl rfl HO.out HC.out (fun _ _ h => h) (fun _ h => h.elim) (fun _ _ => trivial) HB1.out (by simp) (by simp only [List.length_nil]; omega) ?_; intro v1 w1 ho1 hb1 hg1 hv1; have HO1 := Aside0.mk ho1; have HB2 := Aside0.mk hb1; clear ho1 hb1 hg1 hv1 HO HC))
    go_ret
    exact ⟨_, rfl, by simpa using HO1.out, HB2.out⟩
end Go.Proofs.Ytiaopkgmhpjeeaa.MBoundHolds

-- printed by myprint.py (a program of this session's, over the kit's printer)
namespace Go.Proofs.Ytiaopkgmhpjeeaa.MBoundHolds
open Go.RowKit Go.Proofs.YtiaopkgmhpjeeaaW.PrintWords Go.Proofs.YtiaopkgmhpjeeaaW.PrintLast Go.Proofs.YtiaopkgmhpjeeaaW.PrintMore
attribute [local go_sem] max2_int min2_int max_two min_two max_three min_three max_four min_four   -- for this text's walks alone
set_option linter.unusedVariables false
set_option linter.unusedSimpArgs false

/-! ### region_end: function 25 -/
def region_end.f (l0 : List (S56)) : Option (Int) := if (l0.length : Int) = 0 then (some 0) else (if 0 ≤ (wrap64 ((l0.length : Int) - 1)) then (if (wrap64 ((l0.length : Int) - 1)) < (l0.length : Int) then (some (wrap64 (((rd_T56 l0 (wrap64 ((l0.length : Int) - 1))).f0) + ((rd_T56 l0 (wrap64 ((l0.length : Int) - 1))).f1)))) else (none)) else (none))
set_option maxHeartbeats 8000000 in
set_option maxRecDepth 100000 in
theorem region_end.calls (A0 : Option Addr) (c0 : Nat) (l0 : List (S56)) (r : Int) (w : World) (hr0 : Kd.C k56 w A0 l0.length l0) (hc0 : l0.length ≤ c0) (h : region_end.f l0 = some r) :
    Calls Try.prog 25 #[.slice A0 l0.length c0] w fun e w' => e = .returned (.int .i64 r) ∧ Below w.heap.size w w' := by
  have hu56 := Try.underlying56
  have HR0 := Aside0.mk hr0
  have HC0 := Aside0.mk hc0
  clear hr0 hc0
  have HB := Aside0.mk (Below.refl w.heap.size w)
  have H : (if (l0.length : Int) = 0 then (some 0) else (if 0 ≤ (wrap64 ((l0.length : Int) - 1)) then (if (wrap64 ((l0.length : Int) - 1)) < (l0.length : Int) then (some (wrap64 (((rd_T56 l0 (wrap64 ((l0.length : Int) - 1))).f0) + ((rd_T56 l0 (wrap64 ((l0.length : Int) - 1))).f1)))) else (none)) else (none))) = some r := h
  clear h
  by_cases c2 : (l0.length : Int) = 0
  · rw [if_pos c2] at H
    have c2b0 : ((l0.length : Int) == 0) = true := beq_iff_eq.mpr c2
    have c2b1 : ((l0.length : Int) != 0) = false := bne_eq_false_iff_eq.mpr c2
    clear c2
    obtain rfl := Option.some.inj H
    go_enter Try.func25, Try.ntmps25
    go_wp2
    go_ret
    exact ⟨by first | rfl | (simp [errW_none, errW_some] <;> rfl) | (simp [*, errW_none, errW_some] <;> rfl), by repeat (first | (with_reducible first | exact HB.out | apply below_alloc | apply pw_below_drewN | apply below_drew1) | exact HB.out)⟩
  · rw [if_neg c2] at H
    have c2b0 : ((l0.length : Int) == 0) = false := beq_eq_false_iff_ne.mpr c2
    have c2b1 : ((l0.length : Int) != 0) = true := bne_iff_ne.mpr c2
    have c2b2 : ¬ (l0 = []) := fun h_ => c2 (by rw [h_]; rfl)
    obtain ⟨ji3, hji3⟩ : ∃ j_ : Int, (wrap64 ((l0.length : Int) - 1)) = j_ := ⟨_, rfl⟩
    replace H : (if 0 ≤ (ji3) then (if (ji3) < (l0.length : Int) then (some (wrap64 (((rd_T56 l0 (ji3)).f0) + ((rd_T56 l0 (ji3)).f1)))) else (none)) else (none)) = some r := by first | (rw [hji3] at H; exact H) | (simp only [hji3] at H ⊢; exact H)
    have hji3w : (IntKind.i64.wrap ((l0.length : Int) - 1)) = ji3 := (i64_w _).trans hji3
    by_cases c4 : 0 ≤ (ji3)
    · rw [if_pos c4] at H
      have c4b0 : decide (0 ≤ (ji3)) = true := decide_eq_true c4
      clear c4
      by_cases c5 : (ji3) < (l0.length : Int)
      · rw [if_pos c5] at H
        have c5b0 : decide ((ji3) < (l0.length : Int)) = true := decide_eq_true c5
        clear c5
        obtain rfl := Option.some.inj H
        have p104 : 0 ≤ ((ji3) : Int) := of_decide_eq_true (by first | (with_reducible assumption) | assumption)
        have q104 : (ji3) < (l0.length : Int) := of_decide_eq_true (by first | (with_reducible assumption) | assumption)
        obtain ⟨ad104, e104, hx104_0, hx104_1, hx104_2⟩ := at_T56 HR0.out (ji3) p104 q104
        cases e104
        replace p104 := eq_true p104
        replace q104 := eq_true q104
        go_enter Try.func25, Try.ntmps25
        go_wp2_with (first | ((with_reducible refine gate_dst (N := 3) rfl ?_); refine box_event ?hg (N := 3) ?hd (cs := #[.int .i64 0, .int .i64 0, .int .u8 0]) (t := 56) ?hr ?_; (case hd => rfl); (case hg => rfl); (case hr => first | (go_simp; done) | (go_simp; rfl)); intro gb105 hg w6 hbox hb; have n0_ := Aside0.mk (below_step (by repeat (first | (with_reducible first | exact HB.out | apply below_alloc | apply pw_below_drewN | apply below_drew1) | exact HB.out)) hb); have n1_ := Aside0.mk (hbox); have n2_ := Aside0.mk ((by rw [hg]; exact (below_size (by repeat (first | (with_reducible first | exact HB.out | apply below_alloc | apply pw_below_drewN | apply below_drew1) | exact HB.out))) : w.heap.size ≤ gb105)); have n3_ := Aside0.mk ((by rw [hg]; exact (below_size (by repeat (first | (with_reducible first | exact HB.out | apply below_alloc | apply pw_below_drewN | apply below_drew1) | exact HB.out))) : w.heap.size ≤ gb105)); clear HB; have HB := n0_; have BK105 := n1_; have GW105 := n2_; have GE105 := n3_; clear n0_ n1_ n2_ n3_; clear hb hbox hg; have hcz7_0 : w6.cell? ⟨gb105, 0, none⟩ = some (.int .i64 0) := (blk_cell BK105.out 0).trans rfl; have hcz7_1 : w6.cell? ⟨gb105, 1, none⟩ = some (.int .i64 0) := (blk_cell BK105.out 1).trans rfl; have hcz7_2 : w6.cell? ⟨gb105, 2, none⟩ = some (.int .u8 0) := (blk_cell BK105.out 2).trans rfl; have hfz7_0 := blk_frozen BK105.out 0; have hfz7_1 := blk_frozen BK105.out 1; have hfz7_2 := blk_frozen BK105.out 2))
        go_ret
        exact ⟨by first | rfl | (simp [errW_none, errW_some] <;> rfl) | (simp only [← hji3]; first | rfl | (simp [errW_none, errW_some] <;> rfl)) | (simp [*, errW_none, errW_some] <;> rfl), by repeat (first | (with_reducible first | exact HB.out | apply below_alloc | apply pw_below_drewN | apply below_drew1 | refine below_set ?_ GE105.out) | exact HB.out)⟩
      · rw [if_neg c5] at H
        exact absurd H (by simp)
    · rw [if_neg c4] at H
      exact absurd H (by simp)

end Go.Proofs.Ytiaopkgmhpjeeaa.MBoundHolds

-- printed by myprint.py (a program of this session's, over the kit's printer)
namespace Go.Proofs.Ytiaopkgmhpjeeaa.MBoundHolds
open Go.RowKit Go.Proofs.YtiaopkgmhpjeeaaW.PrintWords Go.Proofs.YtiaopkgmhpjeeaaW.PrintLast Go.Proofs.YtiaopkgmhpjeeaaW.PrintMore
attribute [local go_sem] max2_int min2_int max_two min_two max_three min_three max_four min_four   -- for this text's walks alone
set_option linter.unusedVariables false
set_option linter.unusedSimpArgs false

/-! ### region_Push: function 32 -/
def region_Push.f (l0 : List (S56)) (a1 : Int) (a2 : Int) : Option ((List (S56))) := if a1 < 1 then (some l0) else (if (wrap64 ((l0.length : Int) - 1)) ≥ 0 then (if 0 ≤ (wrap64 ((l0.length : Int) - 1)) then (if (wrap64 ((l0.length : Int) - 1)) < (l0.length : Int) then (if ((rd_T56 l0 (wrap64 ((l0.length : Int) - 1))).f2) = a2 then (some (l0.set ((wrap64 ((l0.length : Int) - 1)) : Int).toNat (⟨(rd_T56 l0 (wrap64 ((l0.length : Int) - 1))).f0, wrap64 (((rd_T56 l0 (wrap64 ((l0.length : Int) - 1))).f1) + a1), (rd_T56 l0 (wrap64 ((l0.length : Int) - 1))).f2⟩ : S56))) else ((region_end.f l0).bind fun t109 => (if l0.length < 5864062014805 then (some (l0 ++ [(⟨t109, a1, a2⟩ : S56)])) else (none)))) else (none)) else (none)) else ((region_end.f l0).bind fun t113 => (if l0.length < 5864062014805 then (some (l0 ++ [(⟨t113, a1, a2⟩ : S56)])) else (none))))
set_option maxHeartbeats 8000000 in
set_option maxRecDepth 100000 in
theorem region_Push.calls (P0_ : Nat → Prop) (u9000_ : Value) (l0 : List (S56)) (a1 : Int) (a2 : Int) (r : List (S56)) (w0 w : World) (hB : Below w0.heap.size w0 w) (ho0 : Kd.R k56 56 w w0.heap.size P0_ u9000_ l0) (h : region_Push.f l0 a1 a2 = some r) :
    Calls Try.prog 32 #[u9000_, .int .i64 a1, .int .u8 a2] w fun e w' => ∃ v0_ : Value, e = .returned (v0_) ∧ Kd.R k56 56 w' w0.heap.size (fun k_ => (P0_ k_ ∨ w.heap.size ≤ k_)) v0_ r ∧ Below w0.heap.size w0 w' ∧ Kept w w' (fun k_ => P0_ k_) := by
  have hu56 := Try.underlying56
  have HO0 := Aside0.mk (show Kd.R k56 56 w w0.heap.size (fun k_ => (P0_ k_ ∨ w.heap.size ≤ k_)) u9000_ l0 from Kd.R_mono ho0 (fun k_ hk => (.inl hk)))
  have HK := Aside0.mk (Kept.refl w (fun k_ => P0_ k_))
  have HW0 := Aside0.mk hB.size
  have HB := Aside0.mk hB
  clear hB
  have H : (if a1 < 1 then (some l0) else (if (wrap64 ((l0.length : Int) - 1)) ≥ 0 then (if 0 ≤ (wrap64 ((l0.length : Int) - 1)) then (if (wrap64 ((l0.length : Int) - 1)) < (l0.length : Int) then (if ((rd_T56 l0 (wrap64 ((l0.length : Int) - 1))).f2) = a2 then (some (l0.set ((wrap64 ((l0.length : Int) - 1)) : Int).toNat (⟨(rd_T56 l0 (wrap64 ((l0.length : Int) - 1))).f0, wrap64 (((rd_T56 l0 (wrap64 ((l0.length : Int) - 1))).f1) + a1), (rd_T56 l0 (wrap64 ((l0.length : Int) - 1))).f2⟩ : S56))) else ((region_end.f l0).bind fun t109 => (if l0.length < 5864062014805 then (some (l0 ++ [(⟨t109, a1, a2⟩ : S56)])) else (none)))) else (none)) else (none)) else ((region_end.f l0).bind fun t113 => (if l0.length < 5864062014805 then (some (l0 ++ [(⟨t113, a1, a2⟩ : S56)])) else (none))))) = some r := h
  clear h
  by_cases c4 : a1 < 1
  · rw [if_pos c4] at H
    have c4b0 : decide (a1 < 1) = true := decide_eq_true c4
    clear c4
    obtain rfl := Option.some.inj H
    obtain ⟨Ao5, co5, eo5⟩ := Kd.R_slice HO0.out
    subst eo5
    go_enter Try.func32, Try.ntmps32
    go_wp2
    go_ret
    exact ⟨_, by first | rfl | (simp [errW_none, errW_some] <;> rfl) | (simp [*, errW_none, errW_some] <;> rfl), by (with_reducible repeat (first | apply Kd.R_alloc | apply Kd.R_drewN | apply Kd.R_drew)); exact HO0.out, by repeat (first | (with_reducible first | exact HB.out | apply below_alloc | apply pw_below_drewN | apply below_drew1) | exact HB.out), by repeat (first | (with_reducible first | exact HK.out | apply Kept.alloc | apply Kept.drewN | apply Kept.drew) | exact HK.out)⟩
  · rw [if_neg c4] at H
    have c4b0 : decide (a1 < 1) = false := decide_eq_false c4
    clear c4
    by_cases c6 : (wrap64 ((l0.length : Int) - 1)) ≥ 0
    · rw [if_pos c6] at H
      have c6b0 : decide (0 ≤ (wrap64 ((l0.length : Int) - 1))) = true := decide_eq_true c6
      clear c6
      obtain ⟨ji7, hji7⟩ : ∃ j_ : Int, (wrap64 ((l0.length : Int) - 1)) = j_ := ⟨_, rfl⟩
      replace H : (if 0 ≤ (ji7) then (if (ji7) < (l0.length : Int) then (if ((rd_T56 l0 (ji7)).f2) = a2 then (some (l0.set ((ji7) : Int).toNat (⟨(rd_T56 l0 (ji7)).f0, wrap64 (((rd_T56 l0 (ji7)).f1) + a1), (rd_T56 l0 (ji7)).f2⟩ : S56))) else ((region_end.f l0).bind fun t109 => (if l0.length < 5864062014805 then (some (l0 ++ [(⟨t109, a1, a2⟩ : S56)])) else (none)))) else (none)) else (none)) = some r := by first | (rw [hji7] at H; exact H) | (simp only [hji7] at H ⊢; exact H)
      (try rw [hji7] at c6b0)
      have hji7w : (IntKind.i64.wrap ((l0.length : Int) - 1)) = ji7 := (i64_w _).trans hji7
      by_cases c8 : 0 ≤ (ji7)
      · rw [if_pos c8] at H
        have c8b0 : decide (0 ≤ (ji7)) = true := decide_eq_true c8
        clear c8
        by_cases c9 : (ji7) < (l0.length : Int)
        · rw [if_pos c9] at H
          have c9b0 : decide ((ji7) < (l0.length : Int)) = true := decide_eq_true c9
          clear c9
          by_cases c10 : ((rd_T56 l0 (ji7)).f2) = a2
          · rw [if_pos c10] at H
            have c10b0 : (((rd_T56 l0 (ji7)).f2) == a2) = true := beq_iff_eq.mpr c10
            have c10b1 : (((rd_T56 l0 (ji7)).f2) != a2) = false := bne_eq_false_iff_eq.mpr c10
            clear c10
            obtain ⟨y108, hy108⟩ : ∃ y_ : List (S56), y_ = (l0.set ((ji7) : Int).toNat (⟨(rd_T56 l0 (ji7)).f0, wrap64 (((rd_T56 l0 (ji7)).f1) + a1), (rd_T56 l0 (ji7)).f2⟩ : S56)) := ⟨_, rfl⟩
            replace H : (some y108) = some r := by first | (rw [hy108]; with_reducible exact H) | (have H2_ := (Option.bind_some _ _).symm.trans H; rw [hy108]; with_reducible exact H2_) | (have H2_ := (Option.bind_some _ _).symm.trans H; with_reducible exact H2_) | with_reducible exact H | (rw [hy108]; exact H) | exact H
            have Ny108 := Aside0.mk hy108
            clear hy108
            obtain rfl := Option.some.inj H
            obtain ⟨Ao12, co12, eo12⟩ := Kd.R_slice HO0.out
            subst eo12
            have p106 : 0 ≤ ((ji7) : Int) := of_decide_eq_true (by first | (with_reducible assumption) | assumption)
            have q106 : (ji7) < (l0.length : Int) := of_decide_eq_true (by first | (with_reducible assumption) | assumption)
            obtain ⟨ad106, e106, hx106_0, hx106_1, hx106_2⟩ := at_T56 (Kd.R_reads' HO0.out).2.2 (ji7) p106 q106
            cases e106
            replace p106 := eq_true p106
            replace q106 := eq_true q106
            have p107 : 0 ≤ ((ji7) : Int) := of_decide_eq_true (by first | (with_reducible assumption) | assumption)
            have q107 : (ji7) < (l0.length : Int) := of_decide_eq_true (by first | (with_reducible assumption) | assumption)
            obtain ⟨ad107, e107, hx107_0, hx107_1, hx107_2⟩ := at_T56 (Kd.R_reads' HO0.out).2.2 (ji7) p107 q107
            obtain rfl : ad106 = ad107 := (by injection e107)
            replace p107 := eq_true p107
            replace q107 := eq_true q107
            have p11 : 0 ≤ ((ji7) : Int) := of_decide_eq_true (by first | (with_reducible assumption) | assumption)
            have q11 : ((ji7) : Int) < ((l0.length : Int) : Int) := of_decide_eq_true (by first | (with_reducible assumption) | assumption)
            obtain ⟨go11, co11, eo11, gb11, gl11, cl11, HG11⟩ := Kd.R_form HO0.out (by omega)
            (first | cases eo11 | (injection eo11 with ea_ en_ ec_; (first | subst ea_ | (injection ea_ with ea_; subst ea_)); subst ec_; clear en_))
            have GB11 := Aside0.mk gb11
            have GG11 := Aside0.mk HG11
            clear gb11 gl11 HG11
            have HMgo11 := Aside0.mk (show (P0_ go11 ∨ w.heap.size ≤ go11) from (HO0.out.1 _ rfl))
            (first | simp only [add_plain] at hx106_0 | skip)
            (first | simp only [add_plain] at hx106_1 | skip)
            (first | simp only [add_plain] at hx106_2 | skip)
            (first | simp only [add_plain] at hx107_0 | skip)
            (first | simp only [add_plain] at hx107_1 | skip)
            (first | simp only [add_plain] at hx107_2 | skip)
            obtain ⟨ce11, hcl11, hM11, hcc11, hfr11⟩ := Kd.R_elem HO0.out z56 ((ji7) : Int) p11 q11
            obtain rfl := k56_openM hM11
            have hx11_0 : w.cell? ⟨go11, ((ji7) : Int).toNat * 3, none⟩ = some (.int .i64 ((rd_T56 l0 (ji7)).f0)) := hcc11 0 _ rfl
            have hx11_1 : w.cell? ⟨go11, ((ji7) : Int).toNat * 3 + 1, none⟩ = some (.int .i64 ((rd_T56 l0 (ji7)).f1)) := hcc11 1 _ rfl
            have hx11_2 : w.cell? ⟨go11, ((ji7) : Int).toNat * 3 + 2, none⟩ = some (.int .u8 ((rd_T56 l0 (ji7)).f2)) := hcc11 2 _ rfl
            have hf11_0 : w.frozen? ⟨go11, ((ji7) : Int).toNat * 3, none⟩ = false := hfr11 0
            have hf11_1 : w.frozen? ⟨go11, ((ji7) : Int).toNat * 3 + 1, none⟩ = false := hfr11 1
            have hf11_2 : w.frozen? ⟨go11, ((ji7) : Int).toNat * 3 + 2, none⟩ = false := hfr11 2
            clear hcl11 hcc11 hfr11 hM11
            replace p11 := eq_true p11
            replace q11 := eq_true q11
            have HX13 := Aside0.mk (show Kd.R k56 56 w w0.heap.size (fun k_ => (P0_ k_ ∨ w.heap.size ≤ k_)) (.slice (some ⟨go11, 0, none⟩) l0.length co12) l0 from (by (with_reducible repeat (first | apply Kd.R_alloc | apply Kd.R_drewN | apply Kd.R_drew)); exact HO0.out))
            obtain ⟨ce13, hcl13, hM13, hcc13, hfr13⟩ := Kd.R_elem HX13.out z56 ((ji7) : Int) (of_decide_eq_true (by first | (with_reducible assumption) | assumption)) (by have h_ : ((ji7) : Int) < ((l0.length : Int) : Int) := of_decide_eq_true (by first | (with_reducible assumption) | assumption); first | exact h_ | (have e_ := (Kd.R_reads' HO0.out).1; omega) | simpa using h_)
            obtain rfl := k56_openM hM13
            have HP13 := Kd.R_seg HX13.out ((ji7) : Int) (of_decide_eq_true (by first | (with_reducible assumption) | assumption)) (by have h_ : ((ji7) : Int) < ((l0.length : Int) : Int) := of_decide_eq_true (by first | (with_reducible assumption) | assumption); first | exact h_ | (have e_ := (Kd.R_reads' HO0.out).1; omega) | simpa using h_) (seg := [.int .i64 (wrap64 (((rd_T56 l0 (ji7)).f1) + a1))]) (j := 1) hcl13 hcc13 (show 2 ≤ 3 from by decide) (x' := (⟨(rd_T56 l0 (ji7)).f0, wrap64 (((rd_T56 l0 (ji7)).f1) + a1), (rd_T56 l0 (ji7)).f2⟩ : S56)) (k56_mkM _ _ _ (⟨(rd_T56 l0 (ji7)).f0, wrap64 (((rd_T56 l0 (ji7)).f1) + a1), (rd_T56 l0 (ji7)).f2⟩ : S56) ) (fun _ hk => hk)
            have hx13_1 := hcc13 1 _ rfl
            (try simp only [show (k56).sz = 3 from rfl, Nat.mul_one, Nat.add_zero] at hx13_1)
            have hf13_1 := hfr13 1
            (try simp only [show (k56).sz = 3 from rfl, Nat.mul_one, Nat.add_zero] at hf13_1)
            clear hcl13 hcc13 hfr13 hM13
            go_enter Try.func32, Try.ntmps32
            go_wp2_with (first | ((with_reducible refine gate_store (t := 3) (p := 35) rfl ?_); refine store_event (t := 3) (p := 35) (v := ?vo_w14) (w1 := (w.setCell ⟨go11, ((ji7) : Int).toNat * 3 + 1, none⟩ (.int .i64 (wrap64 (((rd_T56 l0 (ji7)).f1) + a1))))) ?hg ?ho ?hn ?hr ?_; (case ho => rfl); (case hg => rfl); (case hn => rfl); (case hr => first | (go_simp; done) | (go_simp; rfl)); intro w14 hw; have hg : w.grownBy w14 (some go11) := (by rw [hw]; exact HP13.2); have hp_ : Kd.R k56 56 w14 w0.heap.size (fun k_ => (P0_ k_ ∨ w.heap.size ≤ k_)) (.slice (some ⟨go11, 0, none⟩) l0.length co12) y108 := (by rw [hw, Ny108.out]; exact HP13.1); clear HP13; have n0_ := Aside0.mk (hp_); have n1_ := Aside0.mk ((by rw [hw]; exact below_set (HB.out) GB11.out : Below w0.heap.size w0 w14)); have n2_ := Aside0.mk (Kept.of_grown (S := (fun k_ => P0_ k_)) hg (by repeat (first | (with_reducible first | exact HK.out | apply Kept.alloc | apply Kept.drewN | apply Kept.drew) | exact HK.out)) (fun k_ e_ => (HO0.out.1 k_ e_))); clear HO0; clear HB; clear HK; have HO0 := n0_; have HB := n1_; have HK := n2_; clear n0_ n1_ n2_; clear hg hw hp_))
            go_ret
            exact ⟨_, by first | rfl | (simp [errW_none, errW_some] <;> rfl) | (simp only [← hji7]; first | rfl | (simp [errW_none, errW_some] <;> rfl)) | (simp [*, errW_none, errW_some] <;> rfl), by (with_reducible repeat (first | apply Kd.R_alloc | apply Kd.R_drewN | apply Kd.R_drew)); exact HO0.out, by repeat (first | (with_reducible first | exact HB.out | apply below_alloc | apply pw_below_drewN | apply below_drew1) | exact HB.out), by repeat (first | (with_reducible first | exact HK.out | apply Kept.alloc | apply Kept.drewN | apply Kept.drew) | exact HK.out)⟩
          · rw [if_neg c10] at H
            have c10b0 : (((rd_T56 l0 (ji7)).f2) == a2) = false := beq_eq_false_iff_ne.mpr c10
            have c10b1 : (((rd_T56 l0 (ji7)).f2) != a2) = true := bne_iff_ne.mpr c10
            replace H := Option.bind_eq_some_iff.mp H
            obtain ⟨t109, A150, H⟩ := H
            replace H : (if l0.length < 5864062014805 then (some (l0 ++ [(⟨t109, a1, a2⟩ : S56)])) else (none)) = some r := H
            have A15 := Aside0.mk A150
            clear A150
            by_cases c16 : l0.length < 5864062014805
            · rw [if_pos c16] at H
              have LMc16 := Aside0.mk c16
              clear c16
              obtain ⟨y110, hy110⟩ : ∃ y_ : List (S56), y_ = (l0 ++ [(⟨t109, a1, a2⟩ : S56)]) := ⟨_, rfl⟩
              replace H : (some y110) = some r := by first | (rw [hy110]; with_reducible exact H) | (have H2_ := (Option.bind_some _ _).symm.trans H; rw [hy110]; with_reducible exact H2_) | (have H2_ := (Option.bind_some _ _).symm.trans H; with_reducible exact H2_) | with_reducible exact H | (rw [hy110]; exact H) | exact H
              have Ny110 := Aside0.mk hy110
              clear hy110
              obtain rfl := Option.some.inj H
              obtain ⟨Ao17, co17, eo17⟩ := Kd.R_slice HO0.out
              subst eo17
              have p106 : 0 ≤ ((ji7) : Int) := of_decide_eq_true (by first | (with_reducible assumption) | assumption)
              have q106 : (ji7) < (l0.length : Int) := of_decide_eq_true (by first | (with_reducible assumption) | assumption)
              obtain ⟨ad106, e106, hx106_0, hx106_1, hx106_2⟩ := at_T56 (Kd.R_reads' HO0.out).2.2 (ji7) p106 q106
              cases e106
              replace p106 := eq_true p106
              replace q106 := eq_true q106
              go_enter Try.func32, Try.ntmps32
              go_wp2_with (first | ((with_reducible refine gate_callee (f := 25) rfl ?_); refine goesL_ (some 39) rfl rfl Try.func25 (by kernel_rfl) rfl #[.slice (some ad106) l0.length co17] rfl (by (try simp only [List.map_toArray, List.map_cons, List.map_nil]); first | done | rfl | (simp only [List.length_drop, List.length_take]; rfl)) ?_; (with_reducible refine (region_end.calls _ _ l0 t109 _ ?side1 ?side2 A15.out).mono ?_); (case side1 => repeat (first | exact (Kd.R_reads' HO0.out).2.2 | (with_reducible refine Kd.C_alloc ?_ _) | (with_reducible refine Kd.C_drewN ?_ _) | (with_reducible refine Kd.C_drew ?_))); (case side2 => exact (Kd.R_reads' HO0.out).2.1); rintro e w18 ⟨rfl, hb⟩; refine ⟨_, rfl, ?_⟩; have n0_ := Aside0.mk (Kd.R_below (by (with_reducible repeat (first | apply Kd.R_alloc | apply Kd.R_drewN | apply Kd.R_drew)); exact HO0.out) hb); have n1_ := Aside0.mk (Kept.below (S := (fun k_ => P0_ k_)) (by repeat (first | (with_reducible first | exact HK.out | apply Kept.alloc | apply Kept.drewN | apply Kept.drew) | exact HK.out)) hb); have n2_ := Aside0.mk (below_step (by repeat (first | (with_reducible first | exact HB.out | apply below_alloc | apply pw_below_drewN | apply below_drew1) | exact HB.out)) hb); clear HO0; clear HK; clear HB; have HO0 := n0_; have HK := n1_; have HB := n2_; clear n0_ n1_ n2_; (try clear hb); (try clear hb2); (try clear hk); (try clear hi)) | ((with_reducible refine gate_builtin (b := .append) (xs := #[.tmp 37, .tmp 43]) rfl ?_); at_builtin; refine Kd.R_append k56 (w0 := w0) w0.heap.size rfl (.tmp 37) (.tmp 43) 28 56 (.agg #[(.int .i64 0), (.int .i64 0), (.int .u8 0)]) 24 rfl Try.underlying28 info56 rfl (by decide) (by omega) (.slice (some ad106) l0.length co17) l0 (⟨t109, a1, a2⟩ : S56) [.int .i64 t109, .int .i64 a1, .int .u8 a2] (fun k_ => (P0_ k_ ∨ w.heap.size ≤ k_)) (fun _ => False) rfl rfl ?aP (fun _ hk => hk.elim) ?aF ?aO ?aB ?aS ?aL ?_; (case aP => exact k56_mkM _ _ _ (⟨t109, a1, a2⟩ : S56)); (case aB => exact (by repeat (first | (with_reducible first | exact HB.out | apply below_alloc | apply pw_below_drewN | apply below_drew1) | exact HB.out))); (case aF => exact (fun k_ hk => (.inr (Nat.le_trans (by first | exact HK.out.1 | exact (show Kept w _ (fun k_ => P0_ k_) from by repeat (first | (with_reducible first | exact HK.out | apply Kept.alloc | apply Kept.drewN | apply Kept.drew) | exact HK.out)).1) hk)))); (case aO => exact (by (with_reducible repeat (first | apply Kd.R_alloc | apply Kd.R_drewN | apply Kd.R_drew)); exact HO0.out)); (case aS => exact (below_size (by repeat (first | (with_reducible first | exact HB.out | apply below_alloc | apply pw_below_drewN | apply below_drew1) | exact HB.out)))); (case aL => have := LMc16.out; omega); intro v111 w19 ho hb hg hat; rw [← Ny110.out] at ho; have n0_ := Aside0.mk (hb); have n1_ := Aside0.mk (Kept.of_grown (S := (fun k_ => P0_ k_)) hg (by repeat (first | (with_reducible first | exact HK.out | apply Kept.alloc | apply Kept.drewN | apply Kept.drew) | exact HK.out)) (fun k_ e_ => (HO0.out.1 k_ e_))); have n2_ := Aside0.mk (ho); clear HB; clear HK; clear HO0; have HB := n0_; have HK := n1_; have HO112 := n2_; clear n0_ n1_ n2_; clear ho hb hg hat))
              go_ret
              exact ⟨_, by first | rfl | (simp [errW_none, errW_some] <;> rfl) | (simp only [← hji7]; first | rfl | (simp [errW_none, errW_some] <;> rfl)) | (simp [*, errW_none, errW_some] <;> rfl), by (with_reducible repeat (first | apply Kd.R_alloc | apply Kd.R_drewN | apply Kd.R_drew)); exact HO112.out, by repeat (first | (with_reducible first | exact HB.out | apply below_alloc | apply pw_below_drewN | apply below_drew1) | exact HB.out), by repeat (first | (with_reducible first | exact HK.out | apply Kept.alloc | apply Kept.drewN | apply Kept.drew) | exact HK.out)⟩
            · rw [if_neg c16] at H
              exact absurd H (by simp)
        · rw [if_neg c9] at H
          exact absurd H (by simp)
      · rw [if_neg c8] at H
        exact absurd H (by simp)
    · rw [if_neg c6] at H
      have c6b0 : decide (0 ≤ (wrap64 ((l0.length : Int) - 1))) = false := decide_eq_false c6
      clear c6
      replace H := Option.bind_eq_some_iff.mp H
      obtain ⟨t113, A200, H⟩ := H
      replace H : (if l0.length < 5864062014805 then (some (l0 ++ [(⟨t113, a1, a2⟩ : S56)])) else (none)) = some r := H
      have A20 := Aside0.mk A200
      clear A200
      by_cases c21 : l0.length < 5864062014805
      · rw [if_pos c21] at H
        have LMc21 := Aside0.mk c21
        clear c21
        obtain ⟨y114, hy114⟩ : ∃ y_ : List (S56), y_ = (l0 ++ [(⟨t113, a1, a2⟩ : S56)]) := ⟨_, rfl⟩
        replace H : (some y114) = some r := by first | (rw [hy114]; with_reducible exact H) | (have H2_ := (Option.bind_some _ _).symm.trans H; rw [hy114]; with_reducible exact H2_) | (have H2_ := (Option.bind_some _ _).symm.trans H; with_reducible exact H2_) | with_reducible exact H | (rw [hy114]; exact H) | exact H
        have Ny114 := Aside0.mk hy114
        clear hy114
        obtain rfl := Option.some.inj H
        obtain ⟨Ao22, co22, eo22⟩ := Kd.R_slice HO0.out
        subst eo22
        go_enter Try.func32, Try.ntmps32
        go_wp2_with (first | ((with_reducible refine gate_callee (f := 25) rfl ?_); refine goesL_ (some 39) rfl rfl Try.func25 (by kernel_rfl) rfl #[.slice Ao22 l0.length co22] rfl (by (try simp only [List.map_toArray, List.map_cons, List.map_nil]); first | done | rfl | (simp only [List.length_drop, List.length_take]; rfl)) ?_; (with_reducible refine (region_end.calls _ _ l0 t113 _ ?side1 ?side2 A20.out).mono ?_); (case side1 => repeat (first | exact (Kd.R_reads' HO0.out).2.2 | (with_reducible refine Kd.C_alloc ?_ _) | (with_reducible refine Kd.C_drewN ?_ _) | (with_reducible refine Kd.C_drew ?_))); (case side2 => exact (Kd.R_reads' HO0.out).2.1); rintro e w23 ⟨rfl, hb⟩; refine ⟨_, rfl, ?_⟩; have n0_ := Aside0.mk (Kd.R_below (by (with_reducible repeat (first | apply Kd.R_alloc | apply Kd.R_drewN | apply Kd.R_drew)); exact HO0.out) hb); have n1_ := Aside0.mk (Kept.below (S := (fun k_ => P0_ k_)) (by repeat (first | (with_reducible first | exact HK.out | apply Kept.alloc | apply Kept.drewN | apply Kept.drew) | exact HK.out)) hb); have n2_ := Aside0.mk (below_step (by repeat (first | (with_reducible first | exact HB.out | apply below_alloc | apply pw_below_drewN | apply below_drew1) | exact HB.out)) hb); clear HO0; clear HK; clear HB; have HO0 := n0_; have HK := n1_; have HB := n2_; clear n0_ n1_ n2_; (try clear hb); (try clear hb2); (try clear hk); (try clear hi)) | ((with_reducible refine gate_builtin (b := .append) (xs := #[.tmp 37, .tmp 43]) rfl ?_); at_builtin; refine Kd.R_append k56 (w0 := w0) w0.heap.size rfl (.tmp 37) (.tmp 43) 28 56 (.agg #[(.int .i64 0), (.int .i64 0), (.int .u8 0)]) 24 rfl Try.underlying28 info56 rfl (by decide) (by omega) (.slice Ao22 l0.length co22) l0 (⟨t113, a1, a2⟩ : S56) [.int .i64 t113, .int .i64 a1, .int .u8 a2] (fun k_ => (P0_ k_ ∨ w.heap.size ≤ k_)) (fun _ => False) rfl rfl ?aP (fun _ hk => hk.elim) ?aF ?aO ?aB ?aS ?aL ?_; (case aP => exact k56_mkM _ _ _ (⟨t113, a1, a2⟩ : S56)); (case aB => exact (by repeat (first | (with_reducible first | exact HB.out | apply below_alloc | apply pw_below_drewN | apply below_drew1) | exact HB.out))); (case aF => exact (fun k_ hk => (.inr (Nat.le_trans (by first | exact HK.out.1 | exact (show Kept w _ (fun k_ => P0_ k_) from by repeat (first | (with_reducible first | exact HK.out | apply Kept.alloc | apply Kept.drewN | apply Kept.drew) | exact HK.out)).1) hk)))); (case aO => exact (by (with_reducible repeat (first | apply Kd.R_alloc | apply Kd.R_drewN | apply Kd.R_drew)); exact HO0.out)); (case aS => exact (below_size (by repeat (first | (with_reducible first | exact HB.out | apply below_alloc | apply pw_below_drewN | apply below_drew1) | exact HB.out)))); (case aL => have := LMc21.out; omega); intro v115 w24 ho hb hg hat; rw [← Ny114.out] at ho; have n0_ := Aside0.mk (hb); have n1_ := Aside0.mk (Kept.of_grown (S := (fun k_ => P0_ k_)) hg (by repeat (first | (with_reducible first | exact HK.out | apply Kept.alloc | apply Kept.drewN | apply Kept.drew) | exact HK.out)) (fun k_ e_ => (HO0.out.1 k_ e_))); have n2_ := Aside0.mk (ho); clear HB; clear HK; clear HO0; have HB := n0_; have HK := n1_; have HO116 := n2_; clear n0_ n1_ n2_; clear ho hb hg hat))
        go_ret
        exact ⟨_, by first | rfl | (simp [errW_none, errW_some] <;> rfl) | (simp [*, errW_none, errW_some] <;> rfl), by (with_reducible repeat (first | apply Kd.R_alloc | apply Kd.R_drewN | apply Kd.R_drew)); exact HO116.out, by repeat (first | (with_reducible first | exact HB.out | apply below_alloc | apply pw_below_drewN | apply below_drew1) | exact HB.out), by repeat (first | (with_reducible first | exact HK.out | apply Kept.alloc | apply Kept.drewN | apply Kept.drew) | exact HK.out)⟩
      · rw [if_neg c21] at H
        exact absurd H (by simp)

end Go.Proofs.Ytiaopkgmhpjeeaa.MBoundHolds

namespace Go.Proofs.Ytiaopkgmhpjeeaa.MBoundHolds
open Go.Sal Go.RowKit Go.Proofs.YtiaopkgmhpjeeaaW.PrintWords Go.Proofs.YtiaopkgmhpjeeaaW.PrintLast Go.Proofs.YtiaopkgmhpjeeaaW.PrintMore
attribute [local go_sem] max2_int min2_int max_two min_two max_three min_three max_four min_four
set_option linter.unusedVariables false
set_option linter.unusedSimpArgs false

def setLoop (st fr tt : Int) : List S56 → List S56 → Option (List S56)
  | out, [] => some out
  | out, r :: l => (region_Push.f out (wrap64 ((mn (mx fr r.f0) (wrap64 (r.f0 + r.f1))) - r.f0)) r.f2).bind fun o1 => (region_Push.f o1 (wrap64 ((mn (mx tt r.f0) (wrap64 (r.f0 + r.f1))) - (mn (mx fr r.f0) (wrap64 (r.f0 + r.f1))))) st).bind fun o2 => (region_Push.f o2 (wrap64 ((wrap64 (r.f0 + r.f1)) - (mn (mx tt r.f0) (wrap64 (r.f0 + r.f1))))) r.f2).bind fun o3 => setLoop st fr tt o3 l
def region_Set.f (l0 : List (S56)) (a1 : Int) (a2 : Int) (a3 : Int) : Option ((List (S56))) :=
  (region_May.f l0).bind fun t => if t && decide (0 ≤ a1) && decide (0 ≤ a2) && isB a3 then (region_end.f l0).bind fun e => setLoop a3 (mn a1 e) (wrap64 (mn a1 e + mn a2 (wrap64 (e - mn a1 e)))) [] l0 else some l0
set_option maxHeartbeats 1600000 in
set_option maxRecDepth 100000 in
theorem region_Set.calls (A0 : Option Addr) (c0 : Nat) (l0 : List (S56)) (a1 : Int) (a2 : Int) (a3 : Int) (r : List (S56)) (w : World) (hr0 : Kd.C k56 w A0 l0.length l0) (hc0 : l0.length ≤ c0) (h : region_Set.f l0 a1 a2 a3 = some r) :
    Calls Try.prog 23 #[.slice A0 l0.length c0, .int .i64 a1, .int .i64 a2, .int .u8 a3] w fun e w' => ∃ v0_ : Value, e = .returned (v0_) ∧ Kd.R k56 56 w' w.heap.size (fun _ => True) v0_ r ∧ Below w.heap.size w w' := by
  unfold region_Set.f at h
  obtain ⟨t, ht, h⟩ := Option.bind_eq_some_iff.1 h
  have HT := Aside0.mk ht
  have HR0 := Aside0.mk hr0
  have HC0 := Aside0.mk hc0
  have HCl := Aside0.mk (show api_Region_30.f l0 = some l0 by unfold api_Region_30.f; rw [if_pos]; unfold region_May.f at ht; split at ht <;> simp_all)
  clear ht hr0 hc0
  have HB := Aside0.mk (Below.refl w.heap.size w)
  by_cases c1 : t = true
  · subst c1
    by_cases c2 : a1 < 0
    · have c2b : decide (a1 < 0) = true := decide_eq_true c2
      obtain rfl : l0 = r := by simpa [show ¬ 0 ≤ a1 by omega] using h
      clear h
      go_enter Try.func23, Try.ntmps23
      go_wp2_with (first | (go_at_call 14; (with_reducible refine (region_May.calls _ _ l0 _ _ (Kd.C_below HR0.out HB.out) HC0.out HT.out).mono ?_); rintro e w1 ⟨rfl, hb⟩; have n0 := Aside0.mk (below_step HB.out hb); clear hb HB; have HB := n0; clear n0) | (go_at_call 16; (with_reducible refine (is_calls _ _).mono ?_); rintro e w1 ⟨rfl, hb⟩; obtain ⟨nq, rfl⟩ := hb.out; clear hb) | (go_at_call 30; (with_reducible refine (api_Region_30.calls _ _ l0 l0 _ (Kd.C_below HR0.out (by repeat (first | exact HB.out | apply below_alloc | apply pw_below_drewN | apply below_drew1))) HC0.out HCl.out).mono ?_); rintro e w2 ⟨v, rfl, ho, hb⟩; have HO := Aside0.mk ho; have HB2 := Aside0.mk (below_step (by repeat (first | exact HB.out | apply below_alloc | apply pw_below_drewN | apply below_drew1)) hb); have HL := Aside0.mk (Below.size (by repeat (first | exact HB.out | apply below_alloc | apply pw_below_drewN | apply below_drew1))); clear ho hb))
      go_ret
      exact ⟨_, rfl, Kd.R_lower HO.out HL.out, HB2.out⟩
    · have c2b : decide (a1 < 0) = false := decide_eq_false c2
      by_cases c3 : a2 < 0
      · have c3b : decide (a2 < 0) = true := decide_eq_true c3
        obtain rfl : l0 = r := by simpa [show ¬ 0 ≤ a2 by omega] using h
        clear h
        go_enter Try.func23, Try.ntmps23
        go_wp2_with (first | (go_at_call 14; (with_reducible refine (region_May.calls _ _ l0 _ _ (Kd.C_below HR0.out HB.out) HC0.out HT.out).mono ?_); rintro e w1 ⟨rfl, hb⟩; have n0 := Aside0.mk (below_step HB.out hb); clear hb HB; have HB := n0; clear n0) | (go_at_call 16; (with_reducible refine (is_calls _ _).mono ?_); rintro e w1 ⟨rfl, hb⟩; obtain ⟨nq, rfl⟩ := hb.out; clear hb) | (go_at_call 30; (with_reducible refine (api_Region_30.calls _ _ l0 l0 _ (Kd.C_below HR0.out (by repeat (first | exact HB.out | apply below_alloc | apply pw_below_drewN | apply below_drew1))) HC0.out HCl.out).mono ?_); rintro e w2 ⟨v, rfl, ho, hb⟩; have HO := Aside0.mk ho; have HB2 := Aside0.mk (below_step (by repeat (first | exact HB.out | apply below_alloc | apply pw_below_drewN | apply below_drew1)) hb); have HL := Aside0.mk (Below.size (by repeat (first | exact HB.out | apply below_alloc | apply pw_below_drewN | apply below_drew1))); clear ho hb))
        go_ret
        exact ⟨_, rfl, Kd.R_lower HO.out HL.out, HB2.out⟩
      · have c3b : decide (a2 < 0) = false := decide_eq_false c3
        cases c4 : isB a3 with
        | false =>
          obtain rfl : l0 = r := by simpa [c4] using h
          clear h
          go_enter Try.func23, Try.ntmps23
          go_wp2_with (first | (go_at_call 14; (with_reducible refine (region_May.calls _ _ l0 _ _ (Kd.C_below HR0.out HB.out) HC0.out HT.out).mono ?_); rintro e w1 ⟨rfl, hb⟩; have n0 := Aside0.mk (below_step HB.out hb); clear hb HB; have HB := n0; clear n0) | (go_at_call 16; (with_reducible refine (is_calls _ _).mono ?_); rintro e w1 ⟨rfl, hb⟩; obtain ⟨nq, rfl⟩ := hb.out; clear hb) | (go_at_call 30; (with_reducible refine (api_Region_30.calls _ _ l0 l0 _ (Kd.C_below HR0.out (by repeat (first | exact HB.out | apply below_alloc | apply pw_below_drewN | apply below_drew1))) HC0.out HCl.out).mono ?_); rintro e w2 ⟨v, rfl, ho, hb⟩; have HO := Aside0.mk ho; have HB2 := Aside0.mk (below_step (by repeat (first | exact HB.out | apply below_alloc | apply pw_below_drewN | apply below_drew1)) hb); have HL := Aside0.mk (Below.size (by repeat (first | exact HB.out | apply below_alloc | apply pw_below_drewN | apply below_drew1))); clear ho hb))
          go_ret
          exact ⟨_, rfl, Kd.R_lower HO.out HL.out, HB2.out⟩
        | true =>
          simp only [c4, show 0 ≤ a1 by omega, show 0 ≤ a2 by omega, decide_true, Bool.and_self, if_true] at h
          obtain ⟨ee, he, h⟩ := Option.bind_eq_some_iff.1 h
          have HE := Aside0.mk he
          clear he
          obtain ⟨fr, hfr⟩ : ∃ fr, mn a1 ee = fr := ⟨_, rfl⟩
          rw [hfr] at h
          replace hfr : (if ee < a1 then ee else a1) = fr := hfr
          obtain ⟨sb, hsb⟩ : ∃ sb, wrap64 (ee - fr) = sb := ⟨_, rfl⟩
          rw [hsb] at h
          replace hsb : IntKind.i64.wrap (ee - fr) = sb := (i64_w _).trans hsb
          obtain ⟨mm, hmm⟩ : ∃ mm, mn a2 sb = mm := ⟨_, rfl⟩
          rw [hmm] at h
          replace hmm : (if sb < a2 then sb else a2) = mm := hmm
          obtain ⟨tt, htt⟩ : ∃ tt, wrap64 (fr + mm) = tt := ⟨_, rfl⟩
          rw [htt] at h
          replace htt : IntKind.i64.wrap (fr + mm) = tt := (i64_w _).trans htt
          have hlen : l0.length < 1099511627776 := by
            have h1 := HT.out
            unfold region_May.f at h1; split at h1 <;> simp_all
          have H := Aside0.mk h
          clear h
          go_enter Try.func23, Try.ntmps23
          go_wp2_with (first | (go_at_call 14; (with_reducible refine (region_May.calls _ _ l0 _ _ (Kd.C_below HR0.out HB.out) HC0.out HT.out).mono ?_); rintro e w1 ⟨rfl, hb⟩; have n0 := Aside0.mk (below_step HB.out hb); clear hb HB; have HB := n0; clear n0) | (go_at_call 16; (with_reducible refine (is_calls _ _).mono ?_); rintro e w1 ⟨rfl, hb⟩; obtain ⟨nq, rfl⟩ := hb.out; clear hb) | (go_at_call 25; (with_reducible refine (region_end.calls _ _ l0 ee _ (Kd.C_below HR0.out (by repeat (first | exact HB.out | apply below_alloc | apply pw_below_drewN | apply below_drew1))) HC0.out HE.out).mono ?_); rintro e w1 ⟨rfl, hb⟩; have n0 := Aside0.mk (below_step (by repeat (first | exact HB.out | apply below_alloc | apply pw_below_drewN | apply below_drew1)) hb); clear hb HB; have HB := n0; clear n0))
          clear hfr hsb hmm htt
          go_loopw [11, 48] (fun v11 v48 w' => ∃ (i : Nat) (out : List S56), v48 = .int .i64 i ∧ i ≤ l0.length ∧ Aside0 (setLoop a3 fr tt out (l0.drop i) = some r) ∧ Aside0 (Kd.R k56 56 w' w.heap.size (fun _ => True) v11 out) ∧ Aside0 (Below w.heap.size w w')) (fun _ v48 _ => l0.length - (intOf v48).toNat)
          case atStart => exact ⟨0, [], rfl, by omega, H, ⟨Kd.R_nil _ _ _ _ _⟩, HB⟩
          case round =>
            obtain ⟨i, out, rfl, hi, HS, HO, HB⟩ := hrel
            by_cases hlt : i < l0.length
            · obtain ⟨ad, e104, hx0, hx1, hx2⟩ := at_T56 HR0.out (i : Int) (by omega) (by omega)
              cases e104
              simp only [Int.toNat_natCast] at hx0 hx1 hx2
              replace hx0 := (HB.out.cell (World.block_lt_of_cell? w _ hx0)).trans hx0
              replace hx1 := (HB.out.cell (World.block_lt_of_cell? w _ hx1)).trans hx1
              replace hx2 := (HB.out.cell (World.block_lt_of_cell? w _ hx2)).trans hx2
              have hxe : l0.drop i = rd_T56 l0 i :: l0.drop (i + 1) := by
                rw [List.drop_eq_getElem_cons hlt]; unfold rd_T56; simp [List.getD, hlt]
              have HX := Aside0.mk hxe
              clear hxe
              generalize rd_T56 l0 (i : Int) = x at *
              obtain ⟨p, z, st⟩ := x
              dsimp only at hx0 hx1 hx2
              have h := HS.out
              rw [HX.out] at h
              simp only [setLoop] at h
              clear HS
              obtain ⟨E, hE⟩ : ∃ E, wrap64 (p + z) = E := ⟨_, rfl⟩
              rw [hE] at h
              replace hE : IntKind.i64.wrap (p + z) = E := (i64_w _).trans hE
              obtain ⟨M1, hM1⟩ : ∃ M1, mx fr p = M1 := ⟨_, rfl⟩
              rw [hM1] at h
              replace hM1 : (if fr < p then p else fr) = M1 := hM1
              obtain ⟨A, hA⟩ : ∃ A, mn M1 E = A := ⟨_, rfl⟩
              rw [hA] at h
              replace hA : (if E < M1 then E else M1) = A := hA
              obtain ⟨M2, hM2⟩ : ∃ M2, mx tt p = M2 := ⟨_, rfl⟩
              rw [hM2] at h
              replace hM2 : (if tt < p then p else tt) = M2 := hM2
              obtain ⟨Bq, hBq⟩ : ∃ Bq, mn M2 E = Bq := ⟨_, rfl⟩
              rw [hBq] at h
              replace hBq : (if E < M2 then E else M2) = Bq := hBq
              obtain ⟨s1, hs1⟩ : ∃ s1, wrap64 (A - p) = s1 := ⟨_, rfl⟩
              rw [hs1] at h
              replace hs1 : IntKind.i64.wrap (A - p) = s1 := (i64_w _).trans hs1
              obtain ⟨s2, hs2⟩ : ∃ s2, wrap64 (Bq - A) = s2 := ⟨_, rfl⟩
              rw [hs2] at h
              replace hs2 : IntKind.i64.wrap (Bq - A) = s2 := (i64_w _).trans hs2
              obtain ⟨s3, hs3⟩ : ∃ s3, wrap64 (E - Bq) = s3 := ⟨_, rfl⟩
              rw [hs3] at h
              replace hs3 : IntKind.i64.wrap (E - Bq) = s3 := (i64_w _).trans hs3
              obtain ⟨o1, h1, h⟩ := Option.bind_eq_some_iff.1 h
              obtain ⟨o2, h2, h⟩ := Option.bind_eq_some_iff.1 h
              obtain ⟨o3, h3, h⟩ := Option.bind_eq_some_iff.1 h
              have H1 := Aside0.mk h1
              have H2 := Aside0.mk h2
              have H3 := Aside0.mk h3
              have HS := Aside0.mk h
              clear h h1 h2 h3
              go_wp2
              go_quiet (fail)
              have BK := Aside0.mk (blk_later (pw_below_drewN (Below.refl _ _) nq) (blkN wr (.cells #[.int .i64 p, .int .i64 z, .int .u8 st] 56)))
              have HB1 := Aside0.mk (pw_below_drewN (below_alloc HB.out (.cells #[.int .i64 p, .int .i64 z, .int .u8 st] 56)) nq)
              have HG := Aside0.mk (show wr.heap.size < ((wr.alloc (.cells #[.int .i64 p, .int .i64 z, .int .u8 st] 56)).drewN nq).heap.size by simp)
              have HO1 := Aside0.mk (Kd.R_mono (Kd.R_drewN (Kd.R_alloc (Kd.R_bound HO.out) (.cells #[.int .i64 p, .int .i64 z, .int .u8 st] 56)) nq) (ok' := fun k => k ≠ wr.heap.size) (by intro k hk; omega))
              clear HO HB hx0 hx1 hx2
              generalize ((wr.alloc (.cells #[.int .i64 p, .int .i64 z, .int .u8 st] 56)).drewN nq) = w1 at BK HB1 HG HO1 ⊢
              generalize wr.heap.size = g at BK HG HO1 ⊢
              have f0 := blk_cell' BK.out 0 rfl
              have f1 := blk_cell' BK.out 1 rfl
              have f2 := blk_cell' BK.out 2 rfl
              go_wp2_with fail
              refine (region_Push.calls (fun k => k ≠ g) _ _ _ _ _ w _ HB1.out HO1.out H1.out).mono ?_
              rintro e w2 ⟨v2, rfl, ho, hb, hk⟩
              replace HO1 := Aside0.mk (Kd.R_mono ho (ok' := fun k => k ≠ g) (by intro k hk2; rcases hk2 with h | h; exact h; have := HG.out; omega))
              replace HB1 := Aside0.mk hb
              replace BK := Aside0.mk ((hk.2 g HG.out (by simp)).trans BK.out)
              replace HG := Aside0.mk (Nat.lt_of_lt_of_le HG.out hk.1)
              have f0 := blk_cell' BK.out 0 rfl
              have f1 := blk_cell' BK.out 1 rfl
              have f2 := blk_cell' BK.out 2 rfl
              clear ho hb hk
              go_wp2_with fail
              refine (region_Push.calls (fun k => k ≠ g) _ _ _ _ _ w _ HB1.out HO1.out H2.out).mono ?_
              rintro e w2 ⟨v2, rfl, ho, hb, hk⟩
              replace HO1 := Aside0.mk (Kd.R_mono ho (ok' := fun k => k ≠ g) (by intro k hk2; rcases hk2 with h | h; exact h; have := HG.out; omega))
              replace HB1 := Aside0.mk hb
              replace BK := Aside0.mk ((hk.2 g HG.out (by simp)).trans BK.out)
              replace HG := Aside0.mk (Nat.lt_of_lt_of_le HG.out hk.1)
              have f0 := blk_cell' BK.out 0 rfl
              have f1 := blk_cell' BK.out 1 rfl
              have f2 := blk_cell' BK.out 2 rfl
              clear ho hb hk
              go_wp2_with fail
              refine (region_Push.calls (fun k => k ≠ g) _ _ _ _ _ w _ HB1.out HO1.out H3.out).mono ?_
              rintro e w2 ⟨v2, rfl, ho, hb, hk⟩
              replace HO1 := Aside0.mk (Kd.R_mono ho (ok' := fun k => k ≠ g) (by intro k hk2; rcases hk2 with h | h; exact h; have := HG.out; omega))
              replace HB1 := Aside0.mk hb
              replace BK := Aside0.mk ((hk.2 g HG.out (by simp)).trans BK.out)
              replace HG := Aside0.mk (Nat.lt_of_lt_of_le HG.out hk.1)
              have f0 := blk_cell' BK.out 0 rfl
              have f1 := blk_cell' BK.out 1 rfl
              have f2 := blk_cell' BK.out 2 rfl
              clear ho hb hk
              go_wp2
              go_roundw
              case rel => exact ⟨i + 1, o3, by go_num, by omega, HS, ⟨Kd.R_mono HO1.out (fun _ _ => trivial)⟩, HB1⟩
              case measure => simp [intOf]; omega
            · have HF := Aside0.mk (show out = r by have h := HS.out; rw [List.drop_of_length_le (by omega)] at h; exact Option.some.inj h)
              go_wp2
              go_ret
              exact ⟨_, rfl, by rw [← HF.out]; exact HO.out, HB.out⟩
  · obtain rfl : t = false := by simpa using c1
    clear c1
    obtain rfl : l0 = r := by simpa using h
    clear h
    go_enter Try.func23, Try.ntmps23
    go_wp2_with (first | (go_at_call 14; (with_reducible refine (region_May.calls _ _ l0 _ _ (Kd.C_below HR0.out HB.out) HC0.out HT.out).mono ?_); rintro e w1 ⟨rfl, hb⟩; have n0 := Aside0.mk (below_step HB.out hb); clear hb HB; have HB := n0; clear n0) | (go_at_call 16; (with_reducible refine (is_calls _ _).mono ?_); rintro e w1 ⟨rfl, hb⟩; obtain ⟨nq, rfl⟩ := hb.out; clear hb) | (go_at_call 30; (with_reducible refine (api_Region_30.calls _ _ l0 l0 _ (Kd.C_below HR0.out (by repeat (first | exact HB.out | apply below_alloc | apply pw_below_drewN | apply below_drew1))) HC0.out HCl.out).mono ?_); rintro e w2 ⟨v, rfl, ho, hb⟩; have HO := Aside0.mk ho; have HB2 := Aside0.mk (below_step (by repeat (first | exact HB.out | apply below_alloc | apply pw_below_drewN | apply below_drew1)) hb); have HL := Aside0.mk (Below.size (by repeat (first | exact HB.out | apply below_alloc | apply pw_below_drewN | apply below_drew1))); clear ho hb))
    go_ret
    exact ⟨_, rfl, Kd.R_lower HO.out HL.out, HB2.out⟩
end Go.Proofs.Ytiaopkgmhpjeeaa.MBoundHolds

-- printed by myprint.py (a program of this session's, over the kit's printer)
namespace Go.Proofs.Ytiaopkgmhpjeeaa.MBoundHolds
open Go.RowKit Go.Proofs.YtiaopkgmhpjeeaaW.PrintWords Go.Proofs.YtiaopkgmhpjeeaaW.PrintLast Go.Proofs.YtiaopkgmhpjeeaaW.PrintMore
attribute [local go_sem] max2_int min2_int max_two min_two max_three min_three max_four min_four   -- for this text's walks alone
set_option linter.unusedVariables false
set_option linter.unusedSimpArgs false

/-! ### salvorlaw16_Made: function 13 -/
def salvorlaw16_Made.l0 : Nat → List (S53) → List (S56) → Int → Option ((List (S56)))
  | 0, _, _, _ => none
  | k + 1, x1, x5, x6 => if x6 < (x1.length : Int) then (if 0 ≤ x6 then ((salvorlaw16_Cut_of.f ((rd_T53 x1 x6).f0) ((rd_T53 x1 x6).f1) ((rd_T53 x1 x6).f2)).bind fun t128 => ((region_Set.f x5 (wrap64 ((rd_T53 x1 x6).f0)) (wrap64 ((rd_T53 x1 x6).f1)) t128).bind fun t129 => (salvorlaw16_Made.l0 k x1 t129 (wrap64 (x6 + 1))))) else (none)) else (some x5)
def salvorlaw16_Made.f (k : Nat) (a0 : Int) (l1 : List (S53)) : Option ((List (S56))) := (region_New.f (wrap64 (a0))).bind fun t122 => (salvorlaw16_Made.l0 k l1 t122 0)
theorem salvorlaw16_Made.mono_l : ∀ k, (∀ y0 y1 y2, LeO (salvorlaw16_Made.l0 k y0 y1 y2) (salvorlaw16_Made.l0 (k + 1) y0 y1 y2))
  | 0 => fun _ _ _ r h => by simp [salvorlaw16_Made.l0] at h
  | k + 1 => by
    have ih0 := salvorlaw16_Made.mono_l k
    · intro y0 y1 y2
      unfold salvorlaw16_Made.l0
      repeat' first
      | (with_reducible exact ih0 _ _ _)
      | (with_reducible exact LeO.refl _)
      | (with_reducible exact LeO.none _)
      | (with_reducible refine LeO.ite ?_ ?_)
      | (with_reducible refine LeO.bind ?_ (fun _ => ?_))
      | exact ih0 _ _ _
      | exact LeO.none _
      | refine LeO.ite ?_ ?_
      | refine LeO.bind ?_ (fun _ => ?_)
theorem salvorlaw16_Made.mono : ∀ a0 a1 k, LeO (salvorlaw16_Made.f k a0 a1) (salvorlaw16_Made.f (k + 1) a0 a1) := by
  intro a0 a1 k
  have ih0 := salvorlaw16_Made.mono_l k
  unfold salvorlaw16_Made.f
  repeat' first
      | (with_reducible exact ih0 _ _ _)
      | (with_reducible exact LeO.refl _)
      | (with_reducible exact LeO.none _)
      | (with_reducible refine LeO.ite ?_ ?_)
      | (with_reducible refine LeO.bind ?_ (fun _ => ?_))
      | exact ih0 _ _ _
      | exact LeO.none _
      | refine LeO.ite ?_ ?_
      | refine LeO.bind ?_ (fun _ => ?_)
def salvorlaw16_Made.T5 : Bool × List (List Nat × List Nat) := (true, [([], []), ([], []), ([], []), ([1, 2], [1, 2]), ([3], [3]), ([4], [4]), ([5], [5]), ([], []), ([], []), ([7, 8], [7, 8]), ([9], [9]), ([10], [10]), ([11], [11]), ([], []), ([], []), ([13, 14], [13, 14]), ([15], [15]), ([16], [16]), ([0, 6, 12, 17, 17], [0, 6, 12, 17]), ([18, 18, 0, 1, 2, 3, 4, 5, 6, 7, 8, 9, 10, 11, 12, 13, 14, 15, 16, 17, 18], [0, 18])])
def salvorlaw16_Made.B5 : List Nat := [0, 0, 0, 6, 14, 30, 62, 0, 0, 384, 896, 1920, 3968, 0, 0, 24576, 57344, 122880, 262143, 524287]
theorem salvorlaw16_Made.tab5 : rtab .any (opsOf Try.f13 5) = salvorlaw16_Made.T5 := by kernel_rfl
theorem salvorlaw16_Made.bits5 : waitsOk salvorlaw16_Made.T5.2 salvorlaw16_Made.B5 = true := by kernel_rfl
set_option maxHeartbeats 8000000 in
set_option maxRecDepth 100000 in
theorem salvorlaw16_Made.calls (k : Nat) (a0 : Int) (A1 : Option Addr) (c1 : Nat) (l1 : List (S53)) (r : List (S56)) (w : World) (hr1 : Kd.C k53 w A1 l1.length l1) (hc1 : l1.length ≤ c1) (h : salvorlaw16_Made.f k a0 l1 = some r) :
    Calls Try.prog 13 #[.int .u8 a0, .slice A1 l1.length c1] w fun e w' => ∃ v0_ : Value, e = .returned (v0_) ∧ Kd.R k56 56 w' w.heap.size (fun _ => True) v0_ r ∧ Below w.heap.size w w' := by
  have hu53 := Try.underlying53
  have HR1 := Aside0.mk hr1
  have HC1 := Aside0.mk hc1
  clear hr1 hc1
  have HB := Aside0.mk (Below.refl w.heap.size w)
  have H : ((region_New.f (wrap64 (a0))).bind fun t122 => (salvorlaw16_Made.l0 k l1 t122 0)) = some r := h
  clear h
  replace H := Option.bind_eq_some_iff.mp H
  obtain ⟨t122, A30, H⟩ := H
  replace H : (salvorlaw16_Made.l0 k l1 t122 0) = some r := H
  have A3 := Aside0.mk A30
  clear A30
  have H' := Aside0.mk H
  clear H
  go_enter Try.func13, Try.ntmps13
  go_wp2_with (first | ((with_reducible refine gate_callee (f := 22) rfl ?_); refine goesL_ (some 9) rfl rfl Try.func22 (by kernel_rfl) rfl #[.int .i64 (wrap64 (a0))] rfl (by (try simp only [List.map_toArray, List.map_cons, List.map_nil]); first | done | rfl | (simp only [List.length_drop, List.length_take]; rfl)) ?_; (with_reducible refine (region_New.calls (wrap64 (a0)) t122 _ A3.out).mono ?_); rintro e w4 ⟨v123, rfl, ho0, hb⟩; refine ⟨_, rfl, ?_⟩; have n0_ := Aside0.mk (Kd.R_lower ho0 (below_size (by repeat (first | (with_reducible first | exact HB.out | apply below_alloc | apply pw_below_drewN | apply below_drew1) | exact HB.out)))); have n1_ := Aside0.mk (below_step (by repeat (first | (with_reducible first | exact HB.out | apply below_alloc | apply pw_below_drewN | apply below_drew1) | exact HB.out)) hb); clear HB; have HO124 := n0_; have HB := n1_; clear n0_ n1_; (try clear hb); (try clear hb2); (try clear hk); (try clear hi); (try clear ho0)))
  go_loopg [5, 6] k (fun kq v5 v6 w' => ∃ (x5_1 : List (S56)) (x6_1 : Int), v6 = .int .i64 x6_1 ∧ Aside0 (salvorlaw16_Made.l0 kq l1 x5_1 x6_1 = some r) ∧ Aside0 (kq ≤ k) ∧ Aside0 (Kd.R k56 56 w' w.heap.size (fun _ => True) v5 x5_1) ∧ Aside0 (Below w.heap.size w w'))
  case atStart => exact ⟨(t122), (0), (by first | rfl | (simp; done) | (simp [*]; done)), H', ⟨Nat.le_refl _⟩, ⟨by (with_reducible repeat (first | apply Kd.R_alloc | apply Kd.R_drewN | apply Kd.R_drew)); exact HO124.out⟩, ⟨by repeat (first | (with_reducible first | exact HB.out | apply below_alloc | apply pw_below_drewN | apply below_drew1) | exact HB.out)⟩⟩
  case round =>
    clear H'
    try clear c1
    try clear c2
    try clear p2
    obtain ⟨x5_1, x6_1, rfl, HA, HK1, HO_5, HB⟩ := hrel
    cases gk with
    | zero => exact absurd HA.out (by simp [salvorlaw16_Made.l0])
    | succ k1 =>
      have H := HA.out
      clear HA
      simp only [salvorlaw16_Made.l0] at H
      by_cases c5 : x6_1 < (l1.length : Int)
      · rw [if_pos c5] at H
        have c5b0 : decide (x6_1 < (l1.length : Int)) = true := decide_eq_true c5
        clear c5
        by_cases c6 : 0 ≤ x6_1
        · rw [if_pos c6] at H
          have c6b0 : decide (0 ≤ x6_1) = true := decide_eq_true c6
          clear c6
          replace H := Option.bind_eq_some_iff.mp H
          obtain ⟨t128, A70, H⟩ := H
          replace H : ((region_Set.f x5_1 (wrap64 ((rd_T53 l1 x6_1).f0)) (wrap64 ((rd_T53 l1 x6_1).f1)) t128).bind fun t129 => (salvorlaw16_Made.l0 k1 l1 t129 (wrap64 (x6_1 + 1)))) = some r := H
          have A7 := Aside0.mk A70
          clear A70
          replace H := Option.bind_eq_some_iff.mp H
          obtain ⟨t129, A80, H⟩ := H
          replace H : (salvorlaw16_Made.l0 k1 l1 t129 (wrap64 (x6_1 + 1))) = some r := H
          have A8 := Aside0.mk A80
          clear A80
          have H' := Aside0.mk H
          clear H
          try go_wp2
          have n0_ := Aside0.mk (Kd.R_drew HO_5.out)
          have n1_ := Aside0.mk (below_drew1 HB.out)
          clear HO_5
          clear HB
          have HO_5 := n0_
          have HB := n1_
          clear n0_ n1_
          have p125 : 0 ≤ (x6_1 : Int) := of_decide_eq_true (by first | (with_reducible assumption) | assumption)
          have q125 : x6_1 < (l1.length : Int) := of_decide_eq_true (by first | (with_reducible assumption) | assumption)
          obtain ⟨ad125, e125, hx125_0, hx125_1, hx125_2⟩ := at_T53 HR1.out x6_1 p125 q125
          have hw125_2 := hx125_2
          have hw125_1 := hx125_1
          have hw125_0 := hx125_0
          cases e125
          replace hx125_0 := (HB.out.cell (World.block_lt_of_cell? w _ hx125_0)).trans hx125_0
          replace hx125_1 := (HB.out.cell (World.block_lt_of_cell? w _ hx125_1)).trans hx125_1
          replace hx125_2 := (HB.out.cell (World.block_lt_of_cell? w _ hx125_2)).trans hx125_2
          replace p125 := eq_true p125
          replace q125 := eq_true q125
          have p126 : 0 ≤ (x6_1 : Int) := of_decide_eq_true (by first | (with_reducible assumption) | assumption)
          have q126 : x6_1 < (l1.length : Int) := of_decide_eq_true (by first | (with_reducible assumption) | assumption)
          obtain ⟨ad126, e126, hx126_0, hx126_1, hx126_2⟩ := at_T53 HR1.out x6_1 p126 q126
          have hw126_2 := hx126_2
          have hw126_1 := hx126_1
          have hw126_0 := hx126_0
          obtain rfl : ad125 = ad126 := (by injection e126)
          replace hx126_0 := (HB.out.cell (World.block_lt_of_cell? w _ hx126_0)).trans hx126_0
          replace hx126_1 := (HB.out.cell (World.block_lt_of_cell? w _ hx126_1)).trans hx126_1
          replace hx126_2 := (HB.out.cell (World.block_lt_of_cell? w _ hx126_2)).trans hx126_2
          replace p126 := eq_true p126
          replace q126 := eq_true q126
          have p127 : 0 ≤ (x6_1 : Int) := of_decide_eq_true (by first | (with_reducible assumption) | assumption)
          have q127 : x6_1 < (l1.length : Int) := of_decide_eq_true (by first | (with_reducible assumption) | assumption)
          obtain ⟨ad127, e127, hx127_0, hx127_1, hx127_2⟩ := at_T53 HR1.out x6_1 p127 q127
          have hw127_2 := hx127_2
          have hw127_1 := hx127_1
          have hw127_0 := hx127_0
          obtain rfl : ad125 = ad127 := (by injection e127)
          replace hx127_0 := (HB.out.cell (World.block_lt_of_cell? w _ hx127_0)).trans hx127_0
          replace hx127_1 := (HB.out.cell (World.block_lt_of_cell? w _ hx127_1)).trans hx127_1
          replace hx127_2 := (HB.out.cell (World.block_lt_of_cell? w _ hx127_2)).trans hx127_2
          replace p127 := eq_true p127
          replace q127 := eq_true q127
          refine start_ (n := 20) (S := fun w' => w'.cell? (ad125.add ((x6_1).toNat * 3)) = some (.int .u8 ((rd_T53 l1 x6_1).f0)) ∧ w'.cell? ⟨(ad125.add ((x6_1).toNat * 3)).block, (ad125.add ((x6_1).toNat * 3)).off + 1, none⟩ = some (.int .u8 ((rd_T53 l1 x6_1).f1)) ∧ w'.cell? ⟨(ad125.add ((x6_1).toNat * 3)).block, (ad125.add ((x6_1).toNat * 3)).off + 2, none⟩ = some (.int .u8 ((rd_T53 l1 x6_1).f2)) ∧ w'.cell? (ad125.add ((x6_1).toNat * 3)) = some (.int .u8 ((rd_T53 l1 x6_1).f0)) ∧ w'.cell? ⟨(ad125.add ((x6_1).toNat * 3)).block, (ad125.add ((x6_1).toNat * 3)).off + 1, none⟩ = some (.int .u8 ((rd_T53 l1 x6_1).f1)) ∧ w'.cell? ⟨(ad125.add ((x6_1).toNat * 3)).block, (ad125.add ((x6_1).toNat * 3)).off + 2, none⟩ = some (.int .u8 ((rd_T53 l1 x6_1).f2)) ∧ w'.cell? (ad125.add ((x6_1).toNat * 3)) = some (.int .u8 ((rd_T53 l1 x6_1).f0)) ∧ w'.cell? ⟨(ad125.add ((x6_1).toNat * 3)).block, (ad125.add ((x6_1).toNat * 3)).off + 1, none⟩ = some (.int .u8 ((rd_T53 l1 x6_1).f1)) ∧ w'.cell? ⟨(ad125.add ((x6_1).toNat * 3)).block, (ad125.add ((x6_1).toNat * 3)).off + 2, none⟩ = some (.int .u8 ((rd_T53 l1 x6_1).f2))) (ds := []) #[false, false, false, false, false, false, false, false, false, false, false, false, false, false, false, false, false, false, false, false] (by kernel_rfl) rfl rfl ⟨((HB.out.cell (World.block_lt_of_cell? w _ hw125_0)).trans hw125_0), ((HB.out.cell (World.block_lt_of_cell? w _ hw125_1)).trans hw125_1), ((HB.out.cell (World.block_lt_of_cell? w _ hw125_2)).trans hw125_2), ((HB.out.cell (World.block_lt_of_cell? w _ hw126_0)).trans hw126_0), ((HB.out.cell (World.block_lt_of_cell? w _ hw126_1)).trans hw126_1), ((HB.out.cell (World.block_lt_of_cell? w _ hw126_2)).trans hw126_2), ((HB.out.cell (World.block_lt_of_cell? w _ hw127_0)).trans hw127_0), ((HB.out.cell (World.block_lt_of_cell? w _ hw127_1)).trans hw127_1), ((HB.out.cell (World.block_lt_of_cell? w _ hw127_2)).trans hw127_2)⟩ (fun hHeld => ?_); refine with_tabW salvorlaw16_Made.tab5 salvorlaw16_Made.bits5 (fun HT_ HW_ => ?_)
          generalize wr.drew = w9 at HO_5 HB hx125_0 hx125_1 hx125_2 hx126_0 hx126_1 hx126_2 hx127_0 hx127_1 hx127_2 hHeld ⊢
          refine pure_ (i := 0) (N := some 16) (v := ?_) (a' := ?_) #[true, false, false, false, false, false, false, false, false, false, false, false, false, false, false, false, false, false, false, false] rfl rfl (any_of HT_.out (by kernel_rfl)) (fun _ _ _ h => h) (Or.inl ⟨by rfl, ?_⟩) ?_ ?_
          rotate_left
          · intro w'
            go_simp
            with_reducible rfl
          rotate_left
          · simp only [Act.put, List.setIfInBounds_toArray, List.set_cons_zero, List.set_cons_succ, i64_w, i32_w]
            rfl
          refine pure_ (i := 1) (N := some 17) (v := ?_) (a' := ?_) #[true, true, false, false, false, false, false, false, false, false, false, false, false, false, false, false, false, false, false, false] rfl rfl (any_of HT_.out (by kernel_rfl)) (fun _ _ _ h => h) (Or.inl ⟨by rfl, ?_⟩) ?_ ?_
          rotate_left
          · intro w'
            go_simp
            with_reducible rfl
          rotate_left
          · simp only [Act.put, List.setIfInBounds_toArray, List.set_cons_zero, List.set_cons_succ, i64_w, i32_w]
            rfl
          refine pure_ (i := 2) (N := some 18) (v := ?_) (a' := ?_) #[true, true, true, false, false, false, false, false, false, false, false, false, false, false, false, false, false, false, false, false] rfl rfl (any_of HT_.out (by kernel_rfl)) (fun _ _ _ h => h) (Or.inl ⟨by rfl, ?_⟩) ?_ ?_
          rotate_left
          · intro w'
            go_simp
            with_reducible rfl
          rotate_left
          · simp only [Act.put, List.setIfInBounds_toArray, List.set_cons_zero, List.set_cons_succ, i64_w, i32_w]
            rfl
          refine pure_ (i := 3) (N := some 19) (v := ?_) (a' := ?_) #[true, true, true, true, false, false, false, false, false, false, false, false, false, false, false, false, false, false, false, false] rfl rfl (any_of HT_.out (by kernel_rfl)) (fun _ _ _ h => h) (Or.inl ⟨by rfl, ?_⟩) ?_ ?_
          rotate_left
          · intro w'
            go_simp
            with_reducible rfl
          rotate_left
          · simp only [Act.put, List.setIfInBounds_toArray, List.set_cons_zero, List.set_cons_succ, i64_w, i32_w]
            rfl
          refine pure_ (i := 4) (N := some 20) (v := ?_) (a' := ?_) #[true, true, true, true, true, false, false, false, false, false, false, false, false, false, false, false, false, false, false, false] rfl rfl (any_of HT_.out (by kernel_rfl)) (fun _ _ _ h => h) (Or.inl ⟨by rfl, ?_⟩) ?_ ?_
          rotate_left
          · intro w'
            go_simp
            with_reducible rfl
          rotate_left
          · simp only [Act.put, List.setIfInBounds_toArray, List.set_cons_zero, List.set_cons_succ, i64_w, i32_w]
            rfl
          refine pure_ (i := 7) (N := some 23) (v := ?_) (a' := ?_) #[true, true, true, true, true, false, false, true, false, false, false, false, false, false, false, false, false, false, false, false] rfl rfl (any_of HT_.out (by kernel_rfl)) (fun _ _ _ h => h) (Or.inl ⟨by rfl, ?_⟩) ?_ ?_
          rotate_left
          · intro w'
            go_simp
            with_reducible rfl
          rotate_left
          · simp only [Act.put, List.setIfInBounds_toArray, List.set_cons_zero, List.set_cons_succ, i64_w, i32_w]
            rfl
          refine pure_ (i := 8) (N := some 24) (v := ?_) (a' := ?_) #[true, true, true, true, true, false, false, true, true, false, false, false, false, false, false, false, false, false, false, false] rfl rfl (any_of HT_.out (by kernel_rfl)) (fun _ _ _ h => h) (Or.inl ⟨by rfl, ?_⟩) ?_ ?_
          rotate_left
          · intro w'
            go_simp
            with_reducible rfl
          rotate_left
          · simp only [Act.put, List.setIfInBounds_toArray, List.set_cons_zero, List.set_cons_succ, i64_w, i32_w]
            rfl
          refine pure_ (i := 9) (N := some 25) (v := ?_) (a' := ?_) #[true, true, true, true, true, false, false, true, true, true, false, false, false, false, false, false, false, false, false, false] rfl rfl (any_of HT_.out (by kernel_rfl)) (fun _ _ _ h => h) (Or.inl ⟨by rfl, ?_⟩) ?_ ?_
          rotate_left
          · intro w'
            go_simp
            with_reducible rfl
          rotate_left
          · simp only [Act.put, List.setIfInBounds_toArray, List.set_cons_zero, List.set_cons_succ, i64_w, i32_w]
            rfl
          refine pure_ (i := 10) (N := some 26) (v := ?_) (a' := ?_) #[true, true, true, true, true, false, false, true, true, true, true, false, false, false, false, false, false, false, false, false] rfl rfl (any_of HT_.out (by kernel_rfl)) (fun _ _ _ h => h) (Or.inl ⟨by rfl, ?_⟩) ?_ ?_
          rotate_left
          · intro w'
            go_simp
            with_reducible rfl
          rotate_left
          · simp only [Act.put, List.setIfInBounds_toArray, List.set_cons_zero, List.set_cons_succ, i64_w, i32_w]
            rfl
          refine pure_ (i := 13) (N := some 29) (v := ?_) (a' := ?_) #[true, true, true, true, true, false, false, true, true, true, true, false, false, true, false, false, false, false, false, false] rfl rfl (any_of HT_.out (by kernel_rfl)) (fun _ _ _ h => h) (Or.inl ⟨by rfl, ?_⟩) ?_ ?_
          rotate_left
          · intro w'
            go_simp
            with_reducible rfl
          rotate_left
          · simp only [Act.put, List.setIfInBounds_toArray, List.set_cons_zero, List.set_cons_succ, i64_w, i32_w]
            rfl
          refine pure_ (i := 14) (N := some 30) (v := ?_) (a' := ?_) #[true, true, true, true, true, false, false, true, true, true, true, false, false, true, true, false, false, false, false, false] rfl rfl (any_of HT_.out (by kernel_rfl)) (fun _ _ _ h => h) (Or.inl ⟨by rfl, ?_⟩) ?_ ?_
          rotate_left
          · intro w'
            go_simp
            with_reducible rfl
          rotate_left
          · simp only [Act.put, List.setIfInBounds_toArray, List.set_cons_zero, List.set_cons_succ, i64_w, i32_w]
            rfl
          refine pure_ (i := 15) (N := some 31) (v := ?_) (a' := ?_) #[true, true, true, true, true, false, false, true, true, true, true, false, false, true, true, true, false, false, false, false] rfl rfl (any_of HT_.out (by kernel_rfl)) (fun _ _ _ h => h) (Or.inl ⟨by rfl, ?_⟩) ?_ ?_
          rotate_left
          · intro w'
            go_simp
            with_reducible rfl
          rotate_left
          · simp only [Act.put, List.setIfInBounds_toArray, List.set_cons_zero, List.set_cons_succ, i64_w, i32_w]
            rfl
          refine take_ (i := 5) (N := some 21) (v := ?_) (a' := ?_) #[true, true, true, true, true, true, false, true, true, true, true, false, false, true, true, true, false, false, false, false] rfl rfl (take_ofW HT_.out HW_.out (by kernel_rfl)) (fun _ _ _ h => h) (Or.inl ⟨by rfl, ?_⟩) hHeld ?_ ?_
          rotate_left
          · rintro w' ⟨s0, s1, s2, s3, s4, s5, s6, s7, s8⟩
            go_simp
            with_reducible rfl
          rotate_left
          · simp only [Act.put, List.setIfInBounds_toArray, List.set_cons_zero, List.set_cons_succ, i64_w, i32_w]
            rfl
          refine pure_ (i := 6) (N := some 22) (v := ?_) (a' := ?_) #[true, true, true, true, true, true, true, true, true, true, true, false, false, true, true, true, false, false, false, false] rfl rfl (any_of HT_.out (by kernel_rfl)) (fun _ _ _ h => h) (Or.inl ⟨by rfl, ?_⟩) ?_ ?_
          rotate_left
          · intro w'
            go_simp
            with_reducible rfl
          rotate_left
          · simp only [Act.put, List.setIfInBounds_toArray, List.set_cons_zero, List.set_cons_succ, i64_w, i32_w]
            rfl
          refine take_ (i := 11) (N := some 27) (v := ?_) (a' := ?_) #[true, true, true, true, true, true, true, true, true, true, true, true, false, true, true, true, false, false, false, false] rfl rfl (take_ofW HT_.out HW_.out (by kernel_rfl)) (fun _ _ _ h => h) (Or.inl ⟨by rfl, ?_⟩) hHeld ?_ ?_
          rotate_left
          · rintro w' ⟨s0, s1, s2, s3, s4, s5, s6, s7, s8⟩
            go_simp
            with_reducible rfl
          rotate_left
          · simp only [Act.put, List.setIfInBounds_toArray, List.set_cons_zero, List.set_cons_succ, i64_w, i32_w]
            rfl
          refine pure_ (i := 12) (N := some 28) (v := ?_) (a' := ?_) #[true, true, true, true, true, true, true, true, true, true, true, true, true, true, true, true, false, false, false, false] rfl rfl (any_of HT_.out (by kernel_rfl)) (fun _ _ _ h => h) (Or.inl ⟨by rfl, ?_⟩) ?_ ?_
          rotate_left
          · intro w'
            go_simp
            with_reducible rfl
          rotate_left
          · simp only [Act.put, List.setIfInBounds_toArray, List.set_cons_zero, List.set_cons_succ, i64_w, i32_w]
            rfl
          refine take_ (i := 16) (N := some 32) (v := ?_) (a' := ?_) #[true, true, true, true, true, true, true, true, true, true, true, true, true, true, true, true, true, false, false, false] rfl rfl (take_ofW HT_.out HW_.out (by kernel_rfl)) (fun _ _ _ h => h) (Or.inl ⟨by rfl, ?_⟩) hHeld ?_ ?_
          rotate_left
          · rintro w' ⟨s0, s1, s2, s3, s4, s5, s6, s7, s8⟩
            go_simp
            with_reducible rfl
          rotate_left
          · simp only [Act.put, List.setIfInBounds_toArray, List.set_cons_zero, List.set_cons_succ, i64_w, i32_w]
            rfl
          refine one_ (i := 17) (N := some 33) #[true, true, true, true, true, true, true, true, true, true, true, true, true, true, true, true, true, true, false, false] rfl rfl (one_of HT_.out (by kernel_rfl)) (by decide) (fun K hK => ?_)
          refine goes_ Try.func24 (by kernel_rfl) rfl #[.agg #[.int .u8 ((rd_T53 l1 x6_1).f0), .int .u8 ((rd_T53 l1 x6_1).f1), .int .u8 ((rd_T53 l1 x6_1).f2)]] (by rfl) rfl rfl (by (try simp only [List.map_toArray, List.map_cons, List.map_nil]); first | done | rfl | (simp only [List.length_drop, List.length_take]; rfl)) ?_
          with_reducible refine (salvorlaw16_Cut_of.calls ((rd_T53 l1 x6_1).f0) ((rd_T53 l1 x6_1).f1) ((rd_T53 l1 x6_1).f2) t128 _ A7.out).mono ?_
          rintro e w10 ⟨rfl, hb⟩
          refine ⟨_, rfl, ?_⟩
          have n0_ := Aside0.mk (Kd.R_below (by (with_reducible repeat (first | apply Kd.R_alloc | apply Kd.R_drewN | apply Kd.R_drew)); exact HO_5.out) hb)
          have n1_ := Aside0.mk (below_step (by repeat (first | (with_reducible first | exact HB.out | apply below_alloc | apply pw_below_drewN | apply below_drew1) | exact HB.out)) hb)
          clear HO_5
          clear HB
          have HO_5 := n0_
          have HB := n1_
          clear n0_ n1_
          (try clear hb)
          (try clear hb2)
          (try clear hk)
          (try clear hi)
          obtain ⟨Ao11, co11, eo11⟩ := Kd.R_slice HO_5.out
          (first | subst eo11 | (injection eo11 with f1_ f2_ f3_; have f4_ := f1_.symm; have f5_ := f3_.symm; clear f1_ f2_ f3_; subst f4_; subst f5_))
          refine hK.out _ _ ⟨((HB.out.cell (World.block_lt_of_cell? w _ hw125_0)).trans hw125_0), ((HB.out.cell (World.block_lt_of_cell? w _ hw125_1)).trans hw125_1), ((HB.out.cell (World.block_lt_of_cell? w _ hw125_2)).trans hw125_2), ((HB.out.cell (World.block_lt_of_cell? w _ hw126_0)).trans hw126_0), ((HB.out.cell (World.block_lt_of_cell? w _ hw126_1)).trans hw126_1), ((HB.out.cell (World.block_lt_of_cell? w _ hw126_2)).trans hw126_2), ((HB.out.cell (World.block_lt_of_cell? w _ hw127_0)).trans hw127_0), ((HB.out.cell (World.block_lt_of_cell? w _ hw127_1)).trans hw127_1), ((HB.out.cell (World.block_lt_of_cell? w _ hw127_2)).trans hw127_2)⟩ (fun hHeld => ?_)
          clear hK K
          refine norm_ (a' := ?_) ?_ ?_
          rotate_left
          · show Act.put _ (some 33) _ = _
            simp only [Act.put, List.setIfInBounds_toArray, List.set_cons_zero, List.set_cons_succ, i64_w, i32_w]
            rfl
          refine one_ (i := 18) (N := some 34) #[true, true, true, true, true, true, true, true, true, true, true, true, true, true, true, true, true, true, true, false] rfl rfl (one_of HT_.out (by kernel_rfl)) (by decide) (fun K hK => ?_)
          refine goes_ Try.func23 (by kernel_rfl) rfl #[.slice Ao11 x5_1.length co11, .int .i64 (wrap64 ((rd_T53 l1 x6_1).f0)), .int .i64 (wrap64 ((rd_T53 l1 x6_1).f1)), .int .u8 t128] (by rfl) rfl rfl (by (try simp only [List.map_toArray, List.map_cons, List.map_nil]); first | done | rfl | (simp only [List.length_drop, List.length_take]; rfl)) ?_
          with_reducible refine (region_Set.calls _ _ x5_1 (wrap64 ((rd_T53 l1 x6_1).f0)) (wrap64 ((rd_T53 l1 x6_1).f1)) t128 t129 _ ?side1 ?side2 A8.out).mono ?_
          (case side1 => repeat (first | exact (Kd.R_reads' HO_5.out).2.2 | (with_reducible refine Kd.C_alloc ?_ _) | (with_reducible refine Kd.C_drewN ?_ _) | (with_reducible refine Kd.C_drew ?_)))
          (case side2 => exact (Kd.R_reads' HO_5.out).2.1)
          rintro e w12 ⟨v130, rfl, ho0, hb⟩
          refine ⟨_, rfl, ?_⟩
          have n0_ := Aside0.mk (Kd.R_elder' (by (with_reducible repeat (first | apply Kd.R_alloc | apply Kd.R_drewN | apply Kd.R_drew)); exact HO_5.out) (Kd.R_base ho0) hb)
          have n1_ := Aside0.mk (Kd.R_lower (Kd.R_new' ho0 (Kd.R_lt (by (with_reducible repeat (first | apply Kd.R_alloc | apply Kd.R_drewN | apply Kd.R_drew)); exact HO_5.out))) (below_size (by repeat (first | (with_reducible first | exact HB.out | apply below_alloc | apply pw_below_drewN | apply below_drew1) | exact HB.out))))
          have n2_ := Aside0.mk (below_step (by repeat (first | (with_reducible first | exact HB.out | apply below_alloc | apply pw_below_drewN | apply below_drew1) | exact HB.out)) hb)
          clear HO_5
          clear HB
          have HO_5 := n0_
          have HO131 := n1_
          have HB := n2_
          clear n0_ n1_ n2_
          (try clear hb)
          (try clear hb2)
          (try clear hk)
          (try clear hi)
          (try clear ho0)
          refine hK.out _ _ ⟨((HB.out.cell (World.block_lt_of_cell? w _ hw125_0)).trans hw125_0), ((HB.out.cell (World.block_lt_of_cell? w _ hw125_1)).trans hw125_1), ((HB.out.cell (World.block_lt_of_cell? w _ hw125_2)).trans hw125_2), ((HB.out.cell (World.block_lt_of_cell? w _ hw126_0)).trans hw126_0), ((HB.out.cell (World.block_lt_of_cell? w _ hw126_1)).trans hw126_1), ((HB.out.cell (World.block_lt_of_cell? w _ hw126_2)).trans hw126_2), ((HB.out.cell (World.block_lt_of_cell? w _ hw127_0)).trans hw127_0), ((HB.out.cell (World.block_lt_of_cell? w _ hw127_1)).trans hw127_1), ((HB.out.cell (World.block_lt_of_cell? w _ hw127_2)).trans hw127_2)⟩ (fun hHeld => ?_)
          clear hK K
          refine norm_ (a' := ?_) ?_ ?_
          rotate_left
          · show Act.put _ (some 34) _ = _
            simp only [Act.put, List.setIfInBounds_toArray, List.set_cons_zero, List.set_cons_succ, i64_w, i32_w]
            rfl
          refine pure_ (i := 19) (N := some 5) (v := ?_) (a' := ?_) #[true, true, true, true, true, true, true, true, true, true, true, true, true, true, true, true, true, true, true, true] rfl rfl (any_of HT_.out (by kernel_rfl)) (fun _ _ _ h => h) (Or.inl ⟨by rfl, ?_⟩) ?_ ?_
          rotate_left
          · intro w'
            go_simp
            with_reducible rfl
          rotate_left
          · simp only [Act.put, List.setIfInBounds_toArray, List.set_cons_zero, List.set_cons_succ, i64_w, i32_w]
            rfl
          refine done_ (done_of HT_.out (by kernel_rfl)) ?_
          try go_wp2
          go_roundg k1
          case measure => have := HK1.out; omega
          case rel => exact ⟨(t129), (wrap64 (x6_1 + 1)), (by first | rfl | (simp; done) | (simp [*]; done)), H', ⟨by have := HK1.out; omega⟩, ⟨by (with_reducible repeat (first | apply Kd.R_alloc | apply Kd.R_drewN | apply Kd.R_drew)); exact Kd.R_mono HO131.out (fun _ hk => trivial)⟩, ⟨by repeat (first | (with_reducible first | exact HB.out | apply below_alloc | apply pw_below_drewN | apply below_drew1) | exact HB.out)⟩⟩
        · rw [if_neg c6] at H
          exact absurd H (by simp)
      · rw [if_neg c5] at H
        have c5b0 : decide (x6_1 < (l1.length : Int)) = false := decide_eq_false c5
        clear c5
        obtain rfl := Option.some.inj H
        go_wp2
        go_ret
        exact ⟨_, by first | rfl | (simp [errW_none, errW_some] <;> rfl) | (simp [*, errW_none, errW_some] <;> rfl), by (with_reducible repeat (first | apply Kd.R_alloc | apply Kd.R_drewN | apply Kd.R_drew)); exact HO_5.out, by repeat (first | (with_reducible first | exact HB.out | apply below_alloc | apply pw_below_drewN | apply below_drew1) | exact HB.out)⟩

end Go.Proofs.Ytiaopkgmhpjeeaa.MBoundHolds

-- printed by myprint.py (a program of this session's, over the kit's printer)
namespace Go.Proofs.Ytiaopkgmhpjeeaa.MBoundHolds
open Go.RowKit Go.Proofs.YtiaopkgmhpjeeaaW.PrintWords Go.Proofs.YtiaopkgmhpjeeaaW.PrintLast Go.Proofs.YtiaopkgmhpjeeaaW.PrintMore
attribute [local go_sem] max2_int min2_int max_two min_two max_three min_three max_four min_four   -- for this text's walks alone
set_option linter.unusedVariables false
set_option linter.unusedSimpArgs false

/-! ### salvorlaw18_Map: function 6 -/
def salvorlaw18_Map.f (k : Nat) (a0 : Int) (l1 : List (S53)) (a2 : Int) (a3 : Int) : Option (Int × Int × Int × (List (S56))) := if (wrap64 ((wrap64 (a0)) + 1)) = 0 then (none) else ((salvorlaw16_Made.f k a0 l1).bind fun t133 => (some (Int.tmod (wrap64 (a2)) (wrap64 ((wrap64 (a0)) + 1)), wrap64 (Int.tmod a3 6), 63, t133)))
theorem salvorlaw18_Map.mono : ∀ a0 a1 a2 a3 k, LeO (salvorlaw18_Map.f k a0 a1 a2 a3) (salvorlaw18_Map.f (k + 1) a0 a1 a2 a3) := by
  intro a0 a1 a2 a3 k
  unfold salvorlaw18_Map.f
  repeat' first
      | (with_reducible exact salvorlaw16_Made.mono _ _ _)
      | (with_reducible exact LeO.refl _)
      | (with_reducible exact LeO.none _)
      | (with_reducible refine LeO.ite ?_ ?_)
      | (with_reducible refine LeO.bind ?_ (fun _ => ?_))
      | exact salvorlaw16_Made.mono _ _ _
      | exact LeO.none _
      | refine LeO.ite ?_ ?_
      | refine LeO.bind ?_ (fun _ => ?_)
def salvorlaw18_Map.T1 : Bool × List (List Nat × List Nat) := (true, [([], []), ([0], [0]), ([], []), ([2], [2]), ([3], [3]), ([1, 4], [1, 4]), ([], []), ([6], [6]), ([7], [7]), ([], []), ([], []), ([9, 10], [9, 10]), ([5, 8, 11], [5, 8, 11]), ([12, 11, 0, 1, 2, 3, 4, 5, 6, 7, 8, 9, 10, 11, 12], [12])])
def salvorlaw18_Map.B1 : List Nat := [0, 1, 0, 4, 12, 31, 0, 64, 192, 0, 0, 1536, 4095, 8191]
theorem salvorlaw18_Map.tab1 : rtab .any (opsOf Try.f6 1) = salvorlaw18_Map.T1 := by kernel_rfl
theorem salvorlaw18_Map.bits1 : waitsOk salvorlaw18_Map.T1.2 salvorlaw18_Map.B1 = true := by kernel_rfl
set_option maxHeartbeats 8000000 in
set_option maxRecDepth 100000 in
theorem salvorlaw18_Map.calls (k : Nat) (a0 : Int) (A1 : Option Addr) (c1 : Nat) (l1 : List (S53)) (a2 : Int) (a3 : Int) (r1 : Int) (r2 : Int) (r3 : Int) (r4 : List (S56)) (w : World) (hr1 : Kd.C k53 w A1 l1.length l1) (hc1 : l1.length ≤ c1) (h : salvorlaw18_Map.f k a0 l1 a2 a3 = some (r1, r2, r3, r4)) :
    Calls Try.prog 6 #[.int .u8 a0, .slice A1 l1.length c1, .int .u8 a2, .int .u8 a3] w fun e w' => ∃ v3_ : Value, e = .returned (.agg #[.int .i64 r1, .int .i64 r2, .int .u8 r3, v3_]) ∧ Kd.R k56 56 w' w.heap.size (fun _ => True) v3_ r4 ∧ Below w.heap.size w w' := by
  have hu30 := Try.underlying30
  have HR1 := Aside0.mk hr1
  have HC1 := Aside0.mk hc1
  clear hr1 hc1
  have HB := Aside0.mk (Below.refl w.heap.size w)
  have H : (if (wrap64 ((wrap64 (a0)) + 1)) = 0 then (none) else ((salvorlaw16_Made.f k a0 l1).bind fun t133 => (some (Int.tmod (wrap64 (a2)) (wrap64 ((wrap64 (a0)) + 1)), wrap64 (Int.tmod a3 6), 63, t133)))) = some (r1, r2, r3, r4) := h
  clear h
  by_cases c5 : (wrap64 ((wrap64 (a0)) + 1)) = 0
  · rw [if_pos c5] at H
    exact absurd H (by simp)
  · rw [if_neg c5] at H
    have c5b0 : ((wrap64 ((wrap64 (a0)) + 1)) == 0) = false := beq_eq_false_iff_ne.mpr c5
    have c5b1 : ((wrap64 ((wrap64 (a0)) + 1)) != 0) = true := bne_iff_ne.mpr c5
    replace H := Option.bind_eq_some_iff.mp H
    obtain ⟨t133, A60, H⟩ := H
    replace H : (some (Int.tmod (wrap64 (a2)) (wrap64 ((wrap64 (a0)) + 1)), wrap64 (Int.tmod a3 6), 63, t133)) = some (r1, r2, r3, r4) := H
    have A6 := Aside0.mk A60
    clear A60
    simp only [Option.some.injEq, Prod.mk.injEq] at H
    obtain ⟨rfl, rfl, rfl, rfl⟩ := H
    go_enter Try.func6, Try.ntmps6
    try go_wp2_with (first | ((with_reducible refine gate_dst (N := 8) rfl ?_); refine box_event ?hg (N := 8) ?hd (cs := #[.int .i64 0, .int .i64 0, .int .u8 0, .slice none 0 0]) (t := 30) ?hr ?_; (case hd => rfl); (case hg => rfl); (case hr => first | (go_simp; done) | (go_simp; rfl)); intro gb132 hg w7 hbox hb; have n0_ := Aside0.mk (below_step (by repeat (first | (with_reducible first | exact HB.out | apply below_alloc | apply pw_below_drewN | apply below_drew1) | exact HB.out)) hb); have n1_ := Aside0.mk (hbox); have n2_ := Aside0.mk ((by rw [hg]; exact (below_size (by repeat (first | (with_reducible first | exact HB.out | apply below_alloc | apply pw_below_drewN | apply below_drew1) | exact HB.out))) : w.heap.size ≤ gb132)); have n3_ := Aside0.mk ((by rw [hg]; exact (below_size (by repeat (first | (with_reducible first | exact HB.out | apply below_alloc | apply pw_below_drewN | apply below_drew1) | exact HB.out))) : w.heap.size ≤ gb132)); clear HB; have HB := n0_; have BK132 := n1_; have GW132 := n2_; have GE132 := n3_; clear n0_ n1_ n2_ n3_; clear hb hbox hg))
    have n0_ := Aside0.mk (blk_drew BK132.out)
    have n1_ := Aside0.mk (below_drew1 HB.out)
    clear BK132
    clear HB
    have BK132 := n0_
    have HB := n1_
    clear n0_ n1_
    refine start_ (n := 14) (S := fun w' => True) (ds := []) #[false, false, false, false, false, false, false, false, false, false, false, false, false, false] (by kernel_rfl) rfl rfl trivial (fun hHeld => ?_); refine with_tabW salvorlaw18_Map.tab1 salvorlaw18_Map.bits1 (fun HT_ HW_ => ?_)
    generalize w7.drew = w8 at BK132 HB hHeld ⊢
    refine pure_ (i := 0) (N := some 9) (v := ?_) (a' := ?_) #[true, false, false, false, false, false, false, false, false, false, false, false, false, false] rfl rfl (any_of HT_.out (by kernel_rfl)) (fun _ _ _ h => h) (Or.inl ⟨by rfl, ?_⟩) ?_ ?_
    rotate_left
    · intro w'
      go_simp
      with_reducible rfl
    rotate_left
    · simp only [Act.put, List.setIfInBounds_toArray, List.set_cons_zero, List.set_cons_succ, i64_w, i32_w]
      rfl
    refine pure_ (i := 1) (N := some 10) (v := ?_) (a' := ?_) #[true, true, false, false, false, false, false, false, false, false, false, false, false, false] rfl rfl (any_of HT_.out (by kernel_rfl)) (fun _ _ _ h => h) (Or.inl ⟨by rfl, ?_⟩) ?_ ?_
    rotate_left
    · intro w'
      go_simp
      with_reducible rfl
    rotate_left
    · simp only [Act.put, List.setIfInBounds_toArray, List.set_cons_zero, List.set_cons_succ, i64_w, i32_w]
      rfl
    refine pure_ (i := 2) (N := some 11) (v := ?_) (a' := ?_) #[true, true, true, false, false, false, false, false, false, false, false, false, false, false] rfl rfl (any_of HT_.out (by kernel_rfl)) (fun _ _ _ h => h) (Or.inl ⟨by rfl, ?_⟩) ?_ ?_
    rotate_left
    · intro w'
      go_simp
      with_reducible rfl
    rotate_left
    · simp only [Act.put, List.setIfInBounds_toArray, List.set_cons_zero, List.set_cons_succ, i64_w, i32_w]
      rfl
    refine pure_ (i := 3) (N := some 12) (v := ?_) (a' := ?_) #[true, true, true, true, false, false, false, false, false, false, false, false, false, false] rfl rfl (any_of HT_.out (by kernel_rfl)) (fun _ _ _ h => h) (Or.inl ⟨by rfl, ?_⟩) ?_ ?_
    rotate_left
    · intro w'
      go_simp
      with_reducible rfl
    rotate_left
    · simp only [Act.put, List.setIfInBounds_toArray, List.set_cons_zero, List.set_cons_succ, i64_w, i32_w]
      rfl
    refine pure_ (i := 4) (N := some 13) (v := ?_) (a' := ?_) #[true, true, true, true, true, false, false, false, false, false, false, false, false, false] rfl rfl (any_of HT_.out (by kernel_rfl)) (fun _ _ _ h => h) (Or.inl ⟨by rfl, ?_⟩) ?_ ?_
    rotate_left
    · intro w'
      go_simp
      with_reducible rfl
    rotate_left
    · simp only [Act.put, List.setIfInBounds_toArray, List.set_cons_zero, List.set_cons_succ, i64_w, i32_w]
      rfl
    refine pure_ (i := 5) (N := some 14) (v := ?_) (a' := ?_) #[true, true, true, true, true, true, false, false, false, false, false, false, false, false] rfl rfl (any_of HT_.out (by kernel_rfl)) (fun _ _ _ h => h) (Or.inl ⟨by rfl, ?_⟩) ?_ ?_
    rotate_left
    · intro w'
      go_simp
      with_reducible rfl
    rotate_left
    · simp only [Act.put, List.setIfInBounds_toArray, List.set_cons_zero, List.set_cons_succ, i64_w, i32_w]
      rfl
    refine pure_ (i := 6) (N := some 15) (v := ?_) (a' := ?_) #[true, true, true, true, true, true, true, false, false, false, false, false, false, false] rfl rfl (any_of HT_.out (by kernel_rfl)) (fun _ _ _ h => h) (Or.inl ⟨by rfl, ?_⟩) ?_ ?_
    rotate_left
    · intro w'
      go_simp
      with_reducible rfl
    rotate_left
    · simp only [Act.put, List.setIfInBounds_toArray, List.set_cons_zero, List.set_cons_succ, i64_w, i32_w]
      rfl
    refine pure_ (i := 7) (N := some 16) (v := ?_) (a' := ?_) #[true, true, true, true, true, true, true, true, false, false, false, false, false, false] rfl rfl (any_of HT_.out (by kernel_rfl)) (fun _ _ _ h => h) (Or.inl ⟨by rfl, ?_⟩) ?_ ?_
    rotate_left
    · intro w'
      go_simp
      with_reducible rfl
    rotate_left
    · simp only [Act.put, List.setIfInBounds_toArray, List.set_cons_zero, List.set_cons_succ, i64_w, i32_w]
      rfl
    refine pure_ (i := 8) (N := some 17) (v := ?_) (a' := ?_) #[true, true, true, true, true, true, true, true, true, false, false, false, false, false] rfl rfl (any_of HT_.out (by kernel_rfl)) (fun _ _ _ h => h) (Or.inl ⟨by rfl, ?_⟩) ?_ ?_
    rotate_left
    · intro w'
      go_simp
      with_reducible rfl
    rotate_left
    · simp only [Act.put, List.setIfInBounds_toArray, List.set_cons_zero, List.set_cons_succ, i64_w, i32_w]
      rfl
    refine pure_ (i := 9) (N := some 18) (v := ?_) (a' := ?_) #[true, true, true, true, true, true, true, true, true, true, false, false, false, false] rfl rfl (any_of HT_.out (by kernel_rfl)) (fun _ _ _ h => h) (Or.inl ⟨by rfl, ?_⟩) ?_ ?_
    rotate_left
    · intro w'
      go_simp
      with_reducible rfl
    rotate_left
    · simp only [Act.put, List.setIfInBounds_toArray, List.set_cons_zero, List.set_cons_succ, i64_w, i32_w]
      rfl
    refine pure_ (i := 10) (N := some 19) (v := ?_) (a' := ?_) #[true, true, true, true, true, true, true, true, true, true, true, false, false, false] rfl rfl (any_of HT_.out (by kernel_rfl)) (fun _ _ _ h => h) (Or.inl ⟨by rfl, ?_⟩) ?_ ?_
    rotate_left
    · intro w'
      go_simp
      with_reducible rfl
    rotate_left
    · simp only [Act.put, List.setIfInBounds_toArray, List.set_cons_zero, List.set_cons_succ, i64_w, i32_w]
      rfl
    refine one_ (i := 11) (N := some 20) #[true, true, true, true, true, true, true, true, true, true, true, true, false, false] rfl rfl (one_of HT_.out (by kernel_rfl)) (by decide) (fun K hK => ?_)
    refine goes_ Try.func13 (by kernel_rfl) rfl #[.int .u8 a0, .slice A1 l1.length c1] (by rfl) rfl rfl (by (try simp only [List.map_toArray, List.map_cons, List.map_nil]); first | done | rfl | (simp only [List.length_drop, List.length_take]; rfl)) ?_
    with_reducible refine (salvorlaw16_Made.calls k a0 _ _ l1 t133 _ ?side1 ?side2 A6.out).mono ?_
    (case side1 => repeat (first | exact (Kd.C_below HR1.out HB.out) | (with_reducible refine Kd.C_alloc ?_ _) | (with_reducible refine Kd.C_drewN ?_ _) | (with_reducible refine Kd.C_drew ?_)))
    (case side2 => exact HC1.out)
    rintro e w9 ⟨v134, rfl, ho0, hb⟩
    refine ⟨_, rfl, ?_⟩
    have n0_ := Aside0.mk (Kd.R_lower ho0 (below_size (by repeat (first | (with_reducible first | exact HB.out | apply below_alloc | apply pw_below_drewN | apply below_drew1 | refine below_set ?_ GE132.out) | exact HB.out))))
    have n1_ := Aside0.mk (blk_below (g := gb132) (o := .cells #[.int .i64 0, .int .i64 0, .int .u8 0, .slice none 0 0] 30 (0, 0)) (by (with_reducible repeat (first | refine blk_drewN ?_ _ | refine blk_drew ?_ | refine blk_alloc ?_ _)); exact BK132.out) hb)
    have n2_ := Aside0.mk (below_step (by repeat (first | (with_reducible first | exact HB.out | apply below_alloc | apply pw_below_drewN | apply below_drew1 | refine below_set ?_ GE132.out) | exact HB.out)) hb)
    clear BK132
    clear HB
    have HO135 := n0_
    have BK132 := n1_
    have HB := n2_
    clear n0_ n1_ n2_
    (try clear hb)
    (try clear hb2)
    (try clear hk)
    (try clear hi)
    (try clear ho0)
    obtain ⟨Ao10, co10, eo10⟩ := Kd.R_slice HO135.out
    (first | subst eo10 | (injection eo10 with f1_ f2_ f3_; have f4_ := f1_.symm; have f5_ := f3_.symm; clear f1_ f2_ f3_; subst f4_; subst f5_))
    refine hK.out _ _ trivial (fun hHeld => ?_)
    clear hK K
    refine norm_ (a' := ?_) ?_ ?_
    rotate_left
    · show Act.put _ (some 20) _ = _
      simp only [Act.put, List.setIfInBounds_toArray, List.set_cons_zero, List.set_cons_succ, i64_w, i32_w]
      rfl
    refine pure_ (i := 12) (N := some 21) (v := ?_) (a' := ?_) #[true, true, true, true, true, true, true, true, true, true, true, true, true, false] rfl rfl (any_of HT_.out (by kernel_rfl)) (fun _ _ _ h => h) (Or.inl ⟨by rfl, ?_⟩) ?_ ?_
    rotate_left
    · intro w'
      go_simp
      with_reducible rfl
    rotate_left
    · simp only [Act.put, List.setIfInBounds_toArray, List.set_cons_zero, List.set_cons_succ, i64_w, i32_w]
      rfl
    refine one_ (i := 13) (N := none) #[true, true, true, true, true, true, true, true, true, true, true, true, true, true] rfl rfl (one_of HT_.out (by kernel_rfl)) (by decide) (fun K hK => ?_)
    have hs11 : w9.cell? ⟨gb132, 0, none⟩ = some (.int .i64 0) := (blk_cell BK132.out 0).trans rfl
    have hfs11 := blk_frozen BK132.out 0
    have hs12 : w9.cell? ⟨gb132, 1, none⟩ = some (.int .i64 0) := (blk_cell BK132.out 1).trans rfl
    have hfs12 := blk_frozen BK132.out 1
    have hs13 : w9.cell? ⟨gb132, 2, none⟩ = some (.int .u8 0) := (blk_cell BK132.out 2).trans rfl
    have hfs13 := blk_frozen BK132.out 2
    have hs14 : w9.cell? ⟨gb132, 3, none⟩ = some (.slice none 0 0) := (blk_cell BK132.out 3).trans rfl
    have hfs14 := blk_frozen BK132.out 3
    refine skip_ (w1 := ?_) (by rfl) rfl ?_ ?_
    rotate_left
    · go_simp
      rfl
    refine hK.out _ _ trivial (fun hHeld => ?_)
    clear hK K
    refine done_ (done_of HT_.out (by kernel_rfl)) ?_
    try go_wp2
    refine bodyPost_ret (results_cell_row rfl _ _ gb132 30 #[.int .i64 (Int.tmod (wrap64 (a2)) (wrap64 ((wrap64 (a0)) + 1))), .int .i64 (wrap64 (Int.tmod a3 6)), .int .u8 63, .slice Ao10 t133.length co10] (0, 0) _ rfl (by (with_reducible repeat (first | refine blk_drewN ?_ _ | refine blk_drew ?_ | refine blk_alloc ?_ _)); refine blk_put (cs := #[.int .i64 (Int.tmod (wrap64 (a2)) (wrap64 ((wrap64 (a0)) + 1))), .int .i64 (wrap64 (Int.tmod a3 6)), .int .u8 63, .slice none 0 0]) ?_ 3 _ rfl; (with_reducible repeat (first | refine blk_drewN ?_ _ | refine blk_drew ?_ | refine blk_alloc ?_ _)); refine blk_put (cs := #[.int .i64 (Int.tmod (wrap64 (a2)) (wrap64 ((wrap64 (a0)) + 1))), .int .i64 (wrap64 (Int.tmod a3 6)), .int .u8 0, .slice none 0 0]) ?_ 2 _ rfl; (with_reducible repeat (first | refine blk_drewN ?_ _ | refine blk_drew ?_ | refine blk_alloc ?_ _)); refine blk_put (cs := #[.int .i64 (Int.tmod (wrap64 (a2)) (wrap64 ((wrap64 (a0)) + 1))), .int .i64 0, .int .u8 0, .slice none 0 0]) ?_ 1 _ rfl; (with_reducible repeat (first | refine blk_drewN ?_ _ | refine blk_drew ?_ | refine blk_alloc ?_ _)); refine blk_put (cs := #[.int .i64 0, .int .i64 0, .int .u8 0, .slice none 0 0]) ?_ 0 _ rfl; (with_reducible repeat (first | refine blk_drewN ?_ _ | refine blk_drew ?_ | refine blk_alloc ?_ _)); exact BK132.out) Try.underlying30 rfl (by kernel_rfl)) rfl ?_
    exact ⟨_, by first | rfl | (simp [errW_none, errW_some] <;> rfl) | (simp [*, errW_none, errW_some] <;> rfl), by (with_reducible repeat (first | apply Kd.R_alloc | apply Kd.R_drewN | apply Kd.R_drew)); exact Kd.R_mono (Kd.R_far (p := ⟨gb132, 3, none⟩) (Kd.R_far (p := ⟨gb132, 2, none⟩) (Kd.R_far (p := ⟨gb132, 1, none⟩) (Kd.R_far (p := ⟨gb132, 0, none⟩) (Kd.R_types HO135.out BK132.out (by decide)) (fun _ hk => hk.2) (.int .i64 (Int.tmod (wrap64 (a2)) (wrap64 ((wrap64 (a0)) + 1))))) (fun _ hk => hk.2) (.int .i64 (wrap64 (Int.tmod a3 6)))) (fun _ hk => hk.2) (.int .u8 63)) (fun _ hk => hk.2) (.slice Ao10 t133.length co10)) (fun _ hk => trivial), by repeat (first | (with_reducible first | exact HB.out | apply below_alloc | apply pw_below_drewN | apply below_drew1 | refine below_set ?_ GE132.out) | exact HB.out)⟩

end Go.Proofs.Ytiaopkgmhpjeeaa.MBoundHolds

-- printed by myprint.py (a program of this session's, over the kit's printer)
namespace Go.Proofs.Ytiaopkgmhpjeeaa.MBoundHolds
open Go.RowKit Go.Proofs.YtiaopkgmhpjeeaaW.PrintWords Go.Proofs.YtiaopkgmhpjeeaaW.PrintLast Go.Proofs.YtiaopkgmhpjeeaaW.PrintMore
attribute [local go_sem] max2_int min2_int max_two min_two max_three min_three max_four min_four   -- for this text's walks alone
set_option linter.unusedVariables false
set_option linter.unusedSimpArgs false

/-! ### region_End: function 15 -/
def region_End.f (l0 : List (S56)) : Option (Int) := (region_May.f l0).bind fun t136 => (if t136 = true then ((region_end.f l0).bind fun t137 => (some t137)) else (some 0))
set_option maxHeartbeats 8000000 in
set_option maxRecDepth 100000 in
theorem region_End.calls (A0 : Option Addr) (c0 : Nat) (l0 : List (S56)) (r : Int) (w : World) (hr0 : Kd.C k56 w A0 l0.length l0) (hc0 : l0.length ≤ c0) (h : region_End.f l0 = some r) :
    Calls Try.prog 15 #[.slice A0 l0.length c0] w fun e w' => e = .returned (.int .i64 r) ∧ Below w.heap.size w w' := by
  have HR0 := Aside0.mk hr0
  have HC0 := Aside0.mk hc0
  clear hr0 hc0
  have HB := Aside0.mk (Below.refl w.heap.size w)
  have H : ((region_May.f l0).bind fun t136 => (if t136 = true then ((region_end.f l0).bind fun t137 => (some t137)) else (some 0))) = some r := h
  clear h
  replace H := Option.bind_eq_some_iff.mp H
  obtain ⟨t136, A20, H⟩ := H
  replace H : (if t136 = true then ((region_end.f l0).bind fun t137 => (some t137)) else (some 0)) = some r := H
  have A2 := Aside0.mk A20
  clear A20
  by_cases c3 : t136 = true
  · subst c3
    have H1 : ((region_end.f l0).bind fun t137 => (some t137)) = some r := by rw [if_pos rfl] at H; exact H
    clear H
    have H := H1
    clear H1
    replace H := Option.bind_eq_some_iff.mp H
    obtain ⟨t137, A40, H⟩ := H
    replace H : (some t137) = some r := H
    have A4 := Aside0.mk A40
    clear A40
    obtain rfl := Option.some.inj H
    go_enter Try.func15, Try.ntmps15
    go_wp2_with (first | ((with_reducible refine gate_callee (f := 14) rfl ?_); refine goesL_ (some 4) rfl rfl Try.func14 (by kernel_rfl) rfl #[.slice A0 l0.length c0] rfl (by (try simp only [List.map_toArray, List.map_cons, List.map_nil]); first | done | rfl | (simp only [List.length_drop, List.length_take]; rfl)) ?_; (with_reducible refine (region_May.calls _ _ l0 true _ ?side1 ?side2 A2.out).mono ?_); (case side1 => repeat (first | exact HR0.out | (with_reducible refine Kd.C_alloc ?_ _) | (with_reducible refine Kd.C_drewN ?_ _) | (with_reducible refine Kd.C_drew ?_))); (case side2 => exact HC0.out); rintro e w5 ⟨rfl, hb⟩; refine ⟨_, rfl, ?_⟩; have n0_ := Aside0.mk (below_step (by repeat (first | (with_reducible first | exact HB.out | apply below_alloc | apply pw_below_drewN | apply below_drew1) | exact HB.out)) hb); clear HB; have HB := n0_; clear n0_; (try clear hb); (try clear hb2); (try clear hk); (try clear hi)) | ((with_reducible refine gate_callee (f := 25) rfl ?_); refine goesL_ (some 7) rfl rfl Try.func25 (by kernel_rfl) rfl #[.slice A0 l0.length c0] rfl (by (try simp only [List.map_toArray, List.map_cons, List.map_nil]); first | done | rfl | (simp only [List.length_drop, List.length_take]; rfl)) ?_; (with_reducible refine (region_end.calls _ _ l0 t137 _ ?side1 ?side2 A4.out).mono ?_); (case side1 => repeat (first | exact (Kd.C_below HR0.out HB.out) | (with_reducible refine Kd.C_alloc ?_ _) | (with_reducible refine Kd.C_drewN ?_ _) | (with_reducible refine Kd.C_drew ?_))); (case side2 => exact HC0.out); rintro e w6 ⟨rfl, hb⟩; refine ⟨_, rfl, ?_⟩; have n0_ := Aside0.mk (below_step (by repeat (first | (with_reducible first | exact HB.out | apply below_alloc | apply pw_below_drewN | apply below_drew1) | exact HB.out)) hb); clear HB; have HB := n0_; clear n0_; (try clear hb); (try clear hb2); (try clear hk); (try clear hi)))
    go_ret
    exact ⟨by first | rfl | (simp [errW_none, errW_some] <;> rfl) | (simp [*, errW_none, errW_some] <;> rfl), by repeat (first | (with_reducible first | exact HB.out | apply below_alloc | apply pw_below_drewN | apply below_drew1) | exact HB.out)⟩
  · replace c3 := Bool.eq_false_iff.mpr c3
    subst c3
    have H1 : (some 0) = some r := by rw [if_neg (show ¬ (false = true) by decide)] at H; exact H
    clear H
    have H := H1
    clear H1
    obtain rfl := Option.some.inj H
    go_enter Try.func15, Try.ntmps15
    go_wp2_with (first | ((with_reducible refine gate_callee (f := 14) rfl ?_); refine goesL_ (some 4) rfl rfl Try.func14 (by kernel_rfl) rfl #[.slice A0 l0.length c0] rfl (by (try simp only [List.map_toArray, List.map_cons, List.map_nil]); first | done | rfl | (simp only [List.length_drop, List.length_take]; rfl)) ?_; (with_reducible refine (region_May.calls _ _ l0 false _ ?side1 ?side2 A2.out).mono ?_); (case side1 => repeat (first | exact HR0.out | (with_reducible refine Kd.C_alloc ?_ _) | (with_reducible refine Kd.C_drewN ?_ _) | (with_reducible refine Kd.C_drew ?_))); (case side2 => exact HC0.out); rintro e w7 ⟨rfl, hb⟩; refine ⟨_, rfl, ?_⟩; have n0_ := Aside0.mk (below_step (by repeat (first | (with_reducible first | exact HB.out | apply below_alloc | apply pw_below_drewN | apply below_drew1) | exact HB.out)) hb); clear HB; have HB := n0_; clear n0_; (try clear hb); (try clear hb2); (try clear hk); (try clear hi)))
    go_ret
    exact ⟨by first | rfl | (simp [errW_none, errW_some] <;> rfl) | (simp [*, errW_none, errW_some] <;> rfl), by repeat (first | (with_reducible first | exact HB.out | apply below_alloc | apply pw_below_drewN | apply below_drew1) | exact HB.out)⟩

end Go.Proofs.Ytiaopkgmhpjeeaa.MBoundHolds

-- printed by myprint.py (a program of this session's, over the kit's printer)
namespace Go.Proofs.Ytiaopkgmhpjeeaa.MBoundHolds
open Go.RowKit Go.Proofs.YtiaopkgmhpjeeaaW.PrintWords Go.Proofs.YtiaopkgmhpjeeaaW.PrintLast Go.Proofs.YtiaopkgmhpjeeaaW.PrintMore
attribute [local go_sem] max2_int min2_int max_two min_two max_three min_three max_four min_four   -- for this text's walks alone
set_option linter.unusedVariables false
set_option linter.unusedSimpArgs false

/-! ### bound_Sectors: function 11 -/
def bound_Sectors.f (a0 : Int) : Option (Int) := if a0 < 0 then (some 0) else (if a0 > 1099511627776 then (some 0) else (some (wrap64 (Int.tdiv (wrap64 ((wrap64 (a0 + 8)) - 1)) 8))))
set_option maxHeartbeats 8000000 in
set_option maxRecDepth 100000 in
theorem bound_Sectors.calls (a0 : Int) (r : Int) (w : World) (h : bound_Sectors.f a0 = some r) :
    Calls Try.prog 11 #[.int .i64 a0] w fun e w' => e = .returned (.int .i64 r) ∧ Drawn0 w w' := by
  have H : (if a0 < 0 then (some 0) else (if a0 > 1099511627776 then (some 0) else (some (wrap64 (Int.tdiv (wrap64 ((wrap64 (a0 + 8)) - 1)) 8))))) = some r := h
  clear h
  by_cases c2 : a0 < 0
  · rw [if_pos c2] at H
    have c2b0 : decide (a0 < 0) = true := decide_eq_true c2
    clear c2
    obtain rfl := Option.some.inj H
    go_enter Try.func11, Try.ntmps11
    go_wp2
    go_ret
    exact ⟨by first | rfl | (simp; done) | (simp [*]; done), by repeat (first | exact Drawn0.refl _ | apply Drawn0.step)⟩
  · rw [if_neg c2] at H
    have c2b0 : decide (a0 < 0) = false := decide_eq_false c2
    clear c2
    by_cases c3 : a0 > 1099511627776
    · rw [if_pos c3] at H
      have c3b0 : decide (1099511627776 < a0) = true := decide_eq_true c3
      clear c3
      obtain rfl := Option.some.inj H
      go_enter Try.func11, Try.ntmps11
      go_wp2
      go_ret
      exact ⟨by first | rfl | (simp; done) | (simp [*]; done), by repeat (first | exact Drawn0.refl _ | apply Drawn0.step)⟩
    · rw [if_neg c3] at H
      have c3b0 : decide (1099511627776 < a0) = false := decide_eq_false c3
      clear c3
      obtain rfl := Option.some.inj H
      go_enter Try.func11, Try.ntmps11
      go_wp2
      go_ret
      exact ⟨by first | rfl | (simp; done) | (simp [*]; done), by repeat (first | exact Drawn0.refl _ | apply Drawn0.step)⟩

end Go.Proofs.Ytiaopkgmhpjeeaa.MBoundHolds

-- printed by myprint.py (a program of this session's, over the kit's printer)
namespace Go.Proofs.Ytiaopkgmhpjeeaa.MBoundHolds
open Go.RowKit Go.Proofs.YtiaopkgmhpjeeaaW.PrintWords Go.Proofs.YtiaopkgmhpjeeaaW.PrintLast Go.Proofs.YtiaopkgmhpjeeaaW.PrintMore
attribute [local go_sem] max2_int min2_int max_two min_two max_three min_three max_four min_four   -- for this text's walks alone
set_option linter.unusedVariables false
set_option linter.unusedSimpArgs false

/-! ### plan_May: function 17 -/
def plan_May.f (a0_0 : Int) (a0_1 : Int) (a0_2 : Bool) : Option (Bool) := if a0_0 ≥ 1 then (if a0_0 ≤ 512 then (if a0_1 ≥ 0 then (some (decide (a0_1 ≤ 20))) else (some false)) else (some false)) else (some false)
set_option maxHeartbeats 8000000 in
set_option maxRecDepth 100000 in
theorem plan_May.calls (a0_0 : Int) (a0_1 : Int) (a0_2 : Bool) (r : Bool) (w : World) (h : plan_May.f a0_0 a0_1 a0_2 = some r) :
    Calls Try.prog 17 #[.agg #[.int .i64 a0_0, .int .i64 a0_1, .bool a0_2]] w fun e w' => e = .returned (.bool r) ∧ Below w.heap.size w w' := by
  have hu26 := Try.underlying26
  have HB := Aside0.mk (Below.refl w.heap.size w)
  have H : (if a0_0 ≥ 1 then (if a0_0 ≤ 512 then (if a0_1 ≥ 0 then (some (decide (a0_1 ≤ 20))) else (some false)) else (some false)) else (some false)) = some r := h
  clear h
  by_cases c2 : a0_0 ≥ 1
  · rw [if_pos c2] at H
    have c2b0 : decide (1 ≤ a0_0) = true := decide_eq_true c2
    clear c2
    by_cases c3 : a0_0 ≤ 512
    · rw [if_pos c3] at H
      have c3b0 : decide (a0_0 ≤ 512) = true := decide_eq_true c3
      clear c3
      by_cases c4 : a0_1 ≥ 0
      · rw [if_pos c4] at H
        have c4b0 : decide (0 ≤ a0_1) = true := decide_eq_true c4
        clear c4
        obtain rfl := Option.some.inj H
        go_enter Try.func17, Try.ntmps17
        go_wp2_with (first | ((with_reducible refine gate_dst (N := 1) rfl ?_); refine box_event ?hg (N := 1) ?hd (cs := #[.int .i64 a0_0, .int .i64 a0_1, .bool a0_2]) (t := 26) ?hr ?_; (case hd => rfl); (case hg => rfl); (case hr => first | (go_simp; done) | (go_simp; rfl)); intro gb138 hg w5 hbox hb; have n0_ := Aside0.mk (below_step (by repeat (first | (with_reducible first | exact HB.out | apply below_alloc | apply pw_below_drewN | apply below_drew1) | exact HB.out)) hb); have n1_ := Aside0.mk (hbox); have n2_ := Aside0.mk ((by rw [hg]; exact (below_size (by repeat (first | (with_reducible first | exact HB.out | apply below_alloc | apply pw_below_drewN | apply below_drew1) | exact HB.out))) : w.heap.size ≤ gb138)); have n3_ := Aside0.mk ((by rw [hg]; exact (below_size (by repeat (first | (with_reducible first | exact HB.out | apply below_alloc | apply pw_below_drewN | apply below_drew1) | exact HB.out))) : w.heap.size ≤ gb138)); clear HB; have HB := n0_; have BK138 := n1_; have GW138 := n2_; have GE138 := n3_; clear n0_ n1_ n2_ n3_; clear hb hbox hg; have hcz6_0 : w5.cell? ⟨gb138, 0, none⟩ = some (.int .i64 a0_0) := (blk_cell BK138.out 0).trans rfl; have hcz6_1 : w5.cell? ⟨gb138, 1, none⟩ = some (.int .i64 a0_1) := (blk_cell BK138.out 1).trans rfl; have hcz6_2 : w5.cell? ⟨gb138, 2, none⟩ = some (.bool a0_2) := (blk_cell BK138.out 2).trans rfl; have hfz6_0 := blk_frozen BK138.out 0; have hfz6_1 := blk_frozen BK138.out 1; have hfz6_2 := blk_frozen BK138.out 2))
        go_ret
        exact ⟨by first | rfl | (simp [errW_none, errW_some] <;> rfl) | (simp [*, errW_none, errW_some] <;> rfl), by repeat (first | (with_reducible first | exact HB.out | apply below_alloc | apply pw_below_drewN | apply below_drew1 | refine below_set ?_ GE138.out) | exact HB.out)⟩
      · rw [if_neg c4] at H
        have c4b0 : decide (0 ≤ a0_1) = false := decide_eq_false c4
        clear c4
        obtain rfl := Option.some.inj H
        go_enter Try.func17, Try.ntmps17
        go_wp2_with (first | ((with_reducible refine gate_dst (N := 1) rfl ?_); refine box_event ?hg (N := 1) ?hd (cs := #[.int .i64 a0_0, .int .i64 a0_1, .bool a0_2]) (t := 26) ?hr ?_; (case hd => rfl); (case hg => rfl); (case hr => first | (go_simp; done) | (go_simp; rfl)); intro gb138 hg w7 hbox hb; have n0_ := Aside0.mk (below_step (by repeat (first | (with_reducible first | exact HB.out | apply below_alloc | apply pw_below_drewN | apply below_drew1) | exact HB.out)) hb); have n1_ := Aside0.mk (hbox); have n2_ := Aside0.mk ((by rw [hg]; exact (below_size (by repeat (first | (with_reducible first | exact HB.out | apply below_alloc | apply pw_below_drewN | apply below_drew1) | exact HB.out))) : w.heap.size ≤ gb138)); have n3_ := Aside0.mk ((by rw [hg]; exact (below_size (by repeat (first | (with_reducible first | exact HB.out | apply below_alloc | apply pw_below_drewN | apply below_drew1) | exact HB.out))) : w.heap.size ≤ gb138)); clear HB; have HB := n0_; have BK138 := n1_; have GW138 := n2_; have GE138 := n3_; clear n0_ n1_ n2_ n3_; clear hb hbox hg; have hcz8_0 : w7.cell? ⟨gb138, 0, none⟩ = some (.int .i64 a0_0) := (blk_cell BK138.out 0).trans rfl; have hcz8_1 : w7.cell? ⟨gb138, 1, none⟩ = some (.int .i64 a0_1) := (blk_cell BK138.out 1).trans rfl; have hcz8_2 : w7.cell? ⟨gb138, 2, none⟩ = some (.bool a0_2) := (blk_cell BK138.out 2).trans rfl; have hfz8_0 := blk_frozen BK138.out 0; have hfz8_1 := blk_frozen BK138.out 1; have hfz8_2 := blk_frozen BK138.out 2))
        go_ret
        exact ⟨by first | rfl | (simp [errW_none, errW_some] <;> rfl) | (simp [*, errW_none, errW_some] <;> rfl), by repeat (first | (with_reducible first | exact HB.out | apply below_alloc | apply pw_below_drewN | apply below_drew1 | refine below_set ?_ GE138.out) | exact HB.out)⟩
    · rw [if_neg c3] at H
      have c3b0 : decide (a0_0 ≤ 512) = false := decide_eq_false c3
      clear c3
      obtain rfl := Option.some.inj H
      go_enter Try.func17, Try.ntmps17
      go_wp2_with (first | ((with_reducible refine gate_dst (N := 1) rfl ?_); refine box_event ?hg (N := 1) ?hd (cs := #[.int .i64 a0_0, .int .i64 a0_1, .bool a0_2]) (t := 26) ?hr ?_; (case hd => rfl); (case hg => rfl); (case hr => first | (go_simp; done) | (go_simp; rfl)); intro gb138 hg w9 hbox hb; have n0_ := Aside0.mk (below_step (by repeat (first | (with_reducible first | exact HB.out | apply below_alloc | apply pw_below_drewN | apply below_drew1) | exact HB.out)) hb); have n1_ := Aside0.mk (hbox); have n2_ := Aside0.mk ((by rw [hg]; exact (below_size (by repeat (first | (with_reducible first | exact HB.out | apply below_alloc | apply pw_below_drewN | apply below_drew1) | exact HB.out))) : w.heap.size ≤ gb138)); have n3_ := Aside0.mk ((by rw [hg]; exact (below_size (by repeat (first | (with_reducible first | exact HB.out | apply below_alloc | apply pw_below_drewN | apply below_drew1) | exact HB.out))) : w.heap.size ≤ gb138)); clear HB; have HB := n0_; have BK138 := n1_; have GW138 := n2_; have GE138 := n3_; clear n0_ n1_ n2_ n3_; clear hb hbox hg; have hcz10_0 : w9.cell? ⟨gb138, 0, none⟩ = some (.int .i64 a0_0) := (blk_cell BK138.out 0).trans rfl; have hcz10_1 : w9.cell? ⟨gb138, 1, none⟩ = some (.int .i64 a0_1) := (blk_cell BK138.out 1).trans rfl; have hcz10_2 : w9.cell? ⟨gb138, 2, none⟩ = some (.bool a0_2) := (blk_cell BK138.out 2).trans rfl; have hfz10_0 := blk_frozen BK138.out 0; have hfz10_1 := blk_frozen BK138.out 1; have hfz10_2 := blk_frozen BK138.out 2))
      go_ret
      exact ⟨by first | rfl | (simp [errW_none, errW_some] <;> rfl) | (simp [*, errW_none, errW_some] <;> rfl), by repeat (first | (with_reducible first | exact HB.out | apply below_alloc | apply pw_below_drewN | apply below_drew1 | refine below_set ?_ GE138.out) | exact HB.out)⟩
  · rw [if_neg c2] at H
    have c2b0 : decide (1 ≤ a0_0) = false := decide_eq_false c2
    clear c2
    obtain rfl := Option.some.inj H
    go_enter Try.func17, Try.ntmps17
    go_wp2_with (first | ((with_reducible refine gate_dst (N := 1) rfl ?_); refine box_event ?hg (N := 1) ?hd (cs := #[.int .i64 a0_0, .int .i64 a0_1, .bool a0_2]) (t := 26) ?hr ?_; (case hd => rfl); (case hg => rfl); (case hr => first | (go_simp; done) | (go_simp; rfl)); intro gb138 hg w11 hbox hb; have n0_ := Aside0.mk (below_step (by repeat (first | (with_reducible first | exact HB.out | apply below_alloc | apply pw_below_drewN | apply below_drew1) | exact HB.out)) hb); have n1_ := Aside0.mk (hbox); have n2_ := Aside0.mk ((by rw [hg]; exact (below_size (by repeat (first | (with_reducible first | exact HB.out | apply below_alloc | apply pw_below_drewN | apply below_drew1) | exact HB.out))) : w.heap.size ≤ gb138)); have n3_ := Aside0.mk ((by rw [hg]; exact (below_size (by repeat (first | (with_reducible first | exact HB.out | apply below_alloc | apply pw_below_drewN | apply below_drew1) | exact HB.out))) : w.heap.size ≤ gb138)); clear HB; have HB := n0_; have BK138 := n1_; have GW138 := n2_; have GE138 := n3_; clear n0_ n1_ n2_ n3_; clear hb hbox hg; have hcz12_0 : w11.cell? ⟨gb138, 0, none⟩ = some (.int .i64 a0_0) := (blk_cell BK138.out 0).trans rfl; have hcz12_1 : w11.cell? ⟨gb138, 1, none⟩ = some (.int .i64 a0_1) := (blk_cell BK138.out 1).trans rfl; have hcz12_2 : w11.cell? ⟨gb138, 2, none⟩ = some (.bool a0_2) := (blk_cell BK138.out 2).trans rfl; have hfz12_0 := blk_frozen BK138.out 0; have hfz12_1 := blk_frozen BK138.out 1; have hfz12_2 := blk_frozen BK138.out 2))
    go_ret
    exact ⟨by first | rfl | (simp [errW_none, errW_some] <;> rfl) | (simp [*, errW_none, errW_some] <;> rfl), by repeat (first | (with_reducible first | exact HB.out | apply below_alloc | apply pw_below_drewN | apply below_drew1 | refine below_set ?_ GE138.out) | exact HB.out)⟩

end Go.Proofs.Ytiaopkgmhpjeeaa.MBoundHolds

namespace Go.Proofs.Ytiaopkgmhpjeeaa.MBoundHolds
open Go.Sal Go.RowKit Go.Proofs.YtiaopkgmhpjeeaaW.PrintWords Go.Proofs.YtiaopkgmhpjeeaaW.PrintLast Go.Proofs.YtiaopkgmhpjeeaaW.PrintMore
attribute [local go_sem] max2_int min2_int max_two min_two max_three min_three max_four min_four
set_option linter.unusedVariables false
set_option linter.unusedSimpArgs false

def maptext_May.f (a0_0 : Int) (a0_1 : Int) (a0_2 : Int) (l0_3 : List (S56)) : Option (Bool) :=
  (region_May.f l0_3).bind fun t => (region_End.f l0_3).bind fun e => some (t && decide (0 ≤ a0_0) && decide (a0_0 ≤ e) && decide (0 ≤ a0_1) && decide (a0_1 ≤ 20) && isB a0_2)
set_option maxHeartbeats 1600000 in
set_option maxRecDepth 100000 in
theorem maptext_May.calls (a0_0 : Int) (a0_1 : Int) (a0_2 : Int) (A0_3 : Option Addr) (c0_3 : Nat) (l0_3 : List (S56)) (r : Bool) (w : World) (hr0_3 : Kd.C k56 w A0_3 l0_3.length l0_3) (hc0_3 : l0_3.length ≤ c0_3) (h : maptext_May.f a0_0 a0_1 a0_2 l0_3 = some r) :
    Calls Try.prog 7 #[.agg #[.int .i64 a0_0, .int .i64 a0_1, .int .u8 a0_2, .slice A0_3 l0_3.length c0_3]] w fun e w' => e = .returned (.bool r) ∧ Below w.heap.size w w' := by
  unfold maptext_May.f at h
  obtain ⟨t, ht, h⟩ := Option.bind_eq_some_iff.1 h
  obtain ⟨e, he, h⟩ := Option.bind_eq_some_iff.1 h
  have hR := Option.some.inj h
  clear h
  have HT := Aside0.mk ht
  have HE := Aside0.mk he
  have HR0 := Aside0.mk hr0_3
  have HC0 := Aside0.mk hc0_3
  have HRE := Aside0.mk hR
  clear ht he hr0_3 hc0_3 hR
  have HB := Aside0.mk (Below.refl w.heap.size w)
  have BK := Aside0.mk (blkN w (.cells #[.int .i64 a0_0, .int .i64 a0_1, .int .u8 a0_2, .slice A0_3 l0_3.length c0_3] 30))
  have HB1 := Aside0.mk (below_alloc HB.out (.cells #[.int .i64 a0_0, .int .i64 a0_1, .int .u8 a0_2, .slice A0_3 l0_3.length c0_3] 30))
  by_cases c1 : t = true
  · subst c1
    by_cases c2 : 0 ≤ a0_0
    · have c2b : decide (0 ≤ a0_0) = true := decide_eq_true c2
      by_cases c3 : a0_0 ≤ e
      · have c3b : decide (a0_0 ≤ e) = true := decide_eq_true c3
        by_cases c4 : 0 ≤ a0_1
        · have c4b : decide (0 ≤ a0_1) = true := decide_eq_true c4
          by_cases c5 : a0_1 ≤ 20
          · have c5b : decide (a0_1 ≤ 20) = true := decide_eq_true c5
            go_enter Try.func7, Try.ntmps7
            go_wp2
            generalize w.alloc (.cells #[.int .i64 a0_0, .int .i64 a0_1, .int .u8 a0_2, .slice A0_3 l0_3.length c0_3] 30) = W0 at BK HB1 ⊢
            refine wp_region_ext (by kernel_rfl) (by kernel_rfl) ?_
            repeat (first
              | ((with_reducible refine wpQuiet_step ?_); intro K hK; go_simp; first | (refine hK _ ?_; clear hK K) | (apply Exists.intro; refine ⟨fun w' hC => ?_, hK _ ?_⟩; (have hb := blk_later hC BK.out; have f0 := blk_cell' hb 0 rfl; have f1 := blk_cell' hb 1 rfl; have f2 := blk_cell' hb 2 rfl; have f3 := blk_cell' hb 3 rfl; clear hb; go_simp; try (first
                   | (go_at_call 14; exact (region_May.calls _ _ l0_3 _ _ (Kd.C_below HR0.out (below_step HB1.out hC)) HC0.out HT.out).mono fun e w'' ⟨he, hb⟩ => ⟨he, below_step hC hb⟩)
                   | (go_at_call 15; exact (region_End.calls _ _ l0_3 _ _ (Kd.C_below HR0.out (below_step HB1.out hC)) HC0.out HE.out).mono fun e w'' ⟨he, hb⟩ => ⟨he, below_step hC hb⟩)
                   | (go_at_call 16; exact (is_calls _ _).mono fun e w'' ⟨he, hb⟩ => ⟨he, below_step hC (by obtain ⟨n, rfl⟩ := hb.out; exact pw_below_drewN (Below.refl _ _) _)⟩) | rfl)); clear hK K)))
            refine wpQuiet_nil ?_
            intro w2 hb2
            have HB2 := Aside0.mk (below_step HB1.out hb2)
            clear hb2
            go_wp2
            go_ret
            exact ⟨by rw [← HRE.out]; simp [*], HB2.out⟩
          · have c5b : decide (a0_1 ≤ 20) = false := decide_eq_false c5
            go_enter Try.func7, Try.ntmps7
            go_wp2
            generalize w.alloc (.cells #[.int .i64 a0_0, .int .i64 a0_1, .int .u8 a0_2, .slice A0_3 l0_3.length c0_3] 30) = W0 at BK HB1 ⊢
            refine wp_region_ext (by kernel_rfl) (by kernel_rfl) ?_
            repeat (first
              | ((with_reducible refine wpQuiet_step ?_); intro K hK; go_simp; first | (refine hK _ ?_; clear hK K) | (apply Exists.intro; refine ⟨fun w' hC => ?_, hK _ ?_⟩; (have hb := blk_later hC BK.out; have f0 := blk_cell' hb 0 rfl; have f1 := blk_cell' hb 1 rfl; have f2 := blk_cell' hb 2 rfl; have f3 := blk_cell' hb 3 rfl; clear hb; go_simp; try (first
                   | (go_at_call 14; exact (region_May.calls _ _ l0_3 _ _ (Kd.C_below HR0.out (below_step HB1.out hC)) HC0.out HT.out).mono fun e w'' ⟨he, hb⟩ => ⟨he, below_step hC hb⟩)
                   | (go_at_call 15; exact (region_End.calls _ _ l0_3 _ _ (Kd.C_below HR0.out (below_step HB1.out hC)) HC0.out HE.out).mono fun e w'' ⟨he, hb⟩ => ⟨he, below_step hC hb⟩)
                   | (go_at_call 16; exact (is_calls _ _).mono fun e w'' ⟨he, hb⟩ => ⟨he, below_step hC (by obtain ⟨n, rfl⟩ := hb.out; exact pw_below_drewN (Below.refl _ _) _)⟩) | rfl)); clear hK K)))
            refine wpQuiet_nil ?_
            intro w2 hb2
            have HB2 := Aside0.mk (below_step HB1.out hb2)
            clear hb2
            go_wp2
            go_ret
            exact ⟨by rw [← HRE.out]; simp [*], HB2.out⟩
        · have c4b : decide (0 ≤ a0_1) = false := decide_eq_false c4
          go_enter Try.func7, Try.ntmps7
          go_wp2
          generalize w.alloc (.cells #[.int .i64 a0_0, .int .i64 a0_1, .int .u8 a0_2, .slice A0_3 l0_3.length c0_3] 30) = W0 at BK HB1 ⊢
          refine wp_region_ext (by kernel_rfl) (by kernel_rfl) ?_
          repeat (first
            | ((with_reducible refine wpQuiet_step ?_); intro K hK; go_simp; first | (refine hK _ ?_; clear hK K) | (apply Exists.intro; refine ⟨fun w' hC => ?_, hK _ ?_⟩; (have hb := blk_later hC BK.out; have f0 := blk_cell' hb 0 rfl; have f1 := blk_cell' hb 1 rfl; have f2 := blk_cell' hb 2 rfl; have f3 := blk_cell' hb 3 rfl; clear hb; go_simp; try (first
                 | (go_at_call 14; exact (region_May.calls _ _ l0_3 _ _ (Kd.C_below HR0.out (below_step HB1.out hC)) HC0.out HT.out).mono fun e w'' ⟨he, hb⟩ => ⟨he, below_step hC hb⟩)
                 | (go_at_call 15; exact (region_End.calls _ _ l0_3 _ _ (Kd.C_below HR0.out (below_step HB1.out hC)) HC0.out HE.out).mono fun e w'' ⟨he, hb⟩ => ⟨he, below_step hC hb⟩)
                 | (go_at_call 16; exact (is_calls _ _).mono fun e w'' ⟨he, hb⟩ => ⟨he, below_step hC (by obtain ⟨n, rfl⟩ := hb.out; exact pw_below_drewN (Below.refl _ _) _)⟩) | rfl)); clear hK K)))
          refine wpQuiet_nil ?_
          intro w2 hb2
          have HB2 := Aside0.mk (below_step HB1.out hb2)
          clear hb2
          go_wp2
          go_ret
          exact ⟨by rw [← HRE.out]; simp [*], HB2.out⟩
      · have c3b : decide (a0_0 ≤ e) = false := decide_eq_false c3
        go_enter Try.func7, Try.ntmps7
        go_wp2
        generalize w.alloc (.cells #[.int .i64 a0_0, .int .i64 a0_1, .int .u8 a0_2, .slice A0_3 l0_3.length c0_3] 30) = W0 at BK HB1 ⊢
        refine wp_region_ext (by kernel_rfl) (by kernel_rfl) ?_
        repeat (first
          | ((with_reducible refine wpQuiet_step ?_); intro K hK; go_simp; first | (refine hK _ ?_; clear hK K) | (apply Exists.intro; refine ⟨fun w' hC => ?_, hK _ ?_⟩; (have hb := blk_later hC BK.out; have f0 := blk_cell' hb 0 rfl; have f1 := blk_cell' hb 1 rfl; have f2 := blk_cell' hb 2 rfl; have f3 := blk_cell' hb 3 rfl; clear hb; go_simp; try (first
               | (go_at_call 14; exact (region_May.calls _ _ l0_3 _ _ (Kd.C_below HR0.out (below_step HB1.out hC)) HC0.out HT.out).mono fun e w'' ⟨he, hb⟩ => ⟨he, below_step hC hb⟩)
               | (go_at_call 15; exact (region_End.calls _ _ l0_3 _ _ (Kd.C_below HR0.out (below_step HB1.out hC)) HC0.out HE.out).mono fun e w'' ⟨he, hb⟩ => ⟨he, below_step hC hb⟩)
               | (go_at_call 16; exact (is_calls _ _).mono fun e w'' ⟨he, hb⟩ => ⟨he, below_step hC (by obtain ⟨n, rfl⟩ := hb.out; exact pw_below_drewN (Below.refl _ _) _)⟩) | rfl)); clear hK K)))
        refine wpQuiet_nil ?_
        intro w2 hb2
        have HB2 := Aside0.mk (below_step HB1.out hb2)
        clear hb2
        go_wp2
        go_ret
        exact ⟨by rw [← HRE.out]; simp [*], HB2.out⟩
    · have c2b : decide (0 ≤ a0_0) = false := decide_eq_false c2
      go_enter Try.func7, Try.ntmps7
      go_wp2
      generalize w.alloc (.cells #[.int .i64 a0_0, .int .i64 a0_1, .int .u8 a0_2, .slice A0_3 l0_3.length c0_3] 30) = W0 at BK HB1 ⊢
      refine wp_region_ext (by kernel_rfl) (by kernel_rfl) ?_
      repeat (first
        | ((with_reducible refine wpQuiet_step ?_); intro K hK; go_simp; first | (refine hK _ ?_; clear hK K) | (apply Exists.intro; refine ⟨fun w' hC => ?_, hK _ ?_⟩; (have hb := blk_later hC BK.out; have f0 := blk_cell' hb 0 rfl; have f1 := blk_cell' hb 1 rfl; have f2 := blk_cell' hb 2 rfl; have f3 := blk_cell' hb 3 rfl; clear hb; go_simp; try (first
             | (go_at_call 14; exact (region_May.calls _ _ l0_3 _ _ (Kd.C_below HR0.out (below_step HB1.out hC)) HC0.out HT.out).mono fun e w'' ⟨he, hb⟩ => ⟨he, below_step hC hb⟩)
             | (go_at_call 15; exact (region_End.calls _ _ l0_3 _ _ (Kd.C_below HR0.out (below_step HB1.out hC)) HC0.out HE.out).mono fun e w'' ⟨he, hb⟩ => ⟨he, below_step hC hb⟩)
             | (go_at_call 16; exact (is_calls _ _).mono fun e w'' ⟨he, hb⟩ => ⟨he, below_step hC (by obtain ⟨n, rfl⟩ := hb.out; exact pw_below_drewN (Below.refl _ _) _)⟩) | rfl)); clear hK K)))
      refine wpQuiet_nil ?_
      intro w2 hb2
      have HB2 := Aside0.mk (below_step HB1.out hb2)
      clear hb2
      go_wp2
      go_ret
      exact ⟨by rw [← HRE.out]; simp [*], HB2.out⟩
  · obtain rfl : t = false := by simpa using c1
    clear c1
    go_enter Try.func7, Try.ntmps7
    go_wp2
    generalize w.alloc (.cells #[.int .i64 a0_0, .int .i64 a0_1, .int .u8 a0_2, .slice A0_3 l0_3.length c0_3] 30) = W0 at BK HB1 ⊢
    refine wp_region_ext (by kernel_rfl) (by kernel_rfl) ?_
    repeat (first
      | ((with_reducible refine wpQuiet_step ?_); intro K hK; go_simp; first | (refine hK _ ?_; clear hK K) | (apply Exists.intro; refine ⟨fun w' hC => ?_, hK _ ?_⟩; (have hb := blk_later hC BK.out; have f0 := blk_cell' hb 0 rfl; have f1 := blk_cell' hb 1 rfl; have f2 := blk_cell' hb 2 rfl; have f3 := blk_cell' hb 3 rfl; clear hb; go_simp; try (first
           | (go_at_call 14; exact (region_May.calls _ _ l0_3 _ _ (Kd.C_below HR0.out (below_step HB1.out hC)) HC0.out HT.out).mono fun e w'' ⟨he, hb⟩ => ⟨he, below_step hC hb⟩)
           | (go_at_call 15; exact (region_End.calls _ _ l0_3 _ _ (Kd.C_below HR0.out (below_step HB1.out hC)) HC0.out HE.out).mono fun e w'' ⟨he, hb⟩ => ⟨he, below_step hC hb⟩)
           | (go_at_call 16; exact (is_calls _ _).mono fun e w'' ⟨he, hb⟩ => ⟨he, below_step hC (by obtain ⟨n, rfl⟩ := hb.out; exact pw_below_drewN (Below.refl _ _) _)⟩) | rfl)); clear hK K)))
    refine wpQuiet_nil ?_
    intro w2 hb2
    have HB2 := Aside0.mk (below_step HB1.out hb2)
    clear hb2
    go_wp2
    go_ret
    exact ⟨by rw [← HRE.out]; simp [*], HB2.out⟩
end Go.Proofs.Ytiaopkgmhpjeeaa.MBoundHolds

-- printed by myprint.py (a program of this session's, over the kit's printer)
namespace Go.Proofs.Ytiaopkgmhpjeeaa.MBoundHolds
open Go.RowKit Go.Proofs.YtiaopkgmhpjeeaaW.PrintWords Go.Proofs.YtiaopkgmhpjeeaaW.PrintLast Go.Proofs.YtiaopkgmhpjeeaaW.PrintMore
attribute [local go_sem] max2_int min2_int max_two min_two max_three min_three max_four min_four   -- for this text's walks alone
set_option linter.unusedVariables false
set_option linter.unusedSimpArgs false

/-! ### bound_Acts: function 8 -/
def bound_Acts.j0 : Nat → Bool → Int → Int → Bool → Int → Int → Int → List (S56) → Option (Int)
  | 0, _, _, _, _, _, _, _, _ => none
  | k + 1, x12, x140000, x140001, x140002, x141000, x141001, x141002, x141003 => if x12 = true then (some 0) else ((region_End.f x141003).bind fun t143 => ((bound_Sectors.f t143).bind fun t144 => (some (wrap64 ((wrap64 (3 + (wrap64 (2 * x140001)))) * (wrap64 (t144 + (x141003.length : Int))))))))
def bound_Acts.f (k : Nat) (a0_0 : Int) (a0_1 : Int) (a0_2 : Bool) (a1_0 : Int) (a1_1 : Int) (a1_2 : Int) (l1_3 : List (S56)) : Option (Int) := (plan_May.f a0_0 a0_1 a0_2).bind fun t141 => (if t141 = true then ((maptext_May.f a1_0 a1_1 a1_2 l1_3).bind fun t142 => (bound_Acts.j0 k (!t142) a0_0 a0_1 a0_2 a1_0 a1_1 a1_2 l1_3)) else (bound_Acts.j0 k true a0_0 a0_1 a0_2 a1_0 a1_1 a1_2 l1_3))
theorem bound_Acts.mono_l : ∀ k, (∀ y0 y1 y2 y3 y4 y5 y6 y7, LeO (bound_Acts.j0 k y0 y1 y2 y3 y4 y5 y6 y7) (bound_Acts.j0 (k + 1) y0 y1 y2 y3 y4 y5 y6 y7))
  | 0 => fun _ _ _ _ _ _ _ _ r h => by simp [bound_Acts.j0] at h
  | k + 1 => by
    have ih0 := bound_Acts.mono_l k
    · intro y0 y1 y2 y3 y4 y5 y6 y7
      unfold bound_Acts.j0
      repeat' first
      | (with_reducible exact ih0 _ _ _ _ _ _ _ _)
      | (with_reducible exact LeO.refl _)
      | (with_reducible exact LeO.none _)
      | (with_reducible refine LeO.ite ?_ ?_)
      | (with_reducible refine LeO.bind ?_ (fun _ => ?_))
      | exact ih0 _ _ _ _ _ _ _ _
      | exact LeO.none _
      | refine LeO.ite ?_ ?_
      | refine LeO.bind ?_ (fun _ => ?_)
theorem bound_Acts.mono : ∀ a0 a1 a2 a3 a4 a5 a6 k, LeO (bound_Acts.f k a0 a1 a2 a3 a4 a5 a6) (bound_Acts.f (k + 1) a0 a1 a2 a3 a4 a5 a6) := by
  intro a0 a1 a2 a3 a4 a5 a6 k
  have ih0 := bound_Acts.mono_l k
  unfold bound_Acts.f
  repeat' first
      | (with_reducible exact ih0 _ _ _ _ _ _ _ _)
      | (with_reducible exact LeO.refl _)
      | (with_reducible exact LeO.none _)
      | (with_reducible refine LeO.ite ?_ ?_)
      | (with_reducible refine LeO.bind ?_ (fun _ => ?_))
      | exact ih0 _ _ _ _ _ _ _ _
      | exact LeO.none _
      | refine LeO.ite ?_ ?_
      | refine LeO.bind ?_ (fun _ => ?_)
def bound_Acts.T3 : Bool × List (List Nat × List Nat) := (true, [([], []), ([0], [0]), ([1], [1]), ([2], [2]), ([], []), ([4], [4]), ([5], [5]), ([6, 6], [6]), ([], []), ([8], [8]), ([9], [9]), ([7, 10], [7, 10]), ([3, 11], [3, 11]), ([12, 7, 0, 1, 2, 3, 4, 5, 6, 7, 8, 9, 10, 11, 12], [12])])
def bound_Acts.B3 : List Nat := [0, 1, 3, 7, 0, 16, 48, 112, 0, 256, 768, 2032, 4095, 8191]
theorem bound_Acts.tab3 : rtab .any (opsOf Try.f8 3) = bound_Acts.T3 := by kernel_rfl
theorem bound_Acts.bits3 : waitsOk bound_Acts.T3.2 bound_Acts.B3 = true := by kernel_rfl
set_option maxHeartbeats 8000000 in
set_option maxRecDepth 100000 in
theorem bound_Acts.calls (k : Nat) (a0_0 : Int) (a0_1 : Int) (a0_2 : Bool) (a1_0 : Int) (a1_1 : Int) (a1_2 : Int) (A1_3 : Option Addr) (c1_3 : Nat) (l1_3 : List (S56)) (r : Int) (w : World) (hr1_3 : Kd.C k56 w A1_3 l1_3.length l1_3) (hc1_3 : l1_3.length ≤ c1_3) (h : bound_Acts.f k a0_0 a0_1 a0_2 a1_0 a1_1 a1_2 l1_3 = some r) :
    Calls Try.prog 8 #[.agg #[.int .i64 a0_0, .int .i64 a0_1, .bool a0_2], .agg #[.int .i64 a1_0, .int .i64 a1_1, .int .u8 a1_2, .slice A1_3 l1_3.length c1_3]] w fun e w' => e = .returned (.int .i64 r) ∧ Below w.heap.size w w' := by
  have hu26 := Try.underlying26
  have hu30 := Try.underlying30
  have HR1_3 := Aside0.mk hr1_3
  have HC1_3 := Aside0.mk hc1_3
  clear hr1_3 hc1_3
  have HB := Aside0.mk (Below.refl w.heap.size w)
  have H : ((plan_May.f a0_0 a0_1 a0_2).bind fun t141 => (if t141 = true then ((maptext_May.f a1_0 a1_1 a1_2 l1_3).bind fun t142 => (bound_Acts.j0 k (!t142) a0_0 a0_1 a0_2 a1_0 a1_1 a1_2 l1_3)) else (bound_Acts.j0 k true a0_0 a0_1 a0_2 a1_0 a1_1 a1_2 l1_3))) = some r := h
  clear h
  have HC3 := Aside0.mk H
  clear H
  go_enter Try.func8, Try.ntmps8
  go_upto_region 1 with (first | ((with_reducible refine gate_dst (N := 2) rfl ?_); refine box_event ?hg (N := 2) ?hd (cs := #[.int .i64 a0_0, .int .i64 a0_1, .bool a0_2]) (t := 26) ?hr ?_; (case hd => rfl); (case hg => rfl); (case hr => first | (go_simp; done) | (go_simp; rfl)); intro gb139 hg w4 hbox hb; have n0_ := Aside0.mk (below_step (by repeat (first | (with_reducible first | exact HB.out | apply below_alloc | apply pw_below_drewN | apply below_drew1) | exact HB.out)) hb); have n1_ := Aside0.mk (hbox); have n2_ := Aside0.mk ((by rw [hg]; exact (below_size (by repeat (first | (with_reducible first | exact HB.out | apply below_alloc | apply pw_below_drewN | apply below_drew1) | exact HB.out))) : w.heap.size ≤ gb139)); have n3_ := Aside0.mk ((by rw [hg]; exact (below_size (by repeat (first | (with_reducible first | exact HB.out | apply below_alloc | apply pw_below_drewN | apply below_drew1) | exact HB.out))) : w.heap.size ≤ gb139)); clear HB; have HB := n0_; have BK139 := n1_; have GW139 := n2_; have GE139 := n3_; clear n0_ n1_ n2_ n3_; clear hb hbox hg) | ((with_reducible refine gate_dst (N := 3) rfl ?_); refine box_event ?hg (N := 3) ?hd (cs := #[.int .i64 a1_0, .int .i64 a1_1, .int .u8 a1_2, .slice A1_3 l1_3.length c1_3]) (t := 30) ?hr ?_; (case hd => rfl); (case hg => rfl); (case hr => first | (go_simp; done) | (go_simp; rfl)); intro gb140 hg w5 hbox hb; have n0_ := Aside0.mk (blk_below (g := gb139) (o := .cells #[.int .i64 a0_0, .int .i64 a0_1, .bool a0_2] 26 (0, 0)) (by (with_reducible repeat (first | refine blk_drewN ?_ _ | refine blk_drew ?_ | refine blk_alloc ?_ _)); exact BK139.out) hb); have n1_ := Aside0.mk (below_step (by repeat (first | (with_reducible first | exact HB.out | apply below_alloc | apply pw_below_drewN | apply below_drew1 | refine below_set ?_ GE139.out) | exact HB.out)) hb); have n2_ := Aside0.mk (hbox); have n3_ := Aside0.mk ((by rw [hg]; exact (below_size (by repeat (first | (with_reducible first | exact HB.out | apply below_alloc | apply pw_below_drewN | apply below_drew1 | refine below_set ?_ GE139.out) | exact HB.out))) : w.heap.size ≤ gb140)); have n4_ := Aside0.mk ((by rw [hg]; exact (below_size (by repeat (first | (with_reducible first | exact HB.out | apply below_alloc | apply pw_below_drewN | apply below_drew1 | refine below_set ?_ GE139.out) | exact HB.out))) : w.heap.size ≤ gb140)); have n5_ := Aside0.mk ((by rw [hg]; exact Nat.ne_of_lt (blk_lt (g := gb139) (o := .cells #[.int .i64 a0_0, .int .i64 a0_1, .bool a0_2] 26 (0, 0)) (by (with_reducible repeat (first | refine blk_drewN ?_ _ | refine blk_drew ?_ | refine blk_alloc ?_ _)); exact BK139.out)) : gb139 ≠ gb140)); have n6_ := Aside0.mk ((by rw [hg]; exact Nat.ne_of_gt (blk_lt (g := gb139) (o := .cells #[.int .i64 a0_0, .int .i64 a0_1, .bool a0_2] 26 (0, 0)) (by (with_reducible repeat (first | refine blk_drewN ?_ _ | refine blk_drew ?_ | refine blk_alloc ?_ _)); exact BK139.out)) : gb140 ≠ gb139)); clear BK139; clear HB; have BK139 := n0_; have HB := n1_; have BK140 := n2_; have GW140 := n3_; have GE140 := n4_; have NB139_140 := n5_; have NB140_139 := n6_; clear n0_ n1_ n2_ n3_ n4_ n5_ n6_; clear hb hbox hg))
  (try simp only [Act.put, List.setIfInBounds_toArray, List.set_cons_zero, List.set_cons_succ])
  go_cut [12] (fun v12 wc => ∃ (kq : Nat) (x12_2 : Bool), v12 = .bool x12_2 ∧ Aside0 (bound_Acts.j0 kq x12_2 a0_0 a0_1 a0_2 a1_0 a1_1 a1_2 l1_3 = some r) ∧ Aside0 (kq ≤ k) ∧ Aside0 (wc.heap[gb139]? = some (.cells #[.int .i64 a0_0, .int .i64 a0_1, .bool a0_2] 26 (0, 0))) ∧ Aside0 (wc.heap[gb140]? = some (.cells #[.int .i64 a1_0, .int .i64 a1_1, .int .u8 a1_2, (.slice A1_3 l1_3.length c1_3)] 30 (0, 0))) ∧ Aside0 (Below w.heap.size w wc))
  case first =>
    have H := HC3.out
    clear HC3
    replace H := Option.bind_eq_some_iff.mp H
    obtain ⟨t141, A60, H⟩ := H
    replace H : (if t141 = true then ((maptext_May.f a1_0 a1_1 a1_2 l1_3).bind fun t142 => (bound_Acts.j0 k (!t142) a0_0 a0_1 a0_2 a1_0 a1_1 a1_2 l1_3)) else (bound_Acts.j0 k true a0_0 a0_1 a0_2 a1_0 a1_1 a1_2 l1_3)) = some r := H
    have A6 := Aside0.mk A60
    clear A60
    by_cases c7 : t141 = true
    · subst c7
      have H1 : ((maptext_May.f a1_0 a1_1 a1_2 l1_3).bind fun t142 => (bound_Acts.j0 k (!t142) a0_0 a0_1 a0_2 a1_0 a1_1 a1_2 l1_3)) = some r := by rw [if_pos rfl] at H; exact H
      clear H
      have H := H1
      clear H1
      replace H := Option.bind_eq_some_iff.mp H
      obtain ⟨t142, A80, H⟩ := H
      replace H : (bound_Acts.j0 k (!t142) a0_0 a0_1 a0_2 a1_0 a1_1 a1_2 l1_3) = some r := H
      have A8 := Aside0.mk A80
      clear A80
      have H' := Aside0.mk H
      clear H
      have hnb9 := NB139_140.out
      have hnc9 := NB140_139.out
      have hcz10_0 : w5.cell? ⟨gb139, 0, none⟩ = some (.int .i64 a0_0) := (blk_cell BK139.out 0).trans rfl
      have hcz10_1 : w5.cell? ⟨gb139, 1, none⟩ = some (.int .i64 a0_1) := (blk_cell BK139.out 1).trans rfl
      have hcz10_2 : w5.cell? ⟨gb139, 2, none⟩ = some (.bool a0_2) := (blk_cell BK139.out 2).trans rfl
      have hfz10_0 := blk_frozen BK139.out 0
      have hfz10_1 := blk_frozen BK139.out 1
      have hfz10_2 := blk_frozen BK139.out 2
      go_wp2_with (first | ((with_reducible refine gate_callee (f := 17) rfl ?_); refine goesL_ (some 6) rfl rfl Try.func17 (by kernel_rfl) rfl #[.agg #[.int .i64 a0_0, .int .i64 a0_1, .bool a0_2]] rfl (by (try simp only [List.map_toArray, List.map_cons, List.map_nil]); first | done | rfl | (simp only [List.length_drop, List.length_take]; rfl)) ?_; (with_reducible refine (plan_May.calls a0_0 a0_1 a0_2 true _ A6.out).mono ?_); rintro e w11 ⟨rfl, hb⟩; refine ⟨_, rfl, ?_⟩; have n0_ := Aside0.mk (blk_below (g := gb139) (o := .cells #[.int .i64 a0_0, .int .i64 a0_1, .bool a0_2] 26 (0, 0)) (by (with_reducible repeat (first | refine blk_drewN ?_ _ | refine blk_drew ?_ | refine blk_alloc ?_ _)); exact BK139.out) hb); have n1_ := Aside0.mk (blk_below (g := gb140) (o := .cells #[.int .i64 a1_0, .int .i64 a1_1, .int .u8 a1_2, .slice A1_3 l1_3.length c1_3] 30 (0, 0)) (by (with_reducible repeat (first | refine blk_drewN ?_ _ | refine blk_drew ?_ | refine blk_alloc ?_ _)); exact BK140.out) hb); have n2_ := Aside0.mk (below_step (by repeat (first | (with_reducible first | exact HB.out | apply below_alloc | apply pw_below_drewN | apply below_drew1 | refine below_set ?_ GE139.out | refine below_set ?_ GE140.out) | exact HB.out)) hb); clear BK139; clear BK140; clear HB; have BK139 := n0_; have BK140 := n1_; have HB := n2_; clear n0_ n1_ n2_; (try clear hb); (try clear hb2); (try clear hk); (try clear hi); have hcz12_0 : w11.cell? ⟨gb140, 0, none⟩ = some (.int .i64 a1_0) := (blk_cell BK140.out 0).trans rfl; have hcz12_1 : w11.cell? ⟨gb140, 1, none⟩ = some (.int .i64 a1_1) := (blk_cell BK140.out 1).trans rfl; have hcz12_2 : w11.cell? ⟨gb140, 2, none⟩ = some (.int .u8 a1_2) := (blk_cell BK140.out 2).trans rfl; have hcz12_3 : w11.cell? ⟨gb140, 3, none⟩ = some (.slice A1_3 l1_3.length c1_3) := (blk_cell BK140.out 3).trans rfl; have hfz12_0 := blk_frozen BK140.out 0; have hfz12_1 := blk_frozen BK140.out 1; have hfz12_2 := blk_frozen BK140.out 2; have hfz12_3 := blk_frozen BK140.out 3) | (go_at_call 7; (with_reducible refine (maptext_May.calls a1_0 a1_1 a1_2 _ _ l1_3 t142 _ ?side1 ?side2 A8.out).mono ?_); (case side1 => repeat (first | exact (Kd.C_below HR1_3.out HB.out) | (with_reducible refine Kd.C_alloc ?_ _) | (with_reducible refine Kd.C_drewN ?_ _) | (with_reducible refine Kd.C_drew ?_))); (case side2 => exact HC1_3.out); rintro e w13 ⟨rfl, hb⟩; have n0_ := Aside0.mk (blk_below (g := gb139) (o := .cells #[.int .i64 a0_0, .int .i64 a0_1, .bool a0_2] 26 (0, 0)) (by (with_reducible repeat (first | refine blk_drewN ?_ _ | refine blk_drew ?_ | refine blk_alloc ?_ _)); exact BK139.out) hb); have n1_ := Aside0.mk (blk_below (g := gb140) (o := .cells #[.int .i64 a1_0, .int .i64 a1_1, .int .u8 a1_2, .slice A1_3 l1_3.length c1_3] 30 (0, 0)) (by (with_reducible repeat (first | refine blk_drewN ?_ _ | refine blk_drew ?_ | refine blk_alloc ?_ _)); exact BK140.out) hb); have n2_ := Aside0.mk (below_step (by repeat (first | (with_reducible first | exact HB.out | apply below_alloc | apply pw_below_drewN | apply below_drew1 | refine below_set ?_ GE139.out | refine below_set ?_ GE140.out) | exact HB.out)) hb); clear BK139; clear BK140; clear HB; have BK139 := n0_; have BK140 := n1_; have HB := n2_; clear n0_ n1_ n2_; (try clear hb); (try clear hb2); (try clear hk); (try clear hi)))
      go_meet
      case rel => exact ⟨_, (!t142), (by first | rfl | (simp; done) | (simp [*]; done)), H', ⟨by first | omega | exact Nat.le_refl _⟩, ⟨by (with_reducible repeat (first | refine blk_drewN ?_ _ | refine blk_drew ?_ | refine blk_alloc ?_ _)); exact BK139.out⟩, ⟨by (with_reducible repeat (first | refine blk_drewN ?_ _ | refine blk_drew ?_ | refine blk_alloc ?_ _)); exact BK140.out⟩, ⟨by repeat (first | (with_reducible first | exact HB.out | apply below_alloc | apply pw_below_drewN | apply below_drew1 | refine below_set ?_ GE139.out | refine below_set ?_ GE140.out) | exact HB.out)⟩⟩
    · replace c7 := Bool.eq_false_iff.mpr c7
      subst c7
      have H1 : (bound_Acts.j0 k true a0_0 a0_1 a0_2 a1_0 a1_1 a1_2 l1_3) = some r := by rw [if_neg (show ¬ (false = true) by decide)] at H; exact H
      clear H
      have H := H1
      clear H1
      have H' := Aside0.mk H
      clear H
      have hnb14 := NB139_140.out
      have hnc14 := NB140_139.out
      have hcz15_0 : w5.cell? ⟨gb139, 0, none⟩ = some (.int .i64 a0_0) := (blk_cell BK139.out 0).trans rfl
      have hcz15_1 : w5.cell? ⟨gb139, 1, none⟩ = some (.int .i64 a0_1) := (blk_cell BK139.out 1).trans rfl
      have hcz15_2 : w5.cell? ⟨gb139, 2, none⟩ = some (.bool a0_2) := (blk_cell BK139.out 2).trans rfl
      have hfz15_0 := blk_frozen BK139.out 0
      have hfz15_1 := blk_frozen BK139.out 1
      have hfz15_2 := blk_frozen BK139.out 2
      go_wp2_with (first | ((with_reducible refine gate_callee (f := 17) rfl ?_); refine goesL_ (some 6) rfl rfl Try.func17 (by kernel_rfl) rfl #[.agg #[.int .i64 a0_0, .int .i64 a0_1, .bool a0_2]] rfl (by (try simp only [List.map_toArray, List.map_cons, List.map_nil]); first | done | rfl | (simp only [List.length_drop, List.length_take]; rfl)) ?_; (with_reducible refine (plan_May.calls a0_0 a0_1 a0_2 false _ A6.out).mono ?_); rintro e w16 ⟨rfl, hb⟩; refine ⟨_, rfl, ?_⟩; have n0_ := Aside0.mk (blk_below (g := gb139) (o := .cells #[.int .i64 a0_0, .int .i64 a0_1, .bool a0_2] 26 (0, 0)) (by (with_reducible repeat (first | refine blk_drewN ?_ _ | refine blk_drew ?_ | refine blk_alloc ?_ _)); exact BK139.out) hb); have n1_ := Aside0.mk (blk_below (g := gb140) (o := .cells #[.int .i64 a1_0, .int .i64 a1_1, .int .u8 a1_2, .slice A1_3 l1_3.length c1_3] 30 (0, 0)) (by (with_reducible repeat (first | refine blk_drewN ?_ _ | refine blk_drew ?_ | refine blk_alloc ?_ _)); exact BK140.out) hb); have n2_ := Aside0.mk (below_step (by repeat (first | (with_reducible first | exact HB.out | apply below_alloc | apply pw_below_drewN | apply below_drew1 | refine below_set ?_ GE139.out | refine below_set ?_ GE140.out) | exact HB.out)) hb); clear BK139; clear BK140; clear HB; have BK139 := n0_; have BK140 := n1_; have HB := n2_; clear n0_ n1_ n2_; (try clear hb); (try clear hb2); (try clear hk); (try clear hi)))
      go_meet
      case rel => exact ⟨_, (true), (by first | rfl | (simp; done) | (simp [*]; done)), H', ⟨by first | omega | exact Nat.le_refl _⟩, ⟨by (with_reducible repeat (first | refine blk_drewN ?_ _ | refine blk_drew ?_ | refine blk_alloc ?_ _)); exact BK139.out⟩, ⟨by (with_reducible repeat (first | refine blk_drewN ?_ _ | refine blk_drew ?_ | refine blk_alloc ?_ _)); exact BK140.out⟩, ⟨by repeat (first | (with_reducible first | exact HB.out | apply below_alloc | apply pw_below_drewN | apply below_drew1 | refine below_set ?_ GE139.out | refine below_set ?_ GE140.out) | exact HB.out)⟩⟩
  case rest =>
    clear HC3
    try clear c1
    try clear p2
    try clear c7
    try clear c8
    try clear c9
    try clear c14
    try clear hcz10_0
    try clear hcz10_1
    try clear hcz10_2
    try clear hcz12_0
    try clear hcz12_1
    try clear hcz12_2
    try clear hcz12_3
    try clear hcz15_0
    try clear hcz15_1
    try clear hcz15_2
    try clear hfz10_0
    try clear hfz10_1
    try clear hfz10_2
    try clear hfz12_0
    try clear hfz12_1
    try clear hfz12_2
    try clear hfz12_3
    try clear hfz15_0
    try clear hfz15_1
    try clear hfz15_2
    obtain ⟨kq, x12_2, rfl, HA, HJ2, BK139, BK140, HB⟩ := hcut
    cases kq with
    | zero => exact absurd HA.out (by simp [bound_Acts.j0])
    | succ kj2 =>
      have H := HA.out
      clear HA
      simp only [bound_Acts.j0] at H
      by_cases c17 : x12_2 = true
      · subst c17
        have H1 : (some 0) = some r := by rw [if_pos rfl] at H; exact H
        clear H
        have H := H1
        clear H1
        obtain rfl := Option.some.inj H
        go_wp2
        go_ret
        exact ⟨by first | rfl | (simp [errW_none, errW_some] <;> rfl) | (simp [*, errW_none, errW_some] <;> rfl), by repeat (first | (with_reducible first | exact HB.out | apply below_alloc | apply pw_below_drewN | apply below_drew1 | refine below_set ?_ GE139.out | refine below_set ?_ GE140.out) | exact HB.out)⟩
      · replace c17 := Bool.eq_false_iff.mpr c17
        subst c17
        have H1 : ((region_End.f l1_3).bind fun t143 => ((bound_Sectors.f t143).bind fun t144 => (some (wrap64 ((wrap64 (3 + (wrap64 (2 * a0_1)))) * (wrap64 (t144 + (l1_3.length : Int)))))))) = some r := by rw [if_neg (show ¬ (false = true) by decide)] at H; exact H
        clear H
        have H := H1
        clear H1
        replace H := Option.bind_eq_some_iff.mp H
        obtain ⟨t143, A180, H⟩ := H
        replace H : ((bound_Sectors.f t143).bind fun t144 => (some (wrap64 ((wrap64 (3 + (wrap64 (2 * a0_1)))) * (wrap64 (t144 + (l1_3.length : Int))))))) = some r := H
        have A18 := Aside0.mk A180
        clear A180
        replace H := Option.bind_eq_some_iff.mp H
        obtain ⟨t144, A190, H⟩ := H
        replace H : (some (wrap64 ((wrap64 (3 + (wrap64 (2 * a0_1)))) * (wrap64 (t144 + (l1_3.length : Int)))))) = some r := H
        have A19 := Aside0.mk A190
        clear A190
        obtain rfl := Option.some.inj H
        try go_wp2
        have n0_ := Aside0.mk (blk_drew BK139.out)
        have n1_ := Aside0.mk (blk_drew BK140.out)
        have n2_ := Aside0.mk (below_drew1 HB.out)
        clear BK139
        clear BK140
        clear HB
        have BK139 := n0_
        have BK140 := n1_
        have HB := n2_
        clear n0_ n1_ n2_
        refine start_ (n := 14) (S := fun w' => w'.cell? ⟨gb139, 0, none⟩ = some (.int .i64 a0_0) ∧ w'.cell? ⟨gb139, 1, none⟩ = some (.int .i64 a0_1) ∧ w'.cell? ⟨gb139, 2, none⟩ = some (.bool a0_2) ∧ w'.cell? ⟨gb140, 0, none⟩ = some (.int .i64 a1_0) ∧ w'.cell? ⟨gb140, 1, none⟩ = some (.int .i64 a1_1) ∧ w'.cell? ⟨gb140, 2, none⟩ = some (.int .u8 a1_2) ∧ w'.cell? ⟨gb140, 3, none⟩ = some (.slice A1_3 l1_3.length c1_3)) (ds := []) #[false, false, false, false, false, false, false, false, false, false, false, false, false, false] (by kernel_rfl) rfl rfl ⟨(blk_cell BK139.out 0).trans rfl, (blk_cell BK139.out 1).trans rfl, (blk_cell BK139.out 2).trans rfl, (blk_cell BK140.out 0).trans rfl, (blk_cell BK140.out 1).trans rfl, (blk_cell BK140.out 2).trans rfl, (blk_cell BK140.out 3).trans rfl⟩ (fun hHeld => ?_); refine with_tabW bound_Acts.tab3 bound_Acts.bits3 (fun HT_ HW_ => ?_)
        generalize wc.drew = w20 at BK139 BK140 HB hHeld ⊢
        refine pure_ (i := 0) (N := some 13) (v := ?_) (a' := ?_) #[true, false, false, false, false, false, false, false, false, false, false, false, false, false] rfl rfl (any_of HT_.out (by kernel_rfl)) (fun _ _ _ h => h) (Or.inl ⟨by rfl, ?_⟩) ?_ ?_
        rotate_left
        · intro w'
          go_simp
          with_reducible rfl
        rotate_left
        · simp only [Act.put, List.setIfInBounds_toArray, List.set_cons_zero, List.set_cons_succ, i64_w, i32_w]
          rfl
        refine pure_ (i := 4) (N := some 17) (v := ?_) (a' := ?_) #[true, false, false, false, true, false, false, false, false, false, false, false, false, false] rfl rfl (any_of HT_.out (by kernel_rfl)) (fun _ _ _ h => h) (Or.inl ⟨by rfl, ?_⟩) ?_ ?_
        rotate_left
        · intro w'
          go_simp
          with_reducible rfl
        rotate_left
        · simp only [Act.put, List.setIfInBounds_toArray, List.set_cons_zero, List.set_cons_succ, i64_w, i32_w]
          rfl
        refine pure_ (i := 8) (N := some 21) (v := ?_) (a' := ?_) #[true, false, false, false, true, false, false, false, true, false, false, false, false, false] rfl rfl (any_of HT_.out (by kernel_rfl)) (fun _ _ _ h => h) (Or.inl ⟨by rfl, ?_⟩) ?_ ?_
        rotate_left
        · intro w'
          go_simp
          with_reducible rfl
        rotate_left
        · simp only [Act.put, List.setIfInBounds_toArray, List.set_cons_zero, List.set_cons_succ, i64_w, i32_w]
          rfl
        refine take_ (i := 1) (N := some 14) (v := ?_) (a' := ?_) #[true, true, false, false, true, false, false, false, true, false, false, false, false, false] rfl rfl (take_ofW HT_.out HW_.out (by kernel_rfl)) (fun _ _ _ h => h) (Or.inl ⟨by rfl, ?_⟩) hHeld ?_ ?_
        rotate_left
        · rintro w' ⟨s0, s1, s2, s3, s4, s5, s6⟩
          go_simp
          with_reducible rfl
        rotate_left
        · simp only [Act.put, List.setIfInBounds_toArray, List.set_cons_zero, List.set_cons_succ, i64_w, i32_w]
          rfl
        refine pure_ (i := 2) (N := some 15) (v := ?_) (a' := ?_) #[true, true, true, false, true, false, false, false, true, false, false, false, false, false] rfl rfl (any_of HT_.out (by kernel_rfl)) (fun _ _ _ h => h) (Or.inl ⟨by rfl, ?_⟩) ?_ ?_
        rotate_left
        · intro w'
          go_simp
          with_reducible rfl
        rotate_left
        · simp only [Act.put, List.setIfInBounds_toArray, List.set_cons_zero, List.set_cons_succ, i64_w, i32_w]
          rfl
        refine pure_ (i := 3) (N := some 16) (v := ?_) (a' := ?_) #[true, true, true, true, true, false, false, false, true, false, false, false, false, false] rfl rfl (any_of HT_.out (by kernel_rfl)) (fun _ _ _ h => h) (Or.inl ⟨by rfl, ?_⟩) ?_ ?_
        rotate_left
        · intro w'
          go_simp
          with_reducible rfl
        rotate_left
        · simp only [Act.put, List.setIfInBounds_toArray, List.set_cons_zero, List.set_cons_succ, i64_w, i32_w]
          rfl
        refine take_ (i := 5) (N := some 18) (v := ?_) (a' := ?_) #[true, true, true, true, true, true, false, false, true, false, false, false, false, false] rfl rfl (take_ofW HT_.out HW_.out (by kernel_rfl)) (fun _ _ _ h => h) (Or.inl ⟨by rfl, ?_⟩) hHeld ?_ ?_
        rotate_left
        · rintro w' ⟨s0, s1, s2, s3, s4, s5, s6⟩
          go_simp
          with_reducible rfl
        rotate_left
        · simp only [Act.put, List.setIfInBounds_toArray, List.set_cons_zero, List.set_cons_succ, i64_w, i32_w]
          rfl
        refine take_ (i := 9) (N := some 22) (v := ?_) (a' := ?_) #[true, true, true, true, true, true, false, false, true, true, false, false, false, false] rfl rfl (take_ofW HT_.out HW_.out (by kernel_rfl)) (fun _ _ _ h => h) (Or.inl ⟨by rfl, ?_⟩) hHeld ?_ ?_
        rotate_left
        · rintro w' ⟨s0, s1, s2, s3, s4, s5, s6⟩
          go_simp
          with_reducible rfl
        rotate_left
        · simp only [Act.put, List.setIfInBounds_toArray, List.set_cons_zero, List.set_cons_succ, i64_w, i32_w]
          rfl
        refine pure_ (i := 10) (N := some 23) (v := ?_) (a' := ?_) #[true, true, true, true, true, true, false, false, true, true, true, false, false, false] rfl rfl (any_of HT_.out (by kernel_rfl)) (fun _ _ _ h => h) (Or.inl ⟨by rfl, ?_⟩) ?_ ?_
        rotate_left
        · intro w'
          go_simp
          with_reducible rfl
        rotate_left
        · simp only [Act.put, List.setIfInBounds_toArray, List.set_cons_zero, List.set_cons_succ, i64_w, i32_w]
          rfl
        refine one_ (i := 6) (N := some 19) #[true, true, true, true, true, true, true, false, true, true, true, false, false, false] rfl rfl (one_of HT_.out (by kernel_rfl)) (by decide) (fun K hK => ?_)
        refine goes_ Try.func15 (by kernel_rfl) rfl #[.slice A1_3 l1_3.length c1_3] (by rfl) rfl rfl (by (try simp only [List.map_toArray, List.map_cons, List.map_nil]); first | done | rfl | (simp only [List.length_drop, List.length_take]; rfl)) ?_
        with_reducible refine (region_End.calls _ _ l1_3 t143 _ ?side1 ?side2 A18.out).mono ?_
        (case side1 => repeat (first | exact (Kd.C_below HR1_3.out HB.out) | (with_reducible refine Kd.C_alloc ?_ _) | (with_reducible refine Kd.C_drewN ?_ _) | (with_reducible refine Kd.C_drew ?_)))
        (case side2 => exact HC1_3.out)
        rintro e w21 ⟨rfl, hb⟩
        refine ⟨_, rfl, ?_⟩
        have n0_ := Aside0.mk (blk_below (g := gb139) (o := .cells #[.int .i64 a0_0, .int .i64 a0_1, .bool a0_2] 26 (0, 0)) (by (with_reducible repeat (first | refine blk_drewN ?_ _ | refine blk_drew ?_ | refine blk_alloc ?_ _)); exact BK139.out) hb)
        have n1_ := Aside0.mk (blk_below (g := gb140) (o := .cells #[.int .i64 a1_0, .int .i64 a1_1, .int .u8 a1_2, .slice A1_3 l1_3.length c1_3] 30 (0, 0)) (by (with_reducible repeat (first | refine blk_drewN ?_ _ | refine blk_drew ?_ | refine blk_alloc ?_ _)); exact BK140.out) hb)
        have n2_ := Aside0.mk (below_step (by repeat (first | (with_reducible first | exact HB.out | apply below_alloc | apply pw_below_drewN | apply below_drew1 | refine below_set ?_ GE139.out | refine below_set ?_ GE140.out) | exact HB.out)) hb)
        clear BK139
        clear BK140
        clear HB
        have BK139 := n0_
        have BK140 := n1_
        have HB := n2_
        clear n0_ n1_ n2_
        (try clear hb)
        (try clear hb2)
        (try clear hk)
        (try clear hi)
        refine hK.out _ _ ⟨(blk_cell BK139.out 0).trans rfl, (blk_cell BK139.out 1).trans rfl, (blk_cell BK139.out 2).trans rfl, (blk_cell BK140.out 0).trans rfl, (blk_cell BK140.out 1).trans rfl, (blk_cell BK140.out 2).trans rfl, (blk_cell BK140.out 3).trans rfl⟩ (fun hHeld => ?_)
        clear hK K
        refine norm_ (a' := ?_) ?_ ?_
        rotate_left
        · show Act.put _ (some 19) _ = _
          simp only [Act.put, List.setIfInBounds_toArray, List.set_cons_zero, List.set_cons_succ, i64_w, i32_w]
          rfl
        refine one_ (i := 7) (N := some 20) #[true, true, true, true, true, true, true, true, true, true, true, false, false, false] rfl rfl (one_of HT_.out (by kernel_rfl)) (by decide) (fun K hK => ?_)
        refine goes_ Try.func11 (by kernel_rfl) rfl #[.int .i64 t143] (by rfl) rfl rfl (by (try simp only [List.map_toArray, List.map_cons, List.map_nil]); first | done | rfl | (simp only [List.length_drop, List.length_take]; rfl)) ?_
        with_reducible refine (bound_Sectors.calls t143 t144 _ A19.out).mono ?_
        rintro e w' ⟨rfl, ⟨nd, rfl⟩⟩
        refine ⟨_, rfl, ?_⟩
        refine hK.out _ _ ⟨(blk_cell BK139.out 0).trans rfl, (blk_cell BK139.out 1).trans rfl, (blk_cell BK139.out 2).trans rfl, (blk_cell BK140.out 0).trans rfl, (blk_cell BK140.out 1).trans rfl, (blk_cell BK140.out 2).trans rfl, (blk_cell BK140.out 3).trans rfl⟩ (fun hHeld => ?_)
        clear hK K
        refine norm_ (a' := ?_) ?_ ?_
        rotate_left
        · show Act.put _ (some 20) _ = _
          simp only [Act.put, List.setIfInBounds_toArray, List.set_cons_zero, List.set_cons_succ, i64_w, i32_w]
          rfl
        refine pure_ (i := 11) (N := some 24) (v := ?_) (a' := ?_) #[true, true, true, true, true, true, true, true, true, true, true, true, false, false] rfl rfl (any_of HT_.out (by kernel_rfl)) (fun _ _ _ h => h) (Or.inl ⟨by rfl, ?_⟩) ?_ ?_
        rotate_left
        · intro w'
          go_simp
          with_reducible rfl
        rotate_left
        · simp only [Act.put, List.setIfInBounds_toArray, List.set_cons_zero, List.set_cons_succ, i64_w, i32_w]
          rfl
        refine pure_ (i := 12) (N := some 25) (v := ?_) (a' := ?_) #[true, true, true, true, true, true, true, true, true, true, true, true, true, false] rfl rfl (any_of HT_.out (by kernel_rfl)) (fun _ _ _ h => h) (Or.inl ⟨by rfl, ?_⟩) ?_ ?_
        rotate_left
        · intro w'
          go_simp
          with_reducible rfl
        rotate_left
        · simp only [Act.put, List.setIfInBounds_toArray, List.set_cons_zero, List.set_cons_succ, i64_w, i32_w]
          rfl
        refine pure_ (i := 13) (N := some 4) (v := ?_) (a' := ?_) #[true, true, true, true, true, true, true, true, true, true, true, true, true, true] rfl rfl (any_of HT_.out (by kernel_rfl)) (fun _ _ _ h => h) (Or.inl ⟨by rfl, ?_⟩) ?_ ?_
        rotate_left
        · intro w'
          go_simp
          with_reducible rfl
        rotate_left
        · simp only [Act.put, List.setIfInBounds_toArray, List.set_cons_zero, List.set_cons_succ, i64_w, i32_w]
          rfl
        refine done_ (done_of HT_.out (by kernel_rfl)) ?_
        try go_wp2
        go_ret
        exact ⟨by first | rfl | (simp [errW_none, errW_some] <;> rfl) | (simp [*, errW_none, errW_some] <;> rfl), by repeat (first | (with_reducible first | exact HB.out | apply below_alloc | apply pw_below_drewN | apply below_drew1 | refine below_set ?_ GE139.out | refine below_set ?_ GE140.out) | exact HB.out)⟩

end Go.Proofs.Ytiaopkgmhpjeeaa.MBoundHolds

-- printed by myprint.py (a program of this session's, over the kit's printer)
namespace Go.Proofs.Ytiaopkgmhpjeeaa.MBoundHolds
open Go.RowKit Go.Proofs.YtiaopkgmhpjeeaaW.PrintWords Go.Proofs.YtiaopkgmhpjeeaaW.PrintLast Go.Proofs.YtiaopkgmhpjeeaaW.PrintMore
attribute [local go_sem] max2_int min2_int max_two min_two max_three min_three max_four min_four   -- for this text's walks alone
set_option linter.unusedVariables false
set_option linter.unusedSimpArgs false

/-! ### bound_Steps: function 12 -/
def bound_Steps.f (k : Nat) (a0_0 : Int) (a0_1 : Int) (a0_2 : Bool) (a1_0 : Int) (a1_1 : Int) (a1_2 : Int) (l1_3 : List (S56)) : Option (Int) := (plan_May.f a0_0 a0_1 a0_2).bind fun t147 => (if t147 = true then ((maptext_May.f a1_0 a1_1 a1_2 l1_3).bind fun t148 => (if t148 = true then ((bound_Acts.f k a0_0 a0_1 a0_2 a1_0 a1_1 a1_2 l1_3).bind fun t149 => (some (wrap64 (t149 + 1)))) else (some 0))) else (some 0))
theorem bound_Steps.mono : ∀ a0 a1 a2 a3 a4 a5 a6 k, LeO (bound_Steps.f k a0 a1 a2 a3 a4 a5 a6) (bound_Steps.f (k + 1) a0 a1 a2 a3 a4 a5 a6) := by
  intro a0 a1 a2 a3 a4 a5 a6 k
  unfold bound_Steps.f
  repeat' first
      | (with_reducible exact bound_Acts.mono _ _ _ _ _ _ _ _)
      | (with_reducible exact LeO.refl _)
      | (with_reducible exact LeO.none _)
      | (with_reducible refine LeO.ite ?_ ?_)
      | (with_reducible refine LeO.bind ?_ (fun _ => ?_))
      | exact bound_Acts.mono _ _ _ _ _ _ _ _
      | exact LeO.none _
      | refine LeO.ite ?_ ?_
      | refine LeO.bind ?_ (fun _ => ?_)
set_option maxHeartbeats 8000000 in
set_option maxRecDepth 100000 in
theorem bound_Steps.calls (k : Nat) (a0_0 : Int) (a0_1 : Int) (a0_2 : Bool) (a1_0 : Int) (a1_1 : Int) (a1_2 : Int) (A1_3 : Option Addr) (c1_3 : Nat) (l1_3 : List (S56)) (r : Int) (w : World) (hr1_3 : Kd.C k56 w A1_3 l1_3.length l1_3) (hc1_3 : l1_3.length ≤ c1_3) (h : bound_Steps.f k a0_0 a0_1 a0_2 a1_0 a1_1 a1_2 l1_3 = some r) :
    Calls Try.prog 12 #[.agg #[.int .i64 a0_0, .int .i64 a0_1, .bool a0_2], .agg #[.int .i64 a1_0, .int .i64 a1_1, .int .u8 a1_2, .slice A1_3 l1_3.length c1_3]] w fun e w' => e = .returned (.int .i64 r) ∧ Below w.heap.size w w' := by
  have hu26 := Try.underlying26
  have hu30 := Try.underlying30
  have HR1_3 := Aside0.mk hr1_3
  have HC1_3 := Aside0.mk hc1_3
  clear hr1_3 hc1_3
  have HB := Aside0.mk (Below.refl w.heap.size w)
  have H : ((plan_May.f a0_0 a0_1 a0_2).bind fun t147 => (if t147 = true then ((maptext_May.f a1_0 a1_1 a1_2 l1_3).bind fun t148 => (if t148 = true then ((bound_Acts.f k a0_0 a0_1 a0_2 a1_0 a1_1 a1_2 l1_3).bind fun t149 => (some (wrap64 (t149 + 1)))) else (some 0))) else (some 0))) = some r := h
  clear h
  replace H := Option.bind_eq_some_iff.mp H
  obtain ⟨t147, A30, H⟩ := H
  replace H : (if t147 = true then ((maptext_May.f a1_0 a1_1 a1_2 l1_3).bind fun t148 => (if t148 = true then ((bound_Acts.f k a0_0 a0_1 a0_2 a1_0 a1_1 a1_2 l1_3).bind fun t149 => (some (wrap64 (t149 + 1)))) else (some 0))) else (some 0)) = some r := H
  have A3 := Aside0.mk A30
  clear A30
  by_cases c4 : t147 = true
  · subst c4
    have H1 : ((maptext_May.f a1_0 a1_1 a1_2 l1_3).bind fun t148 => (if t148 = true then ((bound_Acts.f k a0_0 a0_1 a0_2 a1_0 a1_1 a1_2 l1_3).bind fun t149 => (some (wrap64 (t149 + 1)))) else (some 0))) = some r := by rw [if_pos rfl] at H; exact H
    clear H
    have H := H1
    clear H1
    replace H := Option.bind_eq_some_iff.mp H
    obtain ⟨t148, A50, H⟩ := H
    replace H : (if t148 = true then ((bound_Acts.f k a0_0 a0_1 a0_2 a1_0 a1_1 a1_2 l1_3).bind fun t149 => (some (wrap64 (t149 + 1)))) else (some 0)) = some r := H
    have A5 := Aside0.mk A50
    clear A50
    by_cases c6 : t148 = true
    · subst c6
      have H1 : ((bound_Acts.f k a0_0 a0_1 a0_2 a1_0 a1_1 a1_2 l1_3).bind fun t149 => (some (wrap64 (t149 + 1)))) = some r := by rw [if_pos rfl] at H; exact H
      clear H
      have H := H1
      clear H1
      replace H := Option.bind_eq_some_iff.mp H
      obtain ⟨t149, A70, H⟩ := H
      replace H : (some (wrap64 (t149 + 1))) = some r := H
      have A7 := Aside0.mk A70
      clear A70
      obtain rfl := Option.some.inj H
      go_enter Try.func12, Try.ntmps12
      go_wp2_with (first | ((with_reducible refine gate_dst (N := 2) rfl ?_); refine box_event ?hg (N := 2) ?hd (cs := #[.int .i64 a0_0, .int .i64 a0_1, .bool a0_2]) (t := 26) ?hr ?_; (case hd => rfl); (case hg => rfl); (case hr => first | (go_simp; done) | (go_simp; rfl)); intro gb145 hg w8 hbox hb; have n0_ := Aside0.mk (below_step (by repeat (first | (with_reducible first | exact HB.out | apply below_alloc | apply pw_below_drewN | apply below_drew1) | exact HB.out)) hb); have n1_ := Aside0.mk (hbox); have n2_ := Aside0.mk ((by rw [hg]; exact (below_size (by repeat (first | (with_reducible first | exact HB.out | apply below_alloc | apply pw_below_drewN | apply below_drew1) | exact HB.out))) : w.heap.size ≤ gb145)); have n3_ := Aside0.mk ((by rw [hg]; exact (below_size (by repeat (first | (with_reducible first | exact HB.out | apply below_alloc | apply pw_below_drewN | apply below_drew1) | exact HB.out))) : w.heap.size ≤ gb145)); clear HB; have HB := n0_; have BK145 := n1_; have GW145 := n2_; have GE145 := n3_; clear n0_ n1_ n2_ n3_; clear hb hbox hg) | ((with_reducible refine gate_dst (N := 3) rfl ?_); refine box_event ?hg (N := 3) ?hd (cs := #[.int .i64 a1_0, .int .i64 a1_1, .int .u8 a1_2, .slice A1_3 l1_3.length c1_3]) (t := 30) ?hr ?_; (case hd => rfl); (case hg => rfl); (case hr => first | (go_simp; done) | (go_simp; rfl)); intro gb146 hg w9 hbox hb; have n0_ := Aside0.mk (blk_below (g := gb145) (o := .cells #[.int .i64 a0_0, .int .i64 a0_1, .bool a0_2] 26 (0, 0)) (by (with_reducible repeat (first | refine blk_drewN ?_ _ | refine blk_drew ?_ | refine blk_alloc ?_ _)); exact BK145.out) hb); have n1_ := Aside0.mk (below_step (by repeat (first | (with_reducible first | exact HB.out | apply below_alloc | apply pw_below_drewN | apply below_drew1 | refine below_set ?_ GE145.out) | exact HB.out)) hb); have n2_ := Aside0.mk (hbox); have n3_ := Aside0.mk ((by rw [hg]; exact (below_size (by repeat (first | (with_reducible first | exact HB.out | apply below_alloc | apply pw_below_drewN | apply below_drew1 | refine below_set ?_ GE145.out) | exact HB.out))) : w.heap.size ≤ gb146)); have n4_ := Aside0.mk ((by rw [hg]; exact (below_size (by repeat (first | (with_reducible first | exact HB.out | apply below_alloc | apply pw_below_drewN | apply below_drew1 | refine below_set ?_ GE145.out) | exact HB.out))) : w.heap.size ≤ gb146)); have n5_ := Aside0.mk ((by rw [hg]; exact Nat.ne_of_lt (blk_lt (g := gb145) (o := .cells #[.int .i64 a0_0, .int .i64 a0_1, .bool a0_2] 26 (0, 0)) (by (with_reducible repeat (first | refine blk_drewN ?_ _ | refine blk_drew ?_ | refine blk_alloc ?_ _)); exact BK145.out)) : gb145 ≠ gb146)); have n6_ := Aside0.mk ((by rw [hg]; exact Nat.ne_of_gt (blk_lt (g := gb145) (o := .cells #[.int .i64 a0_0, .int .i64 a0_1, .bool a0_2] 26 (0, 0)) (by (with_reducible repeat (first | refine blk_drewN ?_ _ | refine blk_drew ?_ | refine blk_alloc ?_ _)); exact BK145.out)) : gb146 ≠ gb145)); clear BK145; clear HB; have BK145 := n0_; have HB := n1_; have BK146 := n2_; have GW146 := n3_; have GE146 := n4_; have NB145_146 := n5_; have NB146_145 := n6_; clear n0_ n1_ n2_ n3_ n4_ n5_ n6_; clear hb hbox hg; have hnb10 := NB145_146.out; have hnc10 := NB146_145.out; have hcz11_0 : w9.cell? ⟨gb145, 0, none⟩ = some (.int .i64 a0_0) := (blk_cell BK145.out 0).trans rfl; have hcz11_1 : w9.cell? ⟨gb145, 1, none⟩ = some (.int .i64 a0_1) := (blk_cell BK145.out 1).trans rfl; have hcz11_2 : w9.cell? ⟨gb145, 2, none⟩ = some (.bool a0_2) := (blk_cell BK145.out 2).trans rfl; have hfz11_0 := blk_frozen BK145.out 0; have hfz11_1 := blk_frozen BK145.out 1; have hfz11_2 := blk_frozen BK145.out 2) | ((with_reducible refine gate_callee (f := 17) rfl ?_); refine goesL_ (some 6) rfl rfl Try.func17 (by kernel_rfl) rfl #[.agg #[.int .i64 a0_0, .int .i64 a0_1, .bool a0_2]] rfl (by (try simp only [List.map_toArray, List.map_cons, List.map_nil]); first | done | rfl | (simp only [List.length_drop, List.length_take]; rfl)) ?_; (with_reducible refine (plan_May.calls a0_0 a0_1 a0_2 true _ A3.out).mono ?_); rintro e w12 ⟨rfl, hb⟩; refine ⟨_, rfl, ?_⟩; have n0_ := Aside0.mk (blk_below (g := gb145) (o := .cells #[.int .i64 a0_0, .int .i64 a0_1, .bool a0_2] 26 (0, 0)) (by (with_reducible repeat (first | refine blk_drewN ?_ _ | refine blk_drew ?_ | refine blk_alloc ?_ _)); exact BK145.out) hb); have n1_ := Aside0.mk (blk_below (g := gb146) (o := .cells #[.int .i64 a1_0, .int .i64 a1_1, .int .u8 a1_2, .slice A1_3 l1_3.length c1_3] 30 (0, 0)) (by (with_reducible repeat (first | refine blk_drewN ?_ _ | refine blk_drew ?_ | refine blk_alloc ?_ _)); exact BK146.out) hb); have n2_ := Aside0.mk (below_step (by repeat (first | (with_reducible first | exact HB.out | apply below_alloc | apply pw_below_drewN | apply below_drew1 | refine below_set ?_ GE145.out | refine below_set ?_ GE146.out) | exact HB.out)) hb); clear BK145; clear BK146; clear HB; have BK145 := n0_; have BK146 := n1_; have HB := n2_; clear n0_ n1_ n2_; (try clear hb); (try clear hb2); (try clear hk); (try clear hi); have hcz13_0 : w12.cell? ⟨gb146, 0, none⟩ = some (.int .i64 a1_0) := (blk_cell BK146.out 0).trans rfl; have hcz13_1 : w12.cell? ⟨gb146, 1, none⟩ = some (.int .i64 a1_1) := (blk_cell BK146.out 1).trans rfl; have hcz13_2 : w12.cell? ⟨gb146, 2, none⟩ = some (.int .u8 a1_2) := (blk_cell BK146.out 2).trans rfl; have hcz13_3 : w12.cell? ⟨gb146, 3, none⟩ = some (.slice A1_3 l1_3.length c1_3) := (blk_cell BK146.out 3).trans rfl; have hfz13_0 := blk_frozen BK146.out 0; have hfz13_1 := blk_frozen BK146.out 1; have hfz13_2 := blk_frozen BK146.out 2; have hfz13_3 := blk_frozen BK146.out 3) | (go_at_call 7; (with_reducible refine (maptext_May.calls a1_0 a1_1 a1_2 _ _ l1_3 true _ ?side1 ?side2 A5.out).mono ?_); (case side1 => repeat (first | exact (Kd.C_below HR1_3.out HB.out) | (with_reducible refine Kd.C_alloc ?_ _) | (with_reducible refine Kd.C_drewN ?_ _) | (with_reducible refine Kd.C_drew ?_))); (case side2 => exact HC1_3.out); rintro e w14 ⟨rfl, hb⟩; have n0_ := Aside0.mk (blk_below (g := gb145) (o := .cells #[.int .i64 a0_0, .int .i64 a0_1, .bool a0_2] 26 (0, 0)) (by (with_reducible repeat (first | refine blk_drewN ?_ _ | refine blk_drew ?_ | refine blk_alloc ?_ _)); exact BK145.out) hb); have n1_ := Aside0.mk (blk_below (g := gb146) (o := .cells #[.int .i64 a1_0, .int .i64 a1_1, .int .u8 a1_2, .slice A1_3 l1_3.length c1_3] 30 (0, 0)) (by (with_reducible repeat (first | refine blk_drewN ?_ _ | refine blk_drew ?_ | refine blk_alloc ?_ _)); exact BK146.out) hb); have n2_ := Aside0.mk (below_step (by repeat (first | (with_reducible first | exact HB.out | apply below_alloc | apply pw_below_drewN | apply below_drew1 | refine below_set ?_ GE145.out | refine below_set ?_ GE146.out) | exact HB.out)) hb); clear BK145; clear BK146; clear HB; have BK145 := n0_; have BK146 := n1_; have HB := n2_; clear n0_ n1_ n2_; (try clear hb); (try clear hb2); (try clear hk); (try clear hi); have hcz15_0 : w14.cell? ⟨gb145, 0, none⟩ = some (.int .i64 a0_0) := (blk_cell BK145.out 0).trans rfl; have hcz15_1 : w14.cell? ⟨gb145, 1, none⟩ = some (.int .i64 a0_1) := (blk_cell BK145.out 1).trans rfl; have hcz15_2 : w14.cell? ⟨gb145, 2, none⟩ = some (.bool a0_2) := (blk_cell BK145.out 2).trans rfl; have hfz15_0 := blk_frozen BK145.out 0; have hfz15_1 := blk_frozen BK145.out 1; have hfz15_2 := blk_frozen BK145.out 2; have hcz16_0 : w14.cell? ⟨gb146, 0, none⟩ = some (.int .i64 a1_0) := (blk_cell BK146.out 0).trans rfl; have hcz16_1 : w14.cell? ⟨gb146, 1, none⟩ = some (.int .i64 a1_1) := (blk_cell BK146.out 1).trans rfl; have hcz16_2 : w14.cell? ⟨gb146, 2, none⟩ = some (.int .u8 a1_2) := (blk_cell BK146.out 2).trans rfl; have hcz16_3 : w14.cell? ⟨gb146, 3, none⟩ = some (.slice A1_3 l1_3.length c1_3) := (blk_cell BK146.out 3).trans rfl; have hfz16_0 := blk_frozen BK146.out 0; have hfz16_1 := blk_frozen BK146.out 1; have hfz16_2 := blk_frozen BK146.out 2; have hfz16_3 := blk_frozen BK146.out 3) | ((with_reducible refine gate_callee (f := 8) rfl ?_); refine goesL_ (some 15) rfl rfl Try.func8 (by kernel_rfl) rfl #[.agg #[.int .i64 a0_0, .int .i64 a0_1, .bool a0_2], .agg #[.int .i64 a1_0, .int .i64 a1_1, .int .u8 a1_2, .slice A1_3 l1_3.length c1_3]] rfl (by (try simp only [List.map_toArray, List.map_cons, List.map_nil]); first | done | rfl | (simp only [List.length_drop, List.length_take]; rfl)) ?_; (with_reducible refine (bound_Acts.calls k a0_0 a0_1 a0_2 a1_0 a1_1 a1_2 _ _ l1_3 t149 _ ?side1 ?side2 A7.out).mono ?_); (case side1 => repeat (first | exact (Kd.C_below HR1_3.out HB.out) | (with_reducible refine Kd.C_alloc ?_ _) | (with_reducible refine Kd.C_drewN ?_ _) | (with_reducible refine Kd.C_drew ?_))); (case side2 => exact HC1_3.out); rintro e w17 ⟨rfl, hb⟩; refine ⟨_, rfl, ?_⟩; have n0_ := Aside0.mk (blk_below (g := gb145) (o := .cells #[.int .i64 a0_0, .int .i64 a0_1, .bool a0_2] 26 (0, 0)) (by (with_reducible repeat (first | refine blk_drewN ?_ _ | refine blk_drew ?_ | refine blk_alloc ?_ _)); exact BK145.out) hb); have n1_ := Aside0.mk (blk_below (g := gb146) (o := .cells #[.int .i64 a1_0, .int .i64 a1_1, .int .u8 a1_2, .slice A1_3 l1_3.length c1_3] 30 (0, 0)) (by (with_reducible repeat (first | refine blk_drewN ?_ _ | refine blk_drew ?_ | refine blk_alloc ?_ _)); exact BK146.out) hb); have n2_ := Aside0.mk (below_step (by repeat (first | (with_reducible first | exact HB.out | apply below_alloc | apply pw_below_drewN | apply below_drew1 | refine below_set ?_ GE145.out | refine below_set ?_ GE146.out) | exact HB.out)) hb); clear BK145; clear BK146; clear HB; have BK145 := n0_; have BK146 := n1_; have HB := n2_; clear n0_ n1_ n2_; (try clear hb); (try clear hb2); (try clear hk); (try clear hi)))
      go_ret
      exact ⟨by first | rfl | (simp [errW_none, errW_some] <;> rfl) | (simp [*, errW_none, errW_some] <;> rfl), by repeat (first | (with_reducible first | exact HB.out | apply below_alloc | apply pw_below_drewN | apply below_drew1 | refine below_set ?_ GE145.out | refine below_set ?_ GE146.out) | exact HB.out)⟩
    · replace c6 := Bool.eq_false_iff.mpr c6
      subst c6
      have H1 : (some 0) = some r := by rw [if_neg (show ¬ (false = true) by decide)] at H; exact H
      clear H
      have H := H1
      clear H1
      obtain rfl := Option.some.inj H
      go_enter Try.func12, Try.ntmps12
      go_wp2_with (first | ((with_reducible refine gate_dst (N := 2) rfl ?_); refine box_event ?hg (N := 2) ?hd (cs := #[.int .i64 a0_0, .int .i64 a0_1, .bool a0_2]) (t := 26) ?hr ?_; (case hd => rfl); (case hg => rfl); (case hr => first | (go_simp; done) | (go_simp; rfl)); intro gb145 hg w18 hbox hb; have n0_ := Aside0.mk (below_step (by repeat (first | (with_reducible first | exact HB.out | apply below_alloc | apply pw_below_drewN | apply below_drew1) | exact HB.out)) hb); have n1_ := Aside0.mk (hbox); have n2_ := Aside0.mk ((by rw [hg]; exact (below_size (by repeat (first | (with_reducible first | exact HB.out | apply below_alloc | apply pw_below_drewN | apply below_drew1) | exact HB.out))) : w.heap.size ≤ gb145)); have n3_ := Aside0.mk ((by rw [hg]; exact (below_size (by repeat (first | (with_reducible first | exact HB.out | apply below_alloc | apply pw_below_drewN | apply below_drew1) | exact HB.out))) : w.heap.size ≤ gb145)); clear HB; have HB := n0_; have BK145 := n1_; have GW145 := n2_; have GE145 := n3_; clear n0_ n1_ n2_ n3_; clear hb hbox hg) | ((with_reducible refine gate_dst (N := 3) rfl ?_); refine box_event ?hg (N := 3) ?hd (cs := #[.int .i64 a1_0, .int .i64 a1_1, .int .u8 a1_2, .slice A1_3 l1_3.length c1_3]) (t := 30) ?hr ?_; (case hd => rfl); (case hg => rfl); (case hr => first | (go_simp; done) | (go_simp; rfl)); intro gb146 hg w19 hbox hb; have n0_ := Aside0.mk (blk_below (g := gb145) (o := .cells #[.int .i64 a0_0, .int .i64 a0_1, .bool a0_2] 26 (0, 0)) (by (with_reducible repeat (first | refine blk_drewN ?_ _ | refine blk_drew ?_ | refine blk_alloc ?_ _)); exact BK145.out) hb); have n1_ := Aside0.mk (below_step (by repeat (first | (with_reducible first | exact HB.out | apply below_alloc | apply pw_below_drewN | apply below_drew1 | refine below_set ?_ GE145.out) | exact HB.out)) hb); have n2_ := Aside0.mk (hbox); have n3_ := Aside0.mk ((by rw [hg]; exact (below_size (by repeat (first | (with_reducible first | exact HB.out | apply below_alloc | apply pw_below_drewN | apply below_drew1 | refine below_set ?_ GE145.out) | exact HB.out))) : w.heap.size ≤ gb146)); have n4_ := Aside0.mk ((by rw [hg]; exact (below_size (by repeat (first | (with_reducible first | exact HB.out | apply below_alloc | apply pw_below_drewN | apply below_drew1 | refine below_set ?_ GE145.out) | exact HB.out))) : w.heap.size ≤ gb146)); have n5_ := Aside0.mk ((by rw [hg]; exact Nat.ne_of_lt (blk_lt (g := gb145) (o := .cells #[.int .i64 a0_0, .int .i64 a0_1, .bool a0_2] 26 (0, 0)) (by (with_reducible repeat (first | refine blk_drewN ?_ _ | refine blk_drew ?_ | refine blk_alloc ?_ _)); exact BK145.out)) : gb145 ≠ gb146)); have n6_ := Aside0.mk ((by rw [hg]; exact Nat.ne_of_gt (blk_lt (g := gb145) (o := .cells #[.int .i64 a0_0, .int .i64 a0_1, .bool a0_2] 26 (0, 0)) (by (with_reducible repeat (first | refine blk_drewN ?_ _ | refine blk_drew ?_ | refine blk_alloc ?_ _)); exact BK145.out)) : gb146 ≠ gb145)); clear BK145; clear HB; have BK145 := n0_; have HB := n1_; have BK146 := n2_; have GW146 := n3_; have GE146 := n4_; have NB145_146 := n5_; have NB146_145 := n6_; clear n0_ n1_ n2_ n3_ n4_ n5_ n6_; clear hb hbox hg; have hnb20 := NB145_146.out; have hnc20 := NB146_145.out; have hcz21_0 : w19.cell? ⟨gb145, 0, none⟩ = some (.int .i64 a0_0) := (blk_cell BK145.out 0).trans rfl; have hcz21_1 : w19.cell? ⟨gb145, 1, none⟩ = some (.int .i64 a0_1) := (blk_cell BK145.out 1).trans rfl; have hcz21_2 : w19.cell? ⟨gb145, 2, none⟩ = some (.bool a0_2) := (blk_cell BK145.out 2).trans rfl; have hfz21_0 := blk_frozen BK145.out 0; have hfz21_1 := blk_frozen BK145.out 1; have hfz21_2 := blk_frozen BK145.out 2) | ((with_reducible refine gate_callee (f := 17) rfl ?_); refine goesL_ (some 6) rfl rfl Try.func17 (by kernel_rfl) rfl #[.agg #[.int .i64 a0_0, .int .i64 a0_1, .bool a0_2]] rfl (by (try simp only [List.map_toArray, List.map_cons, List.map_nil]); first | done | rfl | (simp only [List.length_drop, List.length_take]; rfl)) ?_; (with_reducible refine (plan_May.calls a0_0 a0_1 a0_2 true _ A3.out).mono ?_); rintro e w22 ⟨rfl, hb⟩; refine ⟨_, rfl, ?_⟩; have n0_ := Aside0.mk (blk_below (g := gb145) (o := .cells #[.int .i64 a0_0, .int .i64 a0_1, .bool a0_2] 26 (0, 0)) (by (with_reducible repeat (first | refine blk_drewN ?_ _ | refine blk_drew ?_ | refine blk_alloc ?_ _)); exact BK145.out) hb); have n1_ := Aside0.mk (blk_below (g := gb146) (o := .cells #[.int .i64 a1_0, .int .i64 a1_1, .int .u8 a1_2, .slice A1_3 l1_3.length c1_3] 30 (0, 0)) (by (with_reducible repeat (first | refine blk_drewN ?_ _ | refine blk_drew ?_ | refine blk_alloc ?_ _)); exact BK146.out) hb); have n2_ := Aside0.mk (below_step (by repeat (first | (with_reducible first | exact HB.out | apply below_alloc | apply pw_below_drewN | apply below_drew1 | refine below_set ?_ GE145.out | refine below_set ?_ GE146.out) | exact HB.out)) hb); clear BK145; clear BK146; clear HB; have BK145 := n0_; have BK146 := n1_; have HB := n2_; clear n0_ n1_ n2_; (try clear hb); (try clear hb2); (try clear hk); (try clear hi); have hcz23_0 : w22.cell? ⟨gb146, 0, none⟩ = some (.int .i64 a1_0) := (blk_cell BK146.out 0).trans rfl; have hcz23_1 : w22.cell? ⟨gb146, 1, none⟩ = some (.int .i64 a1_1) := (blk_cell BK146.out 1).trans rfl; have hcz23_2 : w22.cell? ⟨gb146, 2, none⟩ = some (.int .u8 a1_2) := (blk_cell BK146.out 2).trans rfl; have hcz23_3 : w22.cell? ⟨gb146, 3, none⟩ = some (.slice A1_3 l1_3.length c1_3) := (blk_cell BK146.out 3).trans rfl; have hfz23_0 := blk_frozen BK146.out 0; have hfz23_1 := blk_frozen BK146.out 1; have hfz23_2 := blk_frozen BK146.out 2; have hfz23_3 := blk_frozen BK146.out 3) | (go_at_call 7; (with_reducible refine (maptext_May.calls a1_0 a1_1 a1_2 _ _ l1_3 false _ ?side1 ?side2 A5.out).mono ?_); (case side1 => repeat (first | exact (Kd.C_below HR1_3.out HB.out) | (with_reducible refine Kd.C_alloc ?_ _) | (with_reducible refine Kd.C_drewN ?_ _) | (with_reducible refine Kd.C_drew ?_))); (case side2 => exact HC1_3.out); rintro e w24 ⟨rfl, hb⟩; have n0_ := Aside0.mk (blk_below (g := gb145) (o := .cells #[.int .i64 a0_0, .int .i64 a0_1, .bool a0_2] 26 (0, 0)) (by (with_reducible repeat (first | refine blk_drewN ?_ _ | refine blk_drew ?_ | refine blk_alloc ?_ _)); exact BK145.out) hb); have n1_ := Aside0.mk (blk_below (g := gb146) (o := .cells #[.int .i64 a1_0, .int .i64 a1_1, .int .u8 a1_2, .slice A1_3 l1_3.length c1_3] 30 (0, 0)) (by (with_reducible repeat (first | refine blk_drewN ?_ _ | refine blk_drew ?_ | refine blk_alloc ?_ _)); exact BK146.out) hb); have n2_ := Aside0.mk (below_step (by repeat (first | (with_reducible first | exact HB.out | apply below_alloc | apply pw_below_drewN | apply below_drew1 | refine below_set ?_ GE145.out | refine below_set ?_ GE146.out) | exact HB.out)) hb); clear BK145; clear BK146; clear HB; have BK145 := n0_; have BK146 := n1_; have HB := n2_; clear n0_ n1_ n2_; (try clear hb); (try clear hb2); (try clear hk); (try clear hi)))
      go_ret
      exact ⟨by first | rfl | (simp [errW_none, errW_some] <;> rfl) | (simp [*, errW_none, errW_some] <;> rfl), by repeat (first | (with_reducible first | exact HB.out | apply below_alloc | apply pw_below_drewN | apply below_drew1 | refine below_set ?_ GE145.out | refine below_set ?_ GE146.out) | exact HB.out)⟩
  · replace c4 := Bool.eq_false_iff.mpr c4
    subst c4
    have H1 : (some 0) = some r := by rw [if_neg (show ¬ (false = true) by decide)] at H; exact H
    clear H
    have H := H1
    clear H1
    obtain rfl := Option.some.inj H
    go_enter Try.func12, Try.ntmps12
    go_wp2_with (first | ((with_reducible refine gate_dst (N := 2) rfl ?_); refine box_event ?hg (N := 2) ?hd (cs := #[.int .i64 a0_0, .int .i64 a0_1, .bool a0_2]) (t := 26) ?hr ?_; (case hd => rfl); (case hg => rfl); (case hr => first | (go_simp; done) | (go_simp; rfl)); intro gb145 hg w25 hbox hb; have n0_ := Aside0.mk (below_step (by repeat (first | (with_reducible first | exact HB.out | apply below_alloc | apply pw_below_drewN | apply below_drew1) | exact HB.out)) hb); have n1_ := Aside0.mk (hbox); have n2_ := Aside0.mk ((by rw [hg]; exact (below_size (by repeat (first | (with_reducible first | exact HB.out | apply below_alloc | apply pw_below_drewN | apply below_drew1) | exact HB.out))) : w.heap.size ≤ gb145)); have n3_ := Aside0.mk ((by rw [hg]; exact (below_size (by repeat (first | (with_reducible first | exact HB.out | apply below_alloc | apply pw_below_drewN | apply below_drew1) | exact HB.out))) : w.heap.size ≤ gb145)); clear HB; have HB := n0_; have BK145 := n1_; have GW145 := n2_; have GE145 := n3_; clear n0_ n1_ n2_ n3_; clear hb hbox hg) | ((with_reducible refine gate_dst (N := 3) rfl ?_); refine box_event ?hg (N := 3) ?hd (cs := #[.int .i64 a1_0, .int .i64 a1_1, .int .u8 a1_2, .slice A1_3 l1_3.length c1_3]) (t := 30) ?hr ?_; (case hd => rfl); (case hg => rfl); (case hr => first | (go_simp; done) | (go_simp; rfl)); intro gb146 hg w26 hbox hb; have n0_ := Aside0.mk (blk_below (g := gb145) (o := .cells #[.int .i64 a0_0, .int .i64 a0_1, .bool a0_2] 26 (0, 0)) (by (with_reducible repeat (first | refine blk_drewN ?_ _ | refine blk_drew ?_ | refine blk_alloc ?_ _)); exact BK145.out) hb); have n1_ := Aside0.mk (below_step (by repeat (first | (with_reducible first | exact HB.out | apply below_alloc | apply pw_below_drewN | apply below_drew1 | refine below_set ?_ GE145.out) | exact HB.out)) hb); have n2_ := Aside0.mk (hbox); have n3_ := Aside0.mk ((by rw [hg]; exact (below_size (by repeat (first | (with_reducible first | exact HB.out | apply below_alloc | apply pw_below_drewN | apply below_drew1 | refine below_set ?_ GE145.out) | exact HB.out))) : w.heap.size ≤ gb146)); have n4_ := Aside0.mk ((by rw [hg]; exact (below_size (by repeat (first | (with_reducible first | exact HB.out | apply below_alloc | apply pw_below_drewN | apply below_drew1 | refine below_set ?_ GE145.out) | exact HB.out))) : w.heap.size ≤ gb146)); have n5_ := Aside0.mk ((by rw [hg]; exact Nat.ne_of_lt (blk_lt (g := gb145) (o := .cells #[.int .i64 a0_0, .int .i64 a0_1, .bool a0_2] 26 (0, 0)) (by (with_reducible repeat (first | refine blk_drewN ?_ _ | refine blk_drew ?_ | refine blk_alloc ?_ _)); exact BK145.out)) : gb145 ≠ gb146)); have n6_ := Aside0.mk ((by rw [hg]; exact Nat.ne_of_gt (blk_lt (g := gb145) (o := .cells #[.int .i64 a0_0, .int .i64 a0_1, .bool a0_2] 26 (0, 0)) (by (with_reducible repeat (first | refine blk_drewN ?_ _ | refine blk_drew ?_ | refine blk_alloc ?_ _)); exact BK145.out)) : gb146 ≠ gb145)); clear BK145; clear HB; have BK145 := n0_; have HB := n1_; have BK146 := n2_; have GW146 := n3_; have GE146 := n4_; have NB145_146 := n5_; have NB146_145 := n6_; clear n0_ n1_ n2_ n3_ n4_ n5_ n6_; clear hb hbox hg; have hnb27 := NB145_146.out; have hnc27 := NB146_145.out; have hcz28_0 : w26.cell? ⟨gb145, 0, none⟩ = some (.int .i64 a0_0) := (blk_cell BK145.out 0).trans rfl; have hcz28_1 : w26.cell? ⟨gb145, 1, none⟩ = some (.int .i64 a0_1) := (blk_cell BK145.out 1).trans rfl; have hcz28_2 : w26.cell? ⟨gb145, 2, none⟩ = some (.bool a0_2) := (blk_cell BK145.out 2).trans rfl; have hfz28_0 := blk_frozen BK145.out 0; have hfz28_1 := blk_frozen BK145.out 1; have hfz28_2 := blk_frozen BK145.out 2) | ((with_reducible refine gate_callee (f := 17) rfl ?_); refine goesL_ (some 6) rfl rfl Try.func17 (by kernel_rfl) rfl #[.agg #[.int .i64 a0_0, .int .i64 a0_1, .bool a0_2]] rfl (by (try simp only [List.map_toArray, List.map_cons, List.map_nil]); first | done | rfl | (simp only [List.length_drop, List.length_take]; rfl)) ?_; (with_reducible refine (plan_May.calls a0_0 a0_1 a0_2 false _ A3.out).mono ?_); rintro e w29 ⟨rfl, hb⟩; refine ⟨_, rfl, ?_⟩; have n0_ := Aside0.mk (blk_below (g := gb145) (o := .cells #[.int .i64 a0_0, .int .i64 a0_1, .bool a0_2] 26 (0, 0)) (by (with_reducible repeat (first | refine blk_drewN ?_ _ | refine blk_drew ?_ | refine blk_alloc ?_ _)); exact BK145.out) hb); have n1_ := Aside0.mk (blk_below (g := gb146) (o := .cells #[.int .i64 a1_0, .int .i64 a1_1, .int .u8 a1_2, .slice A1_3 l1_3.length c1_3] 30 (0, 0)) (by (with_reducible repeat (first | refine blk_drewN ?_ _ | refine blk_drew ?_ | refine blk_alloc ?_ _)); exact BK146.out) hb); have n2_ := Aside0.mk (below_step (by repeat (first | (with_reducible first | exact HB.out | apply below_alloc | apply pw_below_drewN | apply below_drew1 | refine below_set ?_ GE145.out | refine below_set ?_ GE146.out) | exact HB.out)) hb); clear BK145; clear BK146; clear HB; have BK145 := n0_; have BK146 := n1_; have HB := n2_; clear n0_ n1_ n2_; (try clear hb); (try clear hb2); (try clear hk); (try clear hi)))
    go_ret
    exact ⟨by first | rfl | (simp [errW_none, errW_some] <;> rfl) | (simp [*, errW_none, errW_some] <;> rfl), by repeat (first | (with_reducible first | exact HB.out | apply below_alloc | apply pw_below_drewN | apply below_drew1 | refine below_set ?_ GE145.out | refine below_set ?_ GE146.out) | exact HB.out)⟩

end Go.Proofs.Ytiaopkgmhpjeeaa.MBoundHolds

-- printed by myprint.py (a program of this session's, over the kit's printer)
namespace Go.Proofs.Ytiaopkgmhpjeeaa.MBoundHolds
open Go.RowKit Go.Proofs.YtiaopkgmhpjeeaaW.PrintWords Go.Proofs.YtiaopkgmhpjeeaaW.PrintLast Go.Proofs.YtiaopkgmhpjeeaaW.PrintMore
attribute [local go_sem] max2_int min2_int max_two min_two max_three min_three max_four min_four   -- for this text's walks alone
set_option linter.unusedVariables false
set_option linter.unusedSimpArgs false

/-! ### salvorlaw21_BoundRuns: function 4 -/
def salvorlaw21_BoundRuns.f (k : Nat)  : Option (Bool) := (salvorlaw18_Map.f k 24 ([] : List (S53)) 0 0).bind fun bt151 => ((bound_Sectors.f 17).bind fun t158 => (if t158 = 3 then ((bound_Acts.f k 2 0 false bt151.1 bt151.2.1 bt151.2.2.1 bt151.2.2.2).bind fun t159 => (if t159 = 12 then ((bound_Steps.f k 2 0 false bt151.1 bt151.2.1 bt151.2.2.1 bt151.2.2.2).bind fun t160 => (if t160 = 13 then ((bound_Steps.f k 2 0 false (-1) 0 0 ([] : List (S56))).bind fun t161 => (some (t161 == 0))) else (some false))) else (some false))) else (some false)))
theorem salvorlaw21_BoundRuns.mono : ∀ k, LeO (salvorlaw21_BoundRuns.f k ) (salvorlaw21_BoundRuns.f (k + 1) ) := by
  intro  k
  unfold salvorlaw21_BoundRuns.f
  repeat' first
      | (with_reducible exact bound_Acts.mono _ _ _ _ _ _ _ _)
      | (with_reducible exact bound_Steps.mono _ _ _ _ _ _ _ _)
      | (with_reducible exact salvorlaw18_Map.mono _ _ _ _ _)
      | (with_reducible exact LeO.refl _)
      | (with_reducible exact LeO.none _)
      | (with_reducible refine LeO.ite ?_ ?_)
      | (with_reducible refine LeO.bind ?_ (fun _ => ?_))
      | exact bound_Acts.mono _ _ _ _ _ _ _ _
      | exact bound_Steps.mono _ _ _ _ _ _ _ _
      | exact salvorlaw18_Map.mono _ _ _ _ _
      | exact LeO.none _
      | refine LeO.ite ?_ ?_
      | refine LeO.bind ?_ (fun _ => ?_)
set_option maxHeartbeats 8000000 in
set_option maxRecDepth 100000 in
theorem salvorlaw21_BoundRuns.calls (k : Nat)  (r : Bool) (w : World) (h : salvorlaw21_BoundRuns.f k  = some r) :
    Calls Try.prog 4 #[] w fun e w' => e = .returned (.bool r) ∧ Below w.heap.size w w' := by
  have hu26 := Try.underlying26
  have hu30 := Try.underlying30
  have HB := Aside0.mk (Below.refl w.heap.size w)
  have H : ((salvorlaw18_Map.f k 24 ([] : List (S53)) 0 0).bind fun bt151 => ((bound_Sectors.f 17).bind fun t158 => (if t158 = 3 then ((bound_Acts.f k 2 0 false bt151.1 bt151.2.1 bt151.2.2.1 bt151.2.2.2).bind fun t159 => (if t159 = 12 then ((bound_Steps.f k 2 0 false bt151.1 bt151.2.1 bt151.2.2.1 bt151.2.2.2).bind fun t160 => (if t160 = 13 then ((bound_Steps.f k 2 0 false (-1) 0 0 ([] : List (S56))).bind fun t161 => (some (t161 == 0))) else (some false))) else (some false))) else (some false)))) = some r := h
  clear h
  replace H := Option.bind_eq_some_iff.mp H
  obtain ⟨⟨t151, t152, t153, t154⟩, A10, H⟩ := H
  replace H : ((bound_Sectors.f 17).bind fun t158 => (if t158 = 3 then ((bound_Acts.f k 2 0 false t151 t152 t153 t154).bind fun t159 => (if t159 = 12 then ((bound_Steps.f k 2 0 false t151 t152 t153 t154).bind fun t160 => (if t160 = 13 then ((bound_Steps.f k 2 0 false (-1) 0 0 ([] : List (S56))).bind fun t161 => (some (t161 == 0))) else (some false))) else (some false))) else (some false))) = some r := H
  have A1 := Aside0.mk A10
  clear A10
  replace H := Option.bind_eq_some_iff.mp H
  obtain ⟨t158, A20, H⟩ := H
  replace H : (if t158 = 3 then ((bound_Acts.f k 2 0 false t151 t152 t153 t154).bind fun t159 => (if t159 = 12 then ((bound_Steps.f k 2 0 false t151 t152 t153 t154).bind fun t160 => (if t160 = 13 then ((bound_Steps.f k 2 0 false (-1) 0 0 ([] : List (S56))).bind fun t161 => (some (t161 == 0))) else (some false))) else (some false))) else (some false)) = some r := H
  have A2 := Aside0.mk A20
  clear A20
  by_cases c3 : t158 = 3
  · rw [if_pos c3] at H
    have c3b0 : (t158 == 3) = true := beq_iff_eq.mpr c3
    have c3b1 : (t158 != 3) = false := bne_eq_false_iff_eq.mpr c3
    clear c3
    replace H := Option.bind_eq_some_iff.mp H
    obtain ⟨t159, A40, H⟩ := H
    replace H : (if t159 = 12 then ((bound_Steps.f k 2 0 false t151 t152 t153 t154).bind fun t160 => (if t160 = 13 then ((bound_Steps.f k 2 0 false (-1) 0 0 ([] : List (S56))).bind fun t161 => (some (t161 == 0))) else (some false))) else (some false)) = some r := H
    have A4 := Aside0.mk A40
    clear A40
    by_cases c5 : t159 = 12
    · rw [if_pos c5] at H
      have c5b0 : (t159 == 12) = true := beq_iff_eq.mpr c5
      have c5b1 : (t159 != 12) = false := bne_eq_false_iff_eq.mpr c5
      clear c5
      replace H := Option.bind_eq_some_iff.mp H
      obtain ⟨t160, A60, H⟩ := H
      replace H : (if t160 = 13 then ((bound_Steps.f k 2 0 false (-1) 0 0 ([] : List (S56))).bind fun t161 => (some (t161 == 0))) else (some false)) = some r := H
      have A6 := Aside0.mk A60
      clear A60
      by_cases c7 : t160 = 13
      · rw [if_pos c7] at H
        have c7b0 : (t160 == 13) = true := beq_iff_eq.mpr c7
        have c7b1 : (t160 != 13) = false := bne_eq_false_iff_eq.mpr c7
        clear c7
        replace H := Option.bind_eq_some_iff.mp H
        obtain ⟨t161, A80, H⟩ := H
        replace H : (some (t161 == 0)) = some r := H
        have A8 := Aside0.mk A80
        clear A80
        obtain rfl := Option.some.inj H
        go_enter Try.func4, Try.ntmps4
        go_wp2_with (first | ((with_reducible refine gate_dst (N := 1) rfl ?_); refine box_event ?hg (N := 1) ?hd (cs := #[.int .i64 0, .int .i64 0, .bool false]) (t := 26) ?hr ?_; (case hd => rfl); (case hg => rfl); (case hr => first | (go_simp; done) | (go_simp; rfl)); intro gb150 hg w9 hbox hb; have n0_ := Aside0.mk (below_step (by repeat (first | (with_reducible first | exact HB.out | apply below_alloc | apply pw_below_drewN | apply below_drew1) | exact HB.out)) hb); have n1_ := Aside0.mk (hbox); have n2_ := Aside0.mk ((by rw [hg]; exact (below_size (by repeat (first | (with_reducible first | exact HB.out | apply below_alloc | apply pw_below_drewN | apply below_drew1) | exact HB.out))) : w.heap.size ≤ gb150)); have n3_ := Aside0.mk ((by rw [hg]; exact (below_size (by repeat (first | (with_reducible first | exact HB.out | apply below_alloc | apply pw_below_drewN | apply below_drew1) | exact HB.out))) : w.heap.size ≤ gb150)); clear HB; have HB := n0_; have BK150 := n1_; have GW150 := n2_; have GE150 := n3_; clear n0_ n1_ n2_ n3_; clear hb hbox hg; have hcz10_0 : w9.cell? ⟨gb150, 0, none⟩ = some (.int .i64 0) := (blk_cell BK150.out 0).trans rfl; have hcz10_1 : w9.cell? ⟨gb150, 1, none⟩ = some (.int .i64 0) := (blk_cell BK150.out 1).trans rfl; have hcz10_2 : w9.cell? ⟨gb150, 2, none⟩ = some (.bool false) := (blk_cell BK150.out 2).trans rfl; have hfz10_0 := blk_frozen BK150.out 0; have hfz10_1 := blk_frozen BK150.out 1; have hfz10_2 := blk_frozen BK150.out 2) | ((with_reducible refine gate_callee (f := 6) rfl ?_); refine goesL_ (some 4) rfl rfl Try.func6 (by kernel_rfl) rfl #[.int .u8 24, .slice none 0 0, .int .u8 0, .int .u8 0] rfl (by (try simp only [List.map_toArray, List.map_cons, List.map_nil]); first | done | rfl | (simp only [List.length_drop, List.length_take]; rfl)) ?_; (refine (salvorlaw18_Map.calls k 24 _ _ ([] : List (S53)) 0 0 t151 t152 t153 t154 _ ?side1 ?side2 A1.out).mono ?_); (case side1 => exact Kd.C_nil _ _); (case side2 => exact Nat.le_refl _); rintro e w11 ⟨v155, rfl, ho0, hb⟩; refine ⟨_, rfl, ?_⟩; have n0_ := Aside0.mk (Kd.R_lower ho0 (below_size (by repeat (first | (with_reducible first | exact HB.out | apply below_alloc | apply pw_below_drewN | apply below_drew1 | refine below_set ?_ GE150.out) | exact HB.out)))); have n1_ := Aside0.mk (blk_below (g := gb150) (o := .cells #[.int .i64 2, .int .i64 0, .bool false] 26 (0, 0)) (by (with_reducible repeat (first | refine blk_drewN ?_ _ | refine blk_drew ?_ | refine blk_alloc ?_ _)); refine blk_put (cs := #[.int .i64 2, .int .i64 0, .bool false]) ?_ 2 _ rfl; (with_reducible repeat (first | refine blk_drewN ?_ _ | refine blk_drew ?_ | refine blk_alloc ?_ _)); refine blk_put (cs := #[.int .i64 2, .int .i64 0, .bool false]) ?_ 1 _ rfl; (with_reducible repeat (first | refine blk_drewN ?_ _ | refine blk_drew ?_ | refine blk_alloc ?_ _)); refine blk_put (cs := #[.int .i64 0, .int .i64 0, .bool false]) ?_ 0 _ rfl; (with_reducible repeat (first | refine blk_drewN ?_ _ | refine blk_drew ?_ | refine blk_alloc ?_ _)); exact BK150.out) hb); have n2_ := Aside0.mk (below_step (by repeat (first | (with_reducible first | exact HB.out | apply below_alloc | apply pw_below_drewN | apply below_drew1 | refine below_set ?_ GE150.out) | exact HB.out)) hb); clear BK150; clear HB; have HO156 := n0_; have BK150 := n1_; have HB := n2_; clear n0_ n1_ n2_; (try clear hb); (try clear hb2); (try clear hk); (try clear hi); (try clear ho0)) | ((with_reducible refine gate_dst (N := 2) rfl ?_); refine box_event ?hg (N := 2) ?hd (cs := #[.int .i64 0, .int .i64 0, .int .u8 0, .slice none 0 0]) (t := 30) ?hr ?_; (case hd => rfl); (case hg => rfl); (case hr => first | (go_simp; done) | (go_simp; rfl)); intro gb157 hg w12 hbox hb; have n0_ := Aside0.mk (Kd.R_below (by (with_reducible repeat (first | apply Kd.R_alloc | apply Kd.R_drewN | apply Kd.R_drew)); exact HO156.out) hb); have n1_ := Aside0.mk (blk_below (g := gb150) (o := .cells #[.int .i64 2, .int .i64 0, .bool false] 26 (0, 0)) (by (with_reducible repeat (first | refine blk_drewN ?_ _ | refine blk_drew ?_ | refine blk_alloc ?_ _)); exact BK150.out) hb); have n2_ := Aside0.mk (below_step (by repeat (first | (with_reducible first | exact HB.out | apply below_alloc | apply pw_below_drewN | apply below_drew1 | refine below_set ?_ GE150.out) | exact HB.out)) hb); have n3_ := Aside0.mk (hbox); have n4_ := Aside0.mk ((by rw [hg]; exact (below_size (by repeat (first | (with_reducible first | exact HB.out | apply below_alloc | apply pw_below_drewN | apply below_drew1 | refine below_set ?_ GE150.out) | exact HB.out))) : w.heap.size ≤ gb157)); have n5_ := Aside0.mk ((by rw [hg]; exact (below_size (by repeat (first | (with_reducible first | exact HB.out | apply below_alloc | apply pw_below_drewN | apply below_drew1 | refine below_set ?_ GE150.out) | exact HB.out))) : w.heap.size ≤ gb157)); have n6_ := Aside0.mk ((by rw [hg]; exact Nat.ne_of_lt (blk_lt (g := gb150) (o := .cells #[.int .i64 2, .int .i64 0, .bool false] 26 (0, 0)) (by (with_reducible repeat (first | refine blk_drewN ?_ _ | refine blk_drew ?_ | refine blk_alloc ?_ _)); exact BK150.out)) : gb150 ≠ gb157)); have n7_ := Aside0.mk ((by rw [hg]; exact Nat.ne_of_gt (blk_lt (g := gb150) (o := .cells #[.int .i64 2, .int .i64 0, .bool false] 26 (0, 0)) (by (with_reducible repeat (first | refine blk_drewN ?_ _ | refine blk_drew ?_ | refine blk_alloc ?_ _)); exact BK150.out)) : gb157 ≠ gb150)); clear HO156; clear BK150; clear HB; have HO156 := n0_; have BK150 := n1_; have HB := n2_; have BK157 := n3_; have GW157 := n4_; have GE157 := n5_; have NB150_157 := n6_; have NB157_150 := n7_; clear n0_ n1_ n2_ n3_ n4_ n5_ n6_ n7_; clear hb hbox hg; have hnb13 := NB157_150.out; have hnc13 := NB150_157.out; have hcz14_0 : w12.cell? ⟨gb157, 0, none⟩ = some (.int .i64 0) := (blk_cell BK157.out 0).trans rfl; have hcz14_1 : w12.cell? ⟨gb157, 1, none⟩ = some (.int .i64 0) := (blk_cell BK157.out 1).trans rfl; have hcz14_2 : w12.cell? ⟨gb157, 2, none⟩ = some (.int .u8 0) := (blk_cell BK157.out 2).trans rfl; have hcz14_3 : w12.cell? ⟨gb157, 3, none⟩ = some (.slice none 0 0) := (blk_cell BK157.out 3).trans rfl; have hfz14_0 := blk_frozen BK157.out 0; have hfz14_1 := blk_frozen BK157.out 1; have hfz14_2 := blk_frozen BK157.out 2; have hfz14_3 := blk_frozen BK157.out 3; obtain ⟨Ao15, co15, eo15⟩ := Kd.R_slice HO156.out; subst eo15) | ((with_reducible refine gate_callee (f := 11) rfl ?_); refine goesL_ (some 5) rfl rfl Try.func11 (by kernel_rfl) rfl #[.int .i64 17] rfl (by (try simp only [List.map_toArray, List.map_cons, List.map_nil]); first | done | rfl | (simp only [List.length_drop, List.length_take]; rfl)) ?_; (with_reducible refine (bound_Sectors.calls 17 t158 _ A2.out).mono ?_); rintro e w' ⟨rfl, ⟨nd, rfl⟩⟩; refine ⟨_, rfl, ?_⟩; have hcz16_0 : w12.cell? ⟨gb150, 0, none⟩ = some (.int .i64 2) := (blk_cell BK150.out 0).trans rfl; have hcz16_1 : w12.cell? ⟨gb150, 1, none⟩ = some (.int .i64 0) := (blk_cell BK150.out 1).trans rfl; have hcz16_2 : w12.cell? ⟨gb150, 2, none⟩ = some (.bool false) := (blk_cell BK150.out 2).trans rfl; have hfz16_0 := blk_frozen BK150.out 0; have hfz16_1 := blk_frozen BK150.out 1; have hfz16_2 := blk_frozen BK150.out 2) | (go_at_call 8; (with_reducible refine (bound_Acts.calls k 2 0 false t151 t152 t153 _ _ t154 t159 _ ?side1 ?side2 A4.out).mono ?_); (case side1 => refine (Kd.R_reads' (e := 56) (base := w.heap.size) (ok := fun k_ => True) (n := t154.length) (c := co15) ?_).2.2; exact (by (with_reducible repeat (first | apply Kd.R_alloc | apply Kd.R_drewN | apply Kd.R_drew)); exact (Kd.R_mono (Kd.R_far (p := ⟨gb157, 3, none⟩) (Kd.R_far (p := ⟨gb157, 2, none⟩) (Kd.R_far (p := ⟨gb157, 1, none⟩) (Kd.R_far (p := ⟨gb157, 0, none⟩) (Kd.R_types HO156.out BK157.out (by decide)) (fun _ hk => hk.2) (.int .i64 t151)) (fun _ hk => hk.2) (.int .i64 t152)) (fun _ hk => hk.2) (.int .u8 t153)) (fun _ hk => hk.2) (.slice Ao15 t154.length co15)) (fun _ h_ => h_.1)))); (case side2 => exact (Kd.R_reads' HO156.out).2.1); rintro e w17 ⟨rfl, hb⟩; have n0_ := Aside0.mk (Kd.R_below (by (with_reducible repeat (first | apply Kd.R_alloc | apply Kd.R_drewN | apply Kd.R_drew)); exact (Kd.R_mono (Kd.R_far (p := ⟨gb157, 3, none⟩) (Kd.R_far (p := ⟨gb157, 2, none⟩) (Kd.R_far (p := ⟨gb157, 1, none⟩) (Kd.R_far (p := ⟨gb157, 0, none⟩) (Kd.R_types HO156.out BK157.out (by decide)) (fun _ hk => hk.2) (.int .i64 t151)) (fun _ hk => hk.2) (.int .i64 t152)) (fun _ hk => hk.2) (.int .u8 t153)) (fun _ hk => hk.2) (.slice Ao15 t154.length co15)) (fun _ h_ => h_.1))) hb); have n1_ := Aside0.mk (blk_below (g := gb150) (o := .cells #[.int .i64 2, .int .i64 0, .bool false] 26 (0, 0)) (by (with_reducible repeat (first | refine blk_drewN ?_ _ | refine blk_drew ?_ | refine blk_alloc ?_ _)); refine blk_far ?_ NB150_157.out _; (with_reducible repeat (first | refine blk_drewN ?_ _ | refine blk_drew ?_ | refine blk_alloc ?_ _)); refine blk_far ?_ NB150_157.out _; (with_reducible repeat (first | refine blk_drewN ?_ _ | refine blk_drew ?_ | refine blk_alloc ?_ _)); refine blk_far ?_ NB150_157.out _; (with_reducible repeat (first | refine blk_drewN ?_ _ | refine blk_drew ?_ | refine blk_alloc ?_ _)); refine blk_far ?_ NB150_157.out _; (with_reducible repeat (first | refine blk_drewN ?_ _ | refine blk_drew ?_ | refine blk_alloc ?_ _)); exact BK150.out) hb); have n2_ := Aside0.mk (blk_below (g := gb157) (o := .cells #[.int .i64 t151, .int .i64 t152, .int .u8 t153, .slice Ao15 t154.length co15] 30 (0, 0)) (by (with_reducible repeat (first | refine blk_drewN ?_ _ | refine blk_drew ?_ | refine blk_alloc ?_ _)); refine blk_put (cs := #[.int .i64 t151, .int .i64 t152, .int .u8 t153, .slice none 0 0]) ?_ 3 _ rfl; (with_reducible repeat (first | refine blk_drewN ?_ _ | refine blk_drew ?_ | refine blk_alloc ?_ _)); refine blk_put (cs := #[.int .i64 t151, .int .i64 t152, .int .u8 0, .slice none 0 0]) ?_ 2 _ rfl; (with_reducible repeat (first | refine blk_drewN ?_ _ | refine blk_drew ?_ | refine blk_alloc ?_ _)); refine blk_put (cs := #[.int .i64 t151, .int .i64 0, .int .u8 0, .slice none 0 0]) ?_ 1 _ rfl; (with_reducible repeat (first | refine blk_drewN ?_ _ | refine blk_drew ?_ | refine blk_alloc ?_ _)); refine blk_put (cs := #[.int .i64 0, .int .i64 0, .int .u8 0, .slice none 0 0]) ?_ 0 _ rfl; (with_reducible repeat (first | refine blk_drewN ?_ _ | refine blk_drew ?_ | refine blk_alloc ?_ _)); exact BK157.out) hb); have n3_ := Aside0.mk (below_step (by repeat (first | (with_reducible first | exact HB.out | apply below_alloc | apply pw_below_drewN | apply below_drew1 | refine below_set ?_ GE150.out | refine below_set ?_ GE157.out) | exact HB.out)) hb); clear HO156; clear BK150; clear BK157; clear HB; have HO156 := n0_; have BK150 := n1_; have BK157 := n2_; have HB := n3_; clear n0_ n1_ n2_ n3_; (try clear hb); (try clear hb2); (try clear hk); (try clear hi); have hcz18_0 : w17.cell? ⟨gb150, 0, none⟩ = some (.int .i64 2) := (blk_cell BK150.out 0).trans rfl; have hcz18_1 : w17.cell? ⟨gb150, 1, none⟩ = some (.int .i64 0) := (blk_cell BK150.out 1).trans rfl; have hcz18_2 : w17.cell? ⟨gb150, 2, none⟩ = some (.bool false) := (blk_cell BK150.out 2).trans rfl; have hfz18_0 := blk_frozen BK150.out 0; have hfz18_1 := blk_frozen BK150.out 1; have hfz18_2 := blk_frozen BK150.out 2; have hcz19_0 : w17.cell? ⟨gb157, 0, none⟩ = some (.int .i64 t151) := (blk_cell BK157.out 0).trans rfl; have hcz19_1 : w17.cell? ⟨gb157, 1, none⟩ = some (.int .i64 t152) := (blk_cell BK157.out 1).trans rfl; have hcz19_2 : w17.cell? ⟨gb157, 2, none⟩ = some (.int .u8 t153) := (blk_cell BK157.out 2).trans rfl; have hcz19_3 : w17.cell? ⟨gb157, 3, none⟩ = some (.slice Ao15 t154.length co15) := (blk_cell BK157.out 3).trans rfl; have hfz19_0 := blk_frozen BK157.out 0; have hfz19_1 := blk_frozen BK157.out 1; have hfz19_2 := blk_frozen BK157.out 2; have hfz19_3 := blk_frozen BK157.out 3) | (go_at_call 12; (with_reducible refine (bound_Steps.calls k 2 0 false t151 t152 t153 _ _ t154 t160 _ ?side1 ?side2 A6.out).mono ?_); (case side1 => repeat (first | exact (Kd.R_reads' HO156.out).2.2 | (with_reducible refine Kd.C_alloc ?_ _) | (with_reducible refine Kd.C_drewN ?_ _) | (with_reducible refine Kd.C_drew ?_))); (case side2 => exact (Kd.R_reads' HO156.out).2.1); rintro e w20 ⟨rfl, hb⟩; have n0_ := Aside0.mk (Kd.R_below (by (with_reducible repeat (first | apply Kd.R_alloc | apply Kd.R_drewN | apply Kd.R_drew)); exact HO156.out) hb); have n1_ := Aside0.mk (blk_below (g := gb150) (o := .cells #[.int .i64 2, .int .i64 0, .bool false] 26 (0, 0)) (by (with_reducible repeat (first | refine blk_drewN ?_ _ | refine blk_drew ?_ | refine blk_alloc ?_ _)); exact BK150.out) hb); have n2_ := Aside0.mk (blk_below (g := gb157) (o := .cells #[.int .i64 t151, .int .i64 t152, .int .u8 t153, .slice Ao15 t154.length co15] 30 (0, 0)) (by (with_reducible repeat (first | refine blk_drewN ?_ _ | refine blk_drew ?_ | refine blk_alloc ?_ _)); exact BK157.out) hb); have n3_ := Aside0.mk (below_step (by repeat (first | (with_reducible first | exact HB.out | apply below_alloc | apply pw_below_drewN | apply below_drew1 | refine below_set ?_ GE150.out | refine below_set ?_ GE157.out) | exact HB.out)) hb); clear HO156; clear BK150; clear BK157; clear HB; have HO156 := n0_; have BK150 := n1_; have BK157 := n2_; have HB := n3_; clear n0_ n1_ n2_ n3_; (try clear hb); (try clear hb2); (try clear hk); (try clear hi); have hcz21_0 : w20.cell? ⟨gb150, 0, none⟩ = some (.int .i64 2) := (blk_cell BK150.out 0).trans rfl; have hcz21_1 : w20.cell? ⟨gb150, 1, none⟩ = some (.int .i64 0) := (blk_cell BK150.out 1).trans rfl; have hcz21_2 : w20.cell? ⟨gb150, 2, none⟩ = some (.bool false) := (blk_cell BK150.out 2).trans rfl; have hfz21_0 := blk_frozen BK150.out 0; have hfz21_1 := blk_frozen BK150.out 1; have hfz21_2 := blk_frozen BK150.out 2) | (go_at_call 12; (refine (bound_Steps.calls k 2 0 false (-1) 0 0 _ _ ([] : List (S56)) t161 _ ?side1 ?side2 A8.out).mono ?_); (case side1 => exact Kd.C_nil _ _); (case side2 => exact Nat.le_refl _); rintro e w22 ⟨rfl, hb⟩; have n0_ := Aside0.mk (Kd.R_below (by (with_reducible repeat (first | apply Kd.R_alloc | apply Kd.R_drewN | apply Kd.R_drew)); exact HO156.out) hb); have n1_ := Aside0.mk (blk_below (g := gb150) (o := .cells #[.int .i64 2, .int .i64 0, .bool false] 26 (0, 0)) (by (with_reducible repeat (first | refine blk_drewN ?_ _ | refine blk_drew ?_ | refine blk_alloc ?_ _)); exact BK150.out) hb); have n2_ := Aside0.mk (blk_below (g := gb157) (o := .cells #[.int .i64 t151, .int .i64 t152, .int .u8 t153, .slice Ao15 t154.length co15] 30 (0, 0)) (by (with_reducible repeat (first | refine blk_drewN ?_ _ | refine blk_drew ?_ | refine blk_alloc ?_ _)); exact BK157.out) hb); have n3_ := Aside0.mk (below_step (by repeat (first | (with_reducible first | exact HB.out | apply below_alloc | apply pw_below_drewN | apply below_drew1 | refine below_set ?_ GE150.out | refine below_set ?_ GE157.out) | exact HB.out)) hb); clear HO156; clear BK150; clear BK157; clear HB; have HO156 := n0_; have BK150 := n1_; have BK157 := n2_; have HB := n3_; clear n0_ n1_ n2_ n3_; (try clear hb); (try clear hb2); (try clear hk); (try clear hi)))
        go_ret
        exact ⟨by first | rfl | (simp [errW_none, errW_some] <;> rfl) | (simp [*, errW_none, errW_some] <;> rfl), by repeat (first | (with_reducible first | exact HB.out | apply below_alloc | apply pw_below_drewN | apply below_drew1 | refine below_set ?_ GE150.out | refine below_set ?_ GE157.out) | exact HB.out)⟩
      · rw [if_neg c7] at H
        have c7b0 : (t160 == 13) = false := beq_eq_false_iff_ne.mpr c7
        have c7b1 : (t160 != 13) = true := bne_iff_ne.mpr c7
        obtain rfl := Option.some.inj H
        go_enter Try.func4, Try.ntmps4
        go_wp2_with (first | ((with_reducible refine gate_dst (N := 1) rfl ?_); refine box_event ?hg (N := 1) ?hd (cs := #[.int .i64 0, .int .i64 0, .bool false]) (t := 26) ?hr ?_; (case hd => rfl); (case hg => rfl); (case hr => first | (go_simp; done) | (go_simp; rfl)); intro gb150 hg w23 hbox hb; have n0_ := Aside0.mk (below_step (by repeat (first | (with_reducible first | exact HB.out | apply below_alloc | apply pw_below_drewN | apply below_drew1) | exact HB.out)) hb); have n1_ := Aside0.mk (hbox); have n2_ := Aside0.mk ((by rw [hg]; exact (below_size (by repeat (first | (with_reducible first | exact HB.out | apply below_alloc | apply pw_below_drewN | apply below_drew1) | exact HB.out))) : w.heap.size ≤ gb150)); have n3_ := Aside0.mk ((by rw [hg]; exact (below_size (by repeat (first | (with_reducible first | exact HB.out | apply below_alloc | apply pw_below_drewN | apply below_drew1) | exact HB.out))) : w.heap.size ≤ gb150)); clear HB; have HB := n0_; have BK150 := n1_; have GW150 := n2_; have GE150 := n3_; clear n0_ n1_ n2_ n3_; clear hb hbox hg; have hcz24_0 : w23.cell? ⟨gb150, 0, none⟩ = some (.int .i64 0) := (blk_cell BK150.out 0).trans rfl; have hcz24_1 : w23.cell? ⟨gb150, 1, none⟩ = some (.int .i64 0) := (blk_cell BK150.out 1).trans rfl; have hcz24_2 : w23.cell? ⟨gb150, 2, none⟩ = some (.bool false) := (blk_cell BK150.out 2).trans rfl; have hfz24_0 := blk_frozen BK150.out 0; have hfz24_1 := blk_frozen BK150.out 1; have hfz24_2 := blk_frozen BK150.out 2) | ((with_reducible refine gate_callee (f := 6) rfl ?_); refine goesL_ (some 4) rfl rfl Try.func6 (by kernel_rfl) rfl #[.int .u8 24, .slice none 0 0, .int .u8 0, .int .u8 0] rfl (by (try simp only [List.map_toArray, List.map_cons, List.map_nil]); first | done | rfl | (simp only [List.length_drop, List.length_take]; rfl)) ?_; (refine (salvorlaw18_Map.calls k 24 _ _ ([] : List (S53)) 0 0 t151 t152 t153 t154 _ ?side1 ?side2 A1.out).mono ?_); (case side1 => exact Kd.C_nil _ _); (case side2 => exact Nat.le_refl _); rintro e w25 ⟨v155, rfl, ho0, hb⟩; refine ⟨_, rfl, ?_⟩; have n0_ := Aside0.mk (Kd.R_lower ho0 (below_size (by repeat (first | (with_reducible first | exact HB.out | apply below_alloc | apply pw_below_drewN | apply below_drew1 | refine below_set ?_ GE150.out) | exact HB.out)))); have n1_ := Aside0.mk (blk_below (g := gb150) (o := .cells #[.int .i64 2, .int .i64 0, .bool false] 26 (0, 0)) (by (with_reducible repeat (first | refine blk_drewN ?_ _ | refine blk_drew ?_ | refine blk_alloc ?_ _)); refine blk_put (cs := #[.int .i64 2, .int .i64 0, .bool false]) ?_ 2 _ rfl; (with_reducible repeat (first | refine blk_drewN ?_ _ | refine blk_drew ?_ | refine blk_alloc ?_ _)); refine blk_put (cs := #[.int .i64 2, .int .i64 0, .bool false]) ?_ 1 _ rfl; (with_reducible repeat (first | refine blk_drewN ?_ _ | refine blk_drew ?_ | refine blk_alloc ?_ _)); refine blk_put (cs := #[.int .i64 0, .int .i64 0, .bool false]) ?_ 0 _ rfl; (with_reducible repeat (first | refine blk_drewN ?_ _ | refine blk_drew ?_ | refine blk_alloc ?_ _)); exact BK150.out) hb); have n2_ := Aside0.mk (below_step (by repeat (first | (with_reducible first | exact HB.out | apply below_alloc | apply pw_below_drewN | apply below_drew1 | refine below_set ?_ GE150.out) | exact HB.out)) hb); clear BK150; clear HB; have HO156 := n0_; have BK150 := n1_; have HB := n2_; clear n0_ n1_ n2_; (try clear hb); (try clear hb2); (try clear hk); (try clear hi); (try clear ho0)) | ((with_reducible refine gate_dst (N := 2) rfl ?_); refine box_event ?hg (N := 2) ?hd (cs := #[.int .i64 0, .int .i64 0, .int .u8 0, .slice none 0 0]) (t := 30) ?hr ?_; (case hd => rfl); (case hg => rfl); (case hr => first | (go_simp; done) | (go_simp; rfl)); intro gb157 hg w26 hbox hb; have n0_ := Aside0.mk (Kd.R_below (by (with_reducible repeat (first | apply Kd.R_alloc | apply Kd.R_drewN | apply Kd.R_drew)); exact HO156.out) hb); have n1_ := Aside0.mk (blk_below (g := gb150) (o := .cells #[.int .i64 2, .int .i64 0, .bool false] 26 (0, 0)) (by (with_reducible repeat (first | refine blk_drewN ?_ _ | refine blk_drew ?_ | refine blk_alloc ?_ _)); exact BK150.out) hb); have n2_ := Aside0.mk (below_step (by repeat (first | (with_reducible first | exact HB.out | apply below_alloc | apply pw_below_drewN | apply below_drew1 | refine below_set ?_ GE150.out) | exact HB.out)) hb); have n3_ := Aside0.mk (hbox); have n4_ := Aside0.mk ((by rw [hg]; exact (below_size (by repeat (first | (with_reducible first | exact HB.out | apply below_alloc | apply pw_below_drewN | apply below_drew1 | refine below_set ?_ GE150.out) | exact HB.out))) : w.heap.size ≤ gb157)); have n5_ := Aside0.mk ((by rw [hg]; exact (below_size (by repeat (first | (with_reducible first | exact HB.out | apply below_alloc | apply pw_below_drewN | apply below_drew1 | refine below_set ?_ GE150.out) | exact HB.out))) : w.heap.size ≤ gb157)); have n6_ := Aside0.mk ((by rw [hg]; exact Nat.ne_of_lt (blk_lt (g := gb150) (o := .cells #[.int .i64 2, .int .i64 0, .bool false] 26 (0, 0)) (by (with_reducible repeat (first | refine blk_drewN ?_ _ | refine blk_drew ?_ | refine blk_alloc ?_ _)); exact BK150.out)) : gb150 ≠ gb157)); have n7_ := Aside0.mk ((by rw [hg]; exact Nat.ne_of_gt (blk_lt (g := gb150) (o := .cells #[.int .i64 2, .int .i64 0, .bool false] 26 (0, 0)) (by (with_reducible repeat (first | refine blk_drewN ?_ _ | refine blk_drew ?_ | refine blk_alloc ?_ _)); exact BK150.out)) : gb157 ≠ gb150)); clear HO156; clear BK150; clear HB; have HO156 := n0_; have BK150 := n1_; have HB := n2_; have BK157 := n3_; have GW157 := n4_; have GE157 := n5_; have NB150_157 := n6_; have NB157_150 := n7_; clear n0_ n1_ n2_ n3_ n4_ n5_ n6_ n7_; clear hb hbox hg; have hnb27 := NB157_150.out; have hnc27 := NB150_157.out; have hcz28_0 : w26.cell? ⟨gb157, 0, none⟩ = some (.int .i64 0) := (blk_cell BK157.out 0).trans rfl; have hcz28_1 : w26.cell? ⟨gb157, 1, none⟩ = some (.int .i64 0) := (blk_cell BK157.out 1).trans rfl; have hcz28_2 : w26.cell? ⟨gb157, 2, none⟩ = some (.int .u8 0) := (blk_cell BK157.out 2).trans rfl; have hcz28_3 : w26.cell? ⟨gb157, 3, none⟩ = some (.slice none 0 0) := (blk_cell BK157.out 3).trans rfl; have hfz28_0 := blk_frozen BK157.out 0; have hfz28_1 := blk_frozen BK157.out 1; have hfz28_2 := blk_frozen BK157.out 2; have hfz28_3 := blk_frozen BK157.out 3; obtain ⟨Ao29, co29, eo29⟩ := Kd.R_slice HO156.out; subst eo29) | ((with_reducible refine gate_callee (f := 11) rfl ?_); refine goesL_ (some 5) rfl rfl Try.func11 (by kernel_rfl) rfl #[.int .i64 17] rfl (by (try simp only [List.map_toArray, List.map_cons, List.map_nil]); first | done | rfl | (simp only [List.length_drop, List.length_take]; rfl)) ?_; (with_reducible refine (bound_Sectors.calls 17 t158 _ A2.out).mono ?_); rintro e w' ⟨rfl, ⟨nd, rfl⟩⟩; refine ⟨_, rfl, ?_⟩; have hcz30_0 : w26.cell? ⟨gb150, 0, none⟩ = some (.int .i64 2) := (blk_cell BK150.out 0).trans rfl; have hcz30_1 : w26.cell? ⟨gb150, 1, none⟩ = some (.int .i64 0) := (blk_cell BK150.out 1).trans rfl; have hcz30_2 : w26.cell? ⟨gb150, 2, none⟩ = some (.bool false) := (blk_cell BK150.out 2).trans rfl; have hfz30_0 := blk_frozen BK150.out 0; have hfz30_1 := blk_frozen BK150.out 1; have hfz30_2 := blk_frozen BK150.out 2) | (go_at_call 8; (with_reducible refine (bound_Acts.calls k 2 0 false t151 t152 t153 _ _ t154 t159 _ ?side1 ?side2 A4.out).mono ?_); (case side1 => refine (Kd.R_reads' (e := 56) (base := w.heap.size) (ok := fun k_ => True) (n := t154.length) (c := co29) ?_).2.2; exact (by (with_reducible repeat (first | apply Kd.R_alloc | apply Kd.R_drewN | apply Kd.R_drew)); exact (Kd.R_mono (Kd.R_far (p := ⟨gb157, 3, none⟩) (Kd.R_far (p := ⟨gb157, 2, none⟩) (Kd.R_far (p := ⟨gb157, 1, none⟩) (Kd.R_far (p := ⟨gb157, 0, none⟩) (Kd.R_types HO156.out BK157.out (by decide)) (fun _ hk => hk.2) (.int .i64 t151)) (fun _ hk => hk.2) (.int .i64 t152)) (fun _ hk => hk.2) (.int .u8 t153)) (fun _ hk => hk.2) (.slice Ao29 t154.length co29)) (fun _ h_ => h_.1)))); (case side2 => exact (Kd.R_reads' HO156.out).2.1); rintro e w31 ⟨rfl, hb⟩; have n0_ := Aside0.mk (Kd.R_below (by (with_reducible repeat (first | apply Kd.R_alloc | apply Kd.R_drewN | apply Kd.R_drew)); exact (Kd.R_mono (Kd.R_far (p := ⟨gb157, 3, none⟩) (Kd.R_far (p := ⟨gb157, 2, none⟩) (Kd.R_far (p := ⟨gb157, 1, none⟩) (Kd.R_far (p := ⟨gb157, 0, none⟩) (Kd.R_types HO156.out BK157.out (by decide)) (fun _ hk => hk.2) (.int .i64 t151)) (fun _ hk => hk.2) (.int .i64 t152)) (fun _ hk => hk.2) (.int .u8 t153)) (fun _ hk => hk.2) (.slice Ao29 t154.length co29)) (fun _ h_ => h_.1))) hb); have n1_ := Aside0.mk (blk_below (g := gb150) (o := .cells #[.int .i64 2, .int .i64 0, .bool false] 26 (0, 0)) (by (with_reducible repeat (first | refine blk_drewN ?_ _ | refine blk_drew ?_ | refine blk_alloc ?_ _)); refine blk_far ?_ NB150_157.out _; (with_reducible repeat (first | refine blk_drewN ?_ _ | refine blk_drew ?_ | refine blk_alloc ?_ _)); refine blk_far ?_ NB150_157.out _; (with_reducible repeat (first | refine blk_drewN ?_ _ | refine blk_drew ?_ | refine blk_alloc ?_ _)); refine blk_far ?_ NB150_157.out _; (with_reducible repeat (first | refine blk_drewN ?_ _ | refine blk_drew ?_ | refine blk_alloc ?_ _)); refine blk_far ?_ NB150_157.out _; (with_reducible repeat (first | refine blk_drewN ?_ _ | refine blk_drew ?_ | refine blk_alloc ?_ _)); exact BK150.out) hb); have n2_ := Aside0.mk (blk_below (g := gb157) (o := .cells #[.int .i64 t151, .int .i64 t152, .int .u8 t153, .slice Ao29 t154.length co29] 30 (0, 0)) (by (with_reducible repeat (first | refine blk_drewN ?_ _ | refine blk_drew ?_ | refine blk_alloc ?_ _)); refine blk_put (cs := #[.int .i64 t151, .int .i64 t152, .int .u8 t153, .slice none 0 0]) ?_ 3 _ rfl; (with_reducible repeat (first | refine blk_drewN ?_ _ | refine blk_drew ?_ | refine blk_alloc ?_ _)); refine blk_put (cs := #[.int .i64 t151, .int .i64 t152, .int .u8 0, .slice none 0 0]) ?_ 2 _ rfl; (with_reducible repeat (first | refine blk_drewN ?_ _ | refine blk_drew ?_ | refine blk_alloc ?_ _)); refine blk_put (cs := #[.int .i64 t151, .int .i64 0, .int .u8 0, .slice none 0 0]) ?_ 1 _ rfl; (with_reducible repeat (first | refine blk_drewN ?_ _ | refine blk_drew ?_ | refine blk_alloc ?_ _)); refine blk_put (cs := #[.int .i64 0, .int .i64 0, .int .u8 0, .slice none 0 0]) ?_ 0 _ rfl; (with_reducible repeat (first | refine blk_drewN ?_ _ | refine blk_drew ?_ | refine blk_alloc ?_ _)); exact BK157.out) hb); have n3_ := Aside0.mk (below_step (by repeat (first | (with_reducible first | exact HB.out | apply below_alloc | apply pw_below_drewN | apply below_drew1 | refine below_set ?_ GE150.out | refine below_set ?_ GE157.out) | exact HB.out)) hb); clear HO156; clear BK150; clear BK157; clear HB; have HO156 := n0_; have BK150 := n1_; have BK157 := n2_; have HB := n3_; clear n0_ n1_ n2_ n3_; (try clear hb); (try clear hb2); (try clear hk); (try clear hi); have hcz32_0 : w31.cell? ⟨gb150, 0, none⟩ = some (.int .i64 2) := (blk_cell BK150.out 0).trans rfl; have hcz32_1 : w31.cell? ⟨gb150, 1, none⟩ = some (.int .i64 0) := (blk_cell BK150.out 1).trans rfl; have hcz32_2 : w31.cell? ⟨gb150, 2, none⟩ = some (.bool false) := (blk_cell BK150.out 2).trans rfl; have hfz32_0 := blk_frozen BK150.out 0; have hfz32_1 := blk_frozen BK150.out 1; have hfz32_2 := blk_frozen BK150.out 2; have hcz33_0 : w31.cell? ⟨gb157, 0, none⟩ = some (.int .i64 t151) := (blk_cell BK157.out 0).trans rfl; have hcz33_1 : w31.cell? ⟨gb157, 1, none⟩ = some (.int .i64 t152) := (blk_cell BK157.out 1).trans rfl; have hcz33_2 : w31.cell? ⟨gb157, 2, none⟩ = some (.int .u8 t153) := (blk_cell BK157.out 2).trans rfl; have hcz33_3 : w31.cell? ⟨gb157, 3, none⟩ = some (.slice Ao29 t154.length co29) := (blk_cell BK157.out 3).trans rfl; have hfz33_0 := blk_frozen BK157.out 0; have hfz33_1 := blk_frozen BK157.out 1; have hfz33_2 := blk_frozen BK157.out 2; have hfz33_3 := blk_frozen BK157.out 3) | (go_at_call 12; (with_reducible refine (bound_Steps.calls k 2 0 false t151 t152 t153 _ _ t154 t160 _ ?side1 ?side2 A6.out).mono ?_); (case side1 => repeat (first | exact (Kd.R_reads' HO156.out).2.2 | (with_reducible refine Kd.C_alloc ?_ _) | (with_reducible refine Kd.C_drewN ?_ _) | (with_reducible refine Kd.C_drew ?_))); (case side2 => exact (Kd.R_reads' HO156.out).2.1); rintro e w34 ⟨rfl, hb⟩; have n0_ := Aside0.mk (Kd.R_below (by (with_reducible repeat (first | apply Kd.R_alloc | apply Kd.R_drewN | apply Kd.R_drew)); exact HO156.out) hb); have n1_ := Aside0.mk (blk_below (g := gb150) (o := .cells #[.int .i64 2, .int .i64 0, .bool false] 26 (0, 0)) (by (with_reducible repeat (first | refine blk_drewN ?_ _ | refine blk_drew ?_ | refine blk_alloc ?_ _)); exact BK150.out) hb); have n2_ := Aside0.mk (blk_below (g := gb157) (o := .cells #[.int .i64 t151, .int .i64 t152, .int .u8 t153, .slice Ao29 t154.length co29] 30 (0, 0)) (by (with_reducible repeat (first | refine blk_drewN ?_ _ | refine blk_drew ?_ | refine blk_alloc ?_ _)); exact BK157.out) hb); have n3_ := Aside0.mk (below_step (by repeat (first | (with_reducible first | exact HB.out | apply below_alloc | apply pw_below_drewN | apply below_drew1 | refine below_set ?_ GE150.out | refine below_set ?_ GE157.out) | exact HB.out)) hb); clear HO156; clear BK150; clear BK157; clear HB; have HO156 := n0_; have BK150 := n1_; have BK157 := n2_; have HB := n3_; clear n0_ n1_ n2_ n3_; (try clear hb); (try clear hb2); (try clear hk); (try clear hi)))
        go_ret
        exact ⟨by first | rfl | (simp [errW_none, errW_some] <;> rfl) | (simp [*, errW_none, errW_some] <;> rfl), by repeat (first | (with_reducible first | exact HB.out | apply below_alloc | apply pw_below_drewN | apply below_drew1 | refine below_set ?_ GE150.out | refine below_set ?_ GE157.out) | exact HB.out)⟩
    · rw [if_neg c5] at H
      have c5b0 : (t159 == 12) = false := beq_eq_false_iff_ne.mpr c5
      have c5b1 : (t159 != 12) = true := bne_iff_ne.mpr c5
      obtain rfl := Option.some.inj H
      go_enter Try.func4, Try.ntmps4
      go_wp2_with (first | ((with_reducible refine gate_dst (N := 1) rfl ?_); refine box_event ?hg (N := 1) ?hd (cs := #[.int .i64 0, .int .i64 0, .bool false]) (t := 26) ?hr ?_; (case hd => rfl); (case hg => rfl); (case hr => first | (go_simp; done) | (go_simp; rfl)); intro gb150 hg w35 hbox hb; have n0_ := Aside0.mk (below_step (by repeat (first | (with_reducible first | exact HB.out | apply below_alloc | apply pw_below_drewN | apply below_drew1) | exact HB.out)) hb); have n1_ := Aside0.mk (hbox); have n2_ := Aside0.mk ((by rw [hg]; exact (below_size (by repeat (first | (with_reducible first | exact HB.out | apply below_alloc | apply pw_below_drewN | apply below_drew1) | exact HB.out))) : w.heap.size ≤ gb150)); have n3_ := Aside0.mk ((by rw [hg]; exact (below_size (by repeat (first | (with_reducible first | exact HB.out | apply below_alloc | apply pw_below_drewN | apply below_drew1) | exact HB.out))) : w.heap.size ≤ gb150)); clear HB; have HB := n0_; have BK150 := n1_; have GW150 := n2_; have GE150 := n3_; clear n0_ n1_ n2_ n3_; clear hb hbox hg; have hcz36_0 : w35.cell? ⟨gb150, 0, none⟩ = some (.int .i64 0) := (blk_cell BK150.out 0).trans rfl; have hcz36_1 : w35.cell? ⟨gb150, 1, none⟩ = some (.int .i64 0) := (blk_cell BK150.out 1).trans rfl; have hcz36_2 : w35.cell? ⟨gb150, 2, none⟩ = some (.bool false) := (blk_cell BK150.out 2).trans rfl; have hfz36_0 := blk_frozen BK150.out 0; have hfz36_1 := blk_frozen BK150.out 1; have hfz36_2 := blk_frozen BK150.out 2) | ((with_reducible refine gate_callee (f := 6) rfl ?_); refine goesL_ (some 4) rfl rfl Try.func6 (by kernel_rfl) rfl #[.int .u8 24, .slice none 0 0, .int .u8 0, .int .u8 0] rfl (by (try simp only [List.map_toArray, List.map_cons, List.map_nil]); first | done | rfl | (simp only [List.length_drop, List.length_take]; rfl)) ?_; (refine (salvorlaw18_Map.calls k 24 _ _ ([] : List (S53)) 0 0 t151 t152 t153 t154 _ ?side1 ?side2 A1.out).mono ?_); (case side1 => exact Kd.C_nil _ _); (case side2 => exact Nat.le_refl _); rintro e w37 ⟨v155, rfl, ho0, hb⟩; refine ⟨_, rfl, ?_⟩; have n0_ := Aside0.mk (Kd.R_lower ho0 (below_size (by repeat (first | (with_reducible first | exact HB.out | apply below_alloc | apply pw_below_drewN | apply below_drew1 | refine below_set ?_ GE150.out) | exact HB.out)))); have n1_ := Aside0.mk (blk_below (g := gb150) (o := .cells #[.int .i64 2, .int .i64 0, .bool false] 26 (0, 0)) (by (with_reducible repeat (first | refine blk_drewN ?_ _ | refine blk_drew ?_ | refine blk_alloc ?_ _)); refine blk_put (cs := #[.int .i64 2, .int .i64 0, .bool false]) ?_ 2 _ rfl; (with_reducible repeat (first | refine blk_drewN ?_ _ | refine blk_drew ?_ | refine blk_alloc ?_ _)); refine blk_put (cs := #[.int .i64 2, .int .i64 0, .bool false]) ?_ 1 _ rfl; (with_reducible repeat (first | refine blk_drewN ?_ _ | refine blk_drew ?_ | refine blk_alloc ?_ _)); refine blk_put (cs := #[.int .i64 0, .int .i64 0, .bool false]) ?_ 0 _ rfl; (with_reducible repeat (first | refine blk_drewN ?_ _ | refine blk_drew ?_ | refine blk_alloc ?_ _)); exact BK150.out) hb); have n2_ := Aside0.mk (below_step (by repeat (first | (with_reducible first | exact HB.out | apply below_alloc | apply pw_below_drewN | apply below_drew1 | refine below_set ?_ GE150.out) | exact HB.out)) hb); clear BK150; clear HB; have HO156 := n0_; have BK150 := n1_; have HB := n2_; clear n0_ n1_ n2_; (try clear hb); (try clear hb2); (try clear hk); (try clear hi); (try clear ho0)) | ((with_reducible refine gate_dst (N := 2) rfl ?_); refine box_event ?hg (N := 2) ?hd (cs := #[.int .i64 0, .int .i64 0, .int .u8 0, .slice none 0 0]) (t := 30) ?hr ?_; (case hd => rfl); (case hg => rfl); (case hr => first | (go_simp; done) | (go_simp; rfl)); intro gb157 hg w38 hbox hb; have n0_ := Aside0.mk (Kd.R_below (by (with_reducible repeat (first | apply Kd.R_alloc | apply Kd.R_drewN | apply Kd.R_drew)); exact HO156.out) hb); have n1_ := Aside0.mk (blk_below (g := gb150) (o := .cells #[.int .i64 2, .int .i64 0, .bool false] 26 (0, 0)) (by (with_reducible repeat (first | refine blk_drewN ?_ _ | refine blk_drew ?_ | refine blk_alloc ?_ _)); exact BK150.out) hb); have n2_ := Aside0.mk (below_step (by repeat (first | (with_reducible first | exact HB.out | apply below_alloc | apply pw_below_drewN | apply below_drew1 | refine below_set ?_ GE150.out) | exact HB.out)) hb); have n3_ := Aside0.mk (hbox); have n4_ := Aside0.mk ((by rw [hg]; exact (below_size (by repeat (first | (with_reducible first | exact HB.out | apply below_alloc | apply pw_below_drewN | apply below_drew1 | refine below_set ?_ GE150.out) | exact HB.out))) : w.heap.size ≤ gb157)); have n5_ := Aside0.mk ((by rw [hg]; exact (below_size (by repeat (first | (with_reducible first | exact HB.out | apply below_alloc | apply pw_below_drewN | apply below_drew1 | refine below_set ?_ GE150.out) | exact HB.out))) : w.heap.size ≤ gb157)); have n6_ := Aside0.mk ((by rw [hg]; exact Nat.ne_of_lt (blk_lt (g := gb150) (o := .cells #[.int .i64 2, .int .i64 0, .bool false] 26 (0, 0)) (by (with_reducible repeat (first | refine blk_drewN ?_ _ | refine blk_drew ?_ | refine blk_alloc ?_ _)); exact BK150.out)) : gb150 ≠ gb157)); have n7_ := Aside0.mk ((by rw [hg]; exact Nat.ne_of_gt (blk_lt (g := gb150) (o := .cells #[.int .i64 2, .int .i64 0, .bool false] 26 (0, 0)) (by (with_reducible repeat (first | refine blk_drewN ?_ _ | refine blk_drew ?_ | refine blk_alloc ?_ _)); exact BK150.out)) : gb157 ≠ gb150)); clear HO156; clear BK150; clear HB; have HO156 := n0_; have BK150 := n1_; have HB := n2_; have BK157 := n3_; have GW157 := n4_; have GE157 := n5_; have NB150_157 := n6_; have NB157_150 := n7_; clear n0_ n1_ n2_ n3_ n4_ n5_ n6_ n7_; clear hb hbox hg; have hnb39 := NB157_150.out; have hnc39 := NB150_157.out; have hcz40_0 : w38.cell? ⟨gb157, 0, none⟩ = some (.int .i64 0) := (blk_cell BK157.out 0).trans rfl; have hcz40_1 : w38.cell? ⟨gb157, 1, none⟩ = some (.int .i64 0) := (blk_cell BK157.out 1).trans rfl; have hcz40_2 : w38.cell? ⟨gb157, 2, none⟩ = some (.int .u8 0) := (blk_cell BK157.out 2).trans rfl; have hcz40_3 : w38.cell? ⟨gb157, 3, none⟩ = some (.slice none 0 0) := (blk_cell BK157.out 3).trans rfl; have hfz40_0 := blk_frozen BK157.out 0; have hfz40_1 := blk_frozen BK157.out 1; have hfz40_2 := blk_frozen BK157.out 2; have hfz40_3 := blk_frozen BK157.out 3; obtain ⟨Ao41, co41, eo41⟩ := Kd.R_slice HO156.out; subst eo41) | ((with_reducible refine gate_callee (f := 11) rfl ?_); refine goesL_ (some 5) rfl rfl Try.func11 (by kernel_rfl) rfl #[.int .i64 17] rfl (by (try simp only [List.map_toArray, List.map_cons, List.map_nil]); first | done | rfl | (simp only [List.length_drop, List.length_take]; rfl)) ?_; (with_reducible refine (bound_Sectors.calls 17 t158 _ A2.out).mono ?_); rintro e w' ⟨rfl, ⟨nd, rfl⟩⟩; refine ⟨_, rfl, ?_⟩; have hcz42_0 : w38.cell? ⟨gb150, 0, none⟩ = some (.int .i64 2) := (blk_cell BK150.out 0).trans rfl; have hcz42_1 : w38.cell? ⟨gb150, 1, none⟩ = some (.int .i64 0) := (blk_cell BK150.out 1).trans rfl; have hcz42_2 : w38.cell? ⟨gb150, 2, none⟩ = some (.bool false) := (blk_cell BK150.out 2).trans rfl; have hfz42_0 := blk_frozen BK150.out 0; have hfz42_1 := blk_frozen BK150.out 1; have hfz42_2 := blk_frozen BK150.out 2) | (go_at_call 8; (with_reducible refine (bound_Acts.calls k 2 0 false t151 t152 t153 _ _ t154 t159 _ ?side1 ?side2 A4.out).mono ?_); (case side1 => refine (Kd.R_reads' (e := 56) (base := w.heap.size) (ok := fun k_ => True) (n := t154.length) (c := co41) ?_).2.2; exact (by (with_reducible repeat (first | apply Kd.R_alloc | apply Kd.R_drewN | apply Kd.R_drew)); exact (Kd.R_mono (Kd.R_far (p := ⟨gb157, 3, none⟩) (Kd.R_far (p := ⟨gb157, 2, none⟩) (Kd.R_far (p := ⟨gb157, 1, none⟩) (Kd.R_far (p := ⟨gb157, 0, none⟩) (Kd.R_types HO156.out BK157.out (by decide)) (fun _ hk => hk.2) (.int .i64 t151)) (fun _ hk => hk.2) (.int .i64 t152)) (fun _ hk => hk.2) (.int .u8 t153)) (fun _ hk => hk.2) (.slice Ao41 t154.length co41)) (fun _ h_ => h_.1)))); (case side2 => exact (Kd.R_reads' HO156.out).2.1); rintro e w43 ⟨rfl, hb⟩; have n0_ := Aside0.mk (Kd.R_below (by (with_reducible repeat (first | apply Kd.R_alloc | apply Kd.R_drewN | apply Kd.R_drew)); exact (Kd.R_mono (Kd.R_far (p := ⟨gb157, 3, none⟩) (Kd.R_far (p := ⟨gb157, 2, none⟩) (Kd.R_far (p := ⟨gb157, 1, none⟩) (Kd.R_far (p := ⟨gb157, 0, none⟩) (Kd.R_types HO156.out BK157.out (by decide)) (fun _ hk => hk.2) (.int .i64 t151)) (fun _ hk => hk.2) (.int .i64 t152)) (fun _ hk => hk.2) (.int .u8 t153)) (fun _ hk => hk.2) (.slice Ao41 t154.length co41)) (fun _ h_ => h_.1))) hb); have n1_ := Aside0.mk (blk_below (g := gb150) (o := .cells #[.int .i64 2, .int .i64 0, .bool false] 26 (0, 0)) (by (with_reducible repeat (first | refine blk_drewN ?_ _ | refine blk_drew ?_ | refine blk_alloc ?_ _)); refine blk_far ?_ NB150_157.out _; (with_reducible repeat (first | refine blk_drewN ?_ _ | refine blk_drew ?_ | refine blk_alloc ?_ _)); refine blk_far ?_ NB150_157.out _; (with_reducible repeat (first | refine blk_drewN ?_ _ | refine blk_drew ?_ | refine blk_alloc ?_ _)); refine blk_far ?_ NB150_157.out _; (with_reducible repeat (first | refine blk_drewN ?_ _ | refine blk_drew ?_ | refine blk_alloc ?_ _)); refine blk_far ?_ NB150_157.out _; (with_reducible repeat (first | refine blk_drewN ?_ _ | refine blk_drew ?_ | refine blk_alloc ?_ _)); exact BK150.out) hb); have n2_ := Aside0.mk (blk_below (g := gb157) (o := .cells #[.int .i64 t151, .int .i64 t152, .int .u8 t153, .slice Ao41 t154.length co41] 30 (0, 0)) (by (with_reducible repeat (first | refine blk_drewN ?_ _ | refine blk_drew ?_ | refine blk_alloc ?_ _)); refine blk_put (cs := #[.int .i64 t151, .int .i64 t152, .int .u8 t153, .slice none 0 0]) ?_ 3 _ rfl; (with_reducible repeat (first | refine blk_drewN ?_ _ | refine blk_drew ?_ | refine blk_alloc ?_ _)); refine blk_put (cs := #[.int .i64 t151, .int .i64 t152, .int .u8 0, .slice none 0 0]) ?_ 2 _ rfl; (with_reducible repeat (first | refine blk_drewN ?_ _ | refine blk_drew ?_ | refine blk_alloc ?_ _)); refine blk_put (cs := #[.int .i64 t151, .int .i64 0, .int .u8 0, .slice none 0 0]) ?_ 1 _ rfl; (with_reducible repeat (first | refine blk_drewN ?_ _ | refine blk_drew ?_ | refine blk_alloc ?_ _)); refine blk_put (cs := #[.int .i64 0, .int .i64 0, .int .u8 0, .slice none 0 0]) ?_ 0 _ rfl; (with_reducible repeat (first | refine blk_drewN ?_ _ | refine blk_drew ?_ | refine blk_alloc ?_ _)); exact BK157.out) hb); have n3_ := Aside0.mk (below_step (by repeat (first | (with_reducible first | exact HB.out | apply below_alloc | apply pw_below_drewN | apply below_drew1 | refine below_set ?_ GE150.out | refine below_set ?_ GE157.out) | exact HB.out)) hb); clear HO156; clear BK150; clear BK157; clear HB; have HO156 := n0_; have BK150 := n1_; have BK157 := n2_; have HB := n3_; clear n0_ n1_ n2_ n3_; (try clear hb); (try clear hb2); (try clear hk); (try clear hi)))
      go_ret
      exact ⟨by first | rfl | (simp [errW_none, errW_some] <;> rfl) | (simp [*, errW_none, errW_some] <;> rfl), by repeat (first | (with_reducible first | exact HB.out | apply below_alloc | apply pw_below_drewN | apply below_drew1 | refine below_set ?_ GE150.out | refine below_set ?_ GE157.out) | exact HB.out)⟩
  · rw [if_neg c3] at H
    have c3b0 : (t158 == 3) = false := beq_eq_false_iff_ne.mpr c3
    have c3b1 : (t158 != 3) = true := bne_iff_ne.mpr c3
    obtain rfl := Option.some.inj H
    go_enter Try.func4, Try.ntmps4
    go_wp2_with (first | ((with_reducible refine gate_dst (N := 1) rfl ?_); refine box_event ?hg (N := 1) ?hd (cs := #[.int .i64 0, .int .i64 0, .bool false]) (t := 26) ?hr ?_; (case hd => rfl); (case hg => rfl); (case hr => first | (go_simp; done) | (go_simp; rfl)); intro gb150 hg w44 hbox hb; have n0_ := Aside0.mk (below_step (by repeat (first | (with_reducible first | exact HB.out | apply below_alloc | apply pw_below_drewN | apply below_drew1) | exact HB.out)) hb); have n1_ := Aside0.mk (hbox); have n2_ := Aside0.mk ((by rw [hg]; exact (below_size (by repeat (first | (with_reducible first | exact HB.out | apply below_alloc | apply pw_below_drewN | apply below_drew1) | exact HB.out))) : w.heap.size ≤ gb150)); have n3_ := Aside0.mk ((by rw [hg]; exact (below_size (by repeat (first | (with_reducible first | exact HB.out | apply below_alloc | apply pw_below_drewN | apply below_drew1) | exact HB.out))) : w.heap.size ≤ gb150)); clear HB; have HB := n0_; have BK150 := n1_; have GW150 := n2_; have GE150 := n3_; clear n0_ n1_ n2_ n3_; clear hb hbox hg; have hcz45_0 : w44.cell? ⟨gb150, 0, none⟩ = some (.int .i64 0) := (blk_cell BK150.out 0).trans rfl; have hcz45_1 : w44.cell? ⟨gb150, 1, none⟩ = some (.int .i64 0) := (blk_cell BK150.out 1).trans rfl; have hcz45_2 : w44.cell? ⟨gb150, 2, none⟩ = some (.bool false) := (blk_cell BK150.out 2).trans rfl; have hfz45_0 := blk_frozen BK150.out 0; have hfz45_1 := blk_frozen BK150.out 1; have hfz45_2 := blk_frozen BK150.out 2) | ((with_reducible refine gate_callee (f := 6) rfl ?_); refine goesL_ (some 4) rfl rfl Try.func6 (by kernel_rfl) rfl #[.int .u8 24, .slice none 0 0, .int .u8 0, .int .u8 0] rfl (by (try simp only [List.map_toArray, List.map_cons, List.map_nil]); first | done | rfl | (simp only [List.length_drop, List.length_take]; rfl)) ?_; (refine (salvorlaw18_Map.calls k 24 _ _ ([] : List (S53)) 0 0 t151 t152 t153 t154 _ ?side1 ?side2 A1.out).mono ?_); (case side1 => exact Kd.C_nil _ _); (case side2 => exact Nat.le_refl _); rintro e w46 ⟨v155, rfl, ho0, hb⟩; refine ⟨_, rfl, ?_⟩; have n0_ := Aside0.mk (Kd.R_lower ho0 (below_size (by repeat (first | (with_reducible first | exact HB.out | apply below_alloc | apply pw_below_drewN | apply below_drew1 | refine below_set ?_ GE150.out) | exact HB.out)))); have n1_ := Aside0.mk (blk_below (g := gb150) (o := .cells #[.int .i64 2, .int .i64 0, .bool false] 26 (0, 0)) (by (with_reducible repeat (first | refine blk_drewN ?_ _ | refine blk_drew ?_ | refine blk_alloc ?_ _)); refine blk_put (cs := #[.int .i64 2, .int .i64 0, .bool false]) ?_ 2 _ rfl; (with_reducible repeat (first | refine blk_drewN ?_ _ | refine blk_drew ?_ | refine blk_alloc ?_ _)); refine blk_put (cs := #[.int .i64 2, .int .i64 0, .bool false]) ?_ 1 _ rfl; (with_reducible repeat (first | refine blk_drewN ?_ _ | refine blk_drew ?_ | refine blk_alloc ?_ _)); refine blk_put (cs := #[.int .i64 0, .int .i64 0, .bool false]) ?_ 0 _ rfl; (with_reducible repeat (first | refine blk_drewN ?_ _ | refine blk_drew ?_ | refine blk_alloc ?_ _)); exact BK150.out) hb); have n2_ := Aside0.mk (below_step (by repeat (first | (with_reducible first | exact HB.out | apply below_alloc | apply pw_below_drewN | apply below_drew1 | refine below_set ?_ GE150.out) | exact HB.out)) hb); clear BK150; clear HB; have HO156 := n0_; have BK150 := n1_; have HB := n2_; clear n0_ n1_ n2_; (try clear hb); (try clear hb2); (try clear hk); (try clear hi); (try clear ho0)) | ((with_reducible refine gate_dst (N := 2) rfl ?_); refine box_event ?hg (N := 2) ?hd (cs := #[.int .i64 0, .int .i64 0, .int .u8 0, .slice none 0 0]) (t := 30) ?hr ?_; (case hd => rfl); (case hg => rfl); (case hr => first | (go_simp; done) | (go_simp; rfl)); intro gb157 hg w47 hbox hb; have n0_ := Aside0.mk (Kd.R_below (by (with_reducible repeat (first | apply Kd.R_alloc | apply Kd.R_drewN | apply Kd.R_drew)); exact HO156.out) hb); have n1_ := Aside0.mk (blk_below (g := gb150) (o := .cells #[.int .i64 2, .int .i64 0, .bool false] 26 (0, 0)) (by (with_reducible repeat (first | refine blk_drewN ?_ _ | refine blk_drew ?_ | refine blk_alloc ?_ _)); exact BK150.out) hb); have n2_ := Aside0.mk (below_step (by repeat (first | (with_reducible first | exact HB.out | apply below_alloc | apply pw_below_drewN | apply below_drew1 | refine below_set ?_ GE150.out) | exact HB.out)) hb); have n3_ := Aside0.mk (hbox); have n4_ := Aside0.mk ((by rw [hg]; exact (below_size (by repeat (first | (with_reducible first | exact HB.out | apply below_alloc | apply pw_below_drewN | apply below_drew1 | refine below_set ?_ GE150.out) | exact HB.out))) : w.heap.size ≤ gb157)); have n5_ := Aside0.mk ((by rw [hg]; exact (below_size (by repeat (first | (with_reducible first | exact HB.out | apply below_alloc | apply pw_below_drewN | apply below_drew1 | refine below_set ?_ GE150.out) | exact HB.out))) : w.heap.size ≤ gb157)); have n6_ := Aside0.mk ((by rw [hg]; exact Nat.ne_of_lt (blk_lt (g := gb150) (o := .cells #[.int .i64 2, .int .i64 0, .bool false] 26 (0, 0)) (by (with_reducible repeat (first | refine blk_drewN ?_ _ | refine blk_drew ?_ | refine blk_alloc ?_ _)); exact BK150.out)) : gb150 ≠ gb157)); have n7_ := Aside0.mk ((by rw [hg]; exact Nat.ne_of_gt (blk_lt (g := gb150) (o := .cells #[.int .i64 2, .int .i64 0, .bool false] 26 (0, 0)) (by (with_reducible repeat (first | refine blk_drewN ?_ _ | refine blk_drew ?_ | refine blk_alloc ?_ _)); exact BK150.out)) : gb157 ≠ gb150)); clear HO156; clear BK150; clear HB; have HO156 := n0_; have BK150 := n1_; have HB := n2_; have BK157 := n3_; have GW157 := n4_; have GE157 := n5_; have NB150_157 := n6_; have NB157_150 := n7_; clear n0_ n1_ n2_ n3_ n4_ n5_ n6_ n7_; clear hb hbox hg; have hnb48 := NB157_150.out; have hnc48 := NB150_157.out; have hcz49_0 : w47.cell? ⟨gb157, 0, none⟩ = some (.int .i64 0) := (blk_cell BK157.out 0).trans rfl; have hcz49_1 : w47.cell? ⟨gb157, 1, none⟩ = some (.int .i64 0) := (blk_cell BK157.out 1).trans rfl; have hcz49_2 : w47.cell? ⟨gb157, 2, none⟩ = some (.int .u8 0) := (blk_cell BK157.out 2).trans rfl; have hcz49_3 : w47.cell? ⟨gb157, 3, none⟩ = some (.slice none 0 0) := (blk_cell BK157.out 3).trans rfl; have hfz49_0 := blk_frozen BK157.out 0; have hfz49_1 := blk_frozen BK157.out 1; have hfz49_2 := blk_frozen BK157.out 2; have hfz49_3 := blk_frozen BK157.out 3; obtain ⟨Ao50, co50, eo50⟩ := Kd.R_slice HO156.out; subst eo50) | ((with_reducible refine gate_callee (f := 11) rfl ?_); refine goesL_ (some 5) rfl rfl Try.func11 (by kernel_rfl) rfl #[.int .i64 17] rfl (by (try simp only [List.map_toArray, List.map_cons, List.map_nil]); first | done | rfl | (simp only [List.length_drop, List.length_take]; rfl)) ?_; (with_reducible refine (bound_Sectors.calls 17 t158 _ A2.out).mono ?_); rintro e w' ⟨rfl, ⟨nd, rfl⟩⟩; refine ⟨_, rfl, ?_⟩))
    go_ret
    exact ⟨by first | rfl | (simp [errW_none, errW_some] <;> rfl) | (simp [*, errW_none, errW_some] <;> rfl), by repeat (first | (with_reducible first | exact HB.out | apply below_alloc | apply pw_below_drewN | apply below_drew1 | refine below_set ?_ GE150.out | refine below_set ?_ GE157.out) | exact HB.out)⟩

end Go.Proofs.Ytiaopkgmhpjeeaa.MBoundHolds

-- printed by myprint.py (a program of this session's, over the kit's printer)
namespace Go.Proofs.Ytiaopkgmhpjeeaa.MBoundHolds
open Go.RowKit Go.Proofs.YtiaopkgmhpjeeaaW.PrintWords Go.Proofs.YtiaopkgmhpjeeaaW.PrintLast Go.Proofs.YtiaopkgmhpjeeaaW.PrintMore
attribute [local go_sem] max2_int min2_int max_two min_two max_three min_three max_four min_four   -- for this text's walks alone
set_option linter.unusedVariables false
set_option linter.unusedSimpArgs false

/-! ### salvorlaw18_Opts: function 5 -/
def salvorlaw18_Opts.f (a0 : Int) (a1 : Int) (a2 : Bool) : Option (Int × Int × Bool) := some (wrap64 ((wrap64 (Int.tmod a0 6)) + 1), wrap64 (Int.tmod a1 5), a2)
set_option maxHeartbeats 8000000 in
set_option maxRecDepth 100000 in
theorem salvorlaw18_Opts.calls (a0 : Int) (a1 : Int) (a2 : Bool) (r1 : Int) (r2 : Int) (r3 : Bool) (w : World) (h : salvorlaw18_Opts.f a0 a1 a2 = some (r1, r2, r3)) :
    Calls Try.prog 5 #[.int .u8 a0, .int .u8 a1, .bool a2] w fun e w' => e = .returned (.agg #[.int .i64 r1, .int .i64 r2, .bool r3]) ∧ Below w.heap.size w w' := by
  have hu26 := Try.underlying26
  have HB := Aside0.mk (Below.refl w.heap.size w)
  have H : (some (wrap64 ((wrap64 (Int.tmod a0 6)) + 1), wrap64 (Int.tmod a1 5), a2)) = some (r1, r2, r3) := h
  clear h
  simp only [Option.some.injEq, Prod.mk.injEq] at H
  obtain ⟨rfl, rfl, rfl⟩ := H
  go_enter Try.func5, Try.ntmps5
  go_wp2_with (first | ((with_reducible refine gate_dst (N := 6) rfl ?_); refine box_event ?hg (N := 6) ?hd (cs := #[.int .i64 0, .int .i64 0, .bool false]) (t := 26) ?hr ?_; (case hd => rfl); (case hg => rfl); (case hr => first | (go_simp; done) | (go_simp; rfl)); intro gb162 hg w4 hbox hb; have n0_ := Aside0.mk (below_step (by repeat (first | (with_reducible first | exact HB.out | apply below_alloc | apply pw_below_drewN | apply below_drew1) | exact HB.out)) hb); have n1_ := Aside0.mk (hbox); have n2_ := Aside0.mk ((by rw [hg]; exact (below_size (by repeat (first | (with_reducible first | exact HB.out | apply below_alloc | apply pw_below_drewN | apply below_drew1) | exact HB.out))) : w.heap.size ≤ gb162)); have n3_ := Aside0.mk ((by rw [hg]; exact (below_size (by repeat (first | (with_reducible first | exact HB.out | apply below_alloc | apply pw_below_drewN | apply below_drew1) | exact HB.out))) : w.heap.size ≤ gb162)); clear HB; have HB := n0_; have BK162 := n1_; have GW162 := n2_; have GE162 := n3_; clear n0_ n1_ n2_ n3_; clear hb hbox hg; have hcz5_0 : w4.cell? ⟨gb162, 0, none⟩ = some (.int .i64 0) := (blk_cell BK162.out 0).trans rfl; have hcz5_1 : w4.cell? ⟨gb162, 1, none⟩ = some (.int .i64 0) := (blk_cell BK162.out 1).trans rfl; have hcz5_2 : w4.cell? ⟨gb162, 2, none⟩ = some (.bool false) := (blk_cell BK162.out 2).trans rfl; have hfz5_0 := blk_frozen BK162.out 0; have hfz5_1 := blk_frozen BK162.out 1; have hfz5_2 := blk_frozen BK162.out 2))
  refine bodyPost_ret (results_cell_row rfl _ _ gb162 26 #[.int .i64 (wrap64 ((wrap64 (Int.tmod a0 6)) + 1)), .int .i64 (wrap64 (Int.tmod a1 5)), .bool a2] (0, 0) _ rfl (by (with_reducible repeat (first | refine blk_drewN ?_ _ | refine blk_drew ?_ | refine blk_alloc ?_ _)); refine blk_put (cs := #[.int .i64 (wrap64 ((wrap64 (Int.tmod a0 6)) + 1)), .int .i64 (wrap64 (Int.tmod a1 5)), .bool false]) ?_ 2 _ rfl; (with_reducible repeat (first | refine blk_drewN ?_ _ | refine blk_drew ?_ | refine blk_alloc ?_ _)); refine blk_put (cs := #[.int .i64 (wrap64 ((wrap64 (Int.tmod a0 6)) + 1)), .int .i64 0, .bool false]) ?_ 1 _ rfl; (with_reducible repeat (first | refine blk_drewN ?_ _ | refine blk_drew ?_ | refine blk_alloc ?_ _)); refine blk_put (cs := #[.int .i64 0, .int .i64 0, .bool false]) ?_ 0 _ rfl; (with_reducible repeat (first | refine blk_drewN ?_ _ | refine blk_drew ?_ | refine blk_alloc ?_ _)); exact BK162.out) Try.underlying26 rfl (by kernel_rfl)) rfl ?_
  exact ⟨by first | rfl | (simp [errW_none, errW_some] <;> rfl) | (simp [*, errW_none, errW_some] <;> rfl), by repeat (first | (with_reducible first | exact HB.out | apply below_alloc | apply pw_below_drewN | apply below_drew1 | refine below_set ?_ GE162.out) | exact HB.out)⟩

end Go.Proofs.Ytiaopkgmhpjeeaa.MBoundHolds
