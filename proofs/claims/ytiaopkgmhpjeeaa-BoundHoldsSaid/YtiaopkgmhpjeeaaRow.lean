/- The law BoundHolds of layer 21 returns true for every input: from whatever map it begins with, a rescue comes to its end within the acts that bound.Acts tells. No conditions. -/
import Derived.Test.YtiaopkgmhpjeeaaRows
import Derived.WalkKit
import Derived.ProofKit
import Derived.OpenShut
import Derived.ShutString
import Derived.ChangeOld
import Derived.Below
import Derived.SizedLaws
import Derived.Deep.Slices
import Derived.Deep.Fields
import Derived.ChangeSame
import Derived.Test.YtiaopkgmhpjeeaaG6
namespace Go.Proofs.Ytiaopkgmhpjeeaa.boundHolds
open Go.ChangeShapes Go.WideShapes Go.ChangeAt Go.RowKit Go.Deep
open Go.Proofs.Ytiaopkgmhpjeeaa.MBoundHolds Go.Proofs.YtiaopkgmhpjeeaaW.PrintWords
set_option linter.unusedVariables false
section
variable {H : Type} {enc : TypeId × Value → H} {P : Program} {w : World} {base : Nat} {spare : Nat → Bool} {held : Bool}
theorem open_slice_fields {t e : TypeId} {fs : Array Field} {fuel : Nat} {cs : List Value} {x : DataW H × List MemPlace} (ht : P.underlying t = some (.slice e)) (he : P.underlying e = some (.struct fs))
    (hone : oneCellFields P fs = true) (hC : P.cellsOf e = fs.size) (h : DataW.trod enc P w base spare held fuel t cs = some x) :
    (cs = [.slice none 0 0] ∧ x = (.nil, [])) ∨
    ∃ (a : Addr) (len cap m : Nat) (D : Nat → DataW H) (Pl : Nat → List MemPlace), cs = [.slice (some a) len cap] ∧ base ≤ a.block ∧ len ≤ cap ∧ cap ≤ maxLen ∧ m = (if spare a.block then cap else len) ∧
      x = (.slice ((List.range len).map D) ((List.range (m - len)).map fun j => D (len + j)), MemPlace.row a (m * fs.size) ++ (List.range m).flatMap Pl) ∧
      ∀ i, i < m → ∃ (ys : List (DataW H × List MemPlace)) (n : Nat), D i = .agg (ys.map (·.1)) ∧ Pl i = ys.flatMap (·.2) ∧ ys.length = fs.size ∧
        ∀ (j : Nat) (f : Field), fs[j]? = some f → ∃ (v : Value) (y : DataW H × List MemPlace), w.cell? (a.add (i * fs.size + j)) = some v ∧ ys[j]? = some y ∧ DataW.trod enc P w base spare held n f.type [v] = some y := by
  rcases open_slice ht h with h0 | ⟨a, len, cap, m, n, D, Pl, hcs, hb, hl, hm, hmm, hx, hi⟩
  · exact .inl h0
  · refine .inr ⟨a, len, cap, m, D, Pl, hcs, hb, hl, hm, hmm, by rw [hC] at hx; exact hx, fun i him => ?_⟩
    obtain ⟨cs', hc, ht'⟩ := hi i him
    rw [hC] at hc
    obtain ⟨ys, n', hn', hy, hlen, hyl, hf⟩ := DataW.trod_struct he ht'
    obtain ⟨_, hcl, hat⟩ := World.cells?_some hc
    simp only [Prod.mk.injEq] at hy
    refine ⟨ys, n', hy.1, hy.2, hyl, fun j f hj => ?_⟩
    obtain ⟨ho, hk⟩ := hone_of hone j f hj
    have hjl : j < fs.size := (Array.getElem?_eq_some_iff.1 hj).1
    have hcell := hat j hjl
    have hv : cs'[j]? = some (cs'[j]'(by omega)) := List.getElem?_eq_getElem (by omega)
    have h1 := hf j f hj
    rw [ho, hk] at h1
    have hone' : (cs'.drop j).take 1 = [cs'[j]'(by omega)] := by
      rw [List.drop_eq_getElem_cons (by omega)]
      rfl
    rw [hone'] at h1
    have hys : ys[j]? = some (ys[j]'(by omega)) := List.getElem?_eq_getElem (by omega)
    refine ⟨_, _, ?_, hys, h1.trans hys⟩
    rw [← Go.Deep.add_add, hcell, hv]
end

theorem own : ownKnob Try.prog.godebug = none := by kernel_rfl
theorem laidOut : laidOutB Try.prog = true := by kernel_rfl
def IsRow (k : IntKind) (w : World) (a : Option Addr) (len cap : Nat) (zs : List Int) : Prop :=
  (a = none ∧ len = 0 ∧ cap = 0 ∧ zs = []) ∨
  ∃ x, a = some x ∧ len ≤ cap ∧ cap ≤ maxLen ∧ zs.length = cap ∧ (∀ i, i < zs.length → w.cell? (x.add i) = some (.int k (zs.getD i 0))) ∧ ∀ n ∈ zs, (Lit.int k n).wf = true
theorem u8_small {n : Int} (h : (Lit.int .u8 n).wf = true) : 0 ≤ n ∧ n ≤ 255 := by
  simpa [Lit.wf, IntKind.min, IntKind.max, IntKind.signed, IntKind.bits] using h
/-- a slice of cuts, as a list -/
theorem cuts_list {w : World} {a : Addr} {len : Nat} (hm : len ≤ maxLen) : ∀ (m : Nat), m ≤ len → (∀ i, i < len → ∃ x y z : Int, w.cell? (a.add (i * 3)) = some (.int .u8 x) ∧ w.cell? (a.add (i * 3 + 1)) = some (.int .u8 y) ∧ w.cell? (a.add (i * 3 + 2)) = some (.int .u8 z) ∧ (0 ≤ x ∧ x ≤ 255) ∧ (0 ≤ y ∧ y ≤ 255) ∧ (0 ≤ z ∧ z ≤ 255)) →
    ∃ l : List S53, l.length = m ∧ (∀ x ∈ l, Small x) ∧ ∀ (j : Nat) (s : S53), l[j]? = some s → w.cell? (a.add (j * 3)) = some (.int .u8 s.f0) ∧ w.cell? (a.add (j * 3 + 1)) = some (.int .u8 s.f1) ∧ w.cell? (a.add (j * 3 + 2)) = some (.int .u8 s.f2)
  | 0, _, _ => ⟨[], rfl, by simp, by simp⟩
  | m + 1, hle, h => by
    obtain ⟨l, hl, hs, hc⟩ := cuts_list hm m (by omega) h
    obtain ⟨x, y, z, h0, h1, h2, b0, b1, b2⟩ := h m (by omega)
    refine ⟨l ++ [⟨x, y, z⟩], by simp [hl], fun s hx => ?_, fun j s hj => ?_⟩
    · rcases List.mem_append.1 hx with hx | hx
      · exact hs s hx
      · obtain rfl : s = ⟨x, y, z⟩ := by simpa using hx
        exact ⟨b0, b1, b2⟩
    · by_cases c : j < l.length
      · rw [List.getElem?_append_left c] at hj; exact hc j s hj
      · have hj2 : j = m := by
          have := (List.getElem?_eq_some_iff.1 hj).1
          simp at this; omega
        subst hj2
        rw [List.getElem?_append_right (by omega)] at hj
        obtain rfl : (⟨x, y, z⟩ : S53) = s := by simpa [hl] using hj
        exact ⟨h0, h1, h2⟩
theorem cuts_C {w : World} {a : Addr} {l : List S53} (hm : l.length ≤ maxLen) (hc : ∀ (j : Nat) (s : S53), l[j]? = some s → w.cell? (a.add (j * 3)) = some (.int .u8 s.f0) ∧ w.cell? (a.add (j * 3 + 1)) = some (.int .u8 s.f1) ∧ w.cell? (a.add (j * 3 + 2)) = some (.int .u8 s.f2)) : Kd.C k53 w (some a) l.length l := by
  refine ⟨rfl, by unfold maxLen at hm; omega, fun _ => ⟨a, rfl, fun j s hj => ?_⟩⟩
  obtain ⟨h0, h1, h2⟩ := hc j s hj
  refine ⟨[.int .u8 s.f0, .int .u8 s.f1, .int .u8 s.f2], rfl, k53_mk _ _, fun i u hi => ?_⟩
  match i, hi with
  | 0, hi => cases hi; exact h0
  | 1, hi => cases hi; exact h1
  | 2, hi => cases hi; exact h2

set_option maxRecDepth 100000 in
theorem lifted (os : Os) (started : os.Started) (H : Type) (enc : TypeId × Value → H) :
    ReturnsInHanded {} Try.checked os 3 .any (Rows.boundHoldsSpec.pre6 enc Try.prog Try.f3 Rows.boundHoldsRow.domain false) (Rows.boundHoldsSpec.post enc Try.prog Try.f3 false true false false) := by
  refine returnsInHanded_of_change_sized (C := Try.checked) own started (by kernel_rfl) Try.func3
    (ChangeSpec.witness6 (enc := enc) (C := Try.checked) false ⟨#[], #[.int .u8 0, .slice none 0 0, .int .u8 0, .int .u8 0, .bool false, .int .u8 0, .int .u8 0, .slice none 0 0], []⟩ 8 (by kernel_rfl) (by kernel_rfl) (by kernel_rfl) (by kernel_rfl)) ?_
  intro W base args ds gs before hval0 hW hcnd hsz0 _
  have hval : ∀ (j : Nat) t v, Try.f3.params[j]? = some t → args[j]? = some v → Value.okWide Try.prog W .any base t v := hval0
  have hW' := hW
  obtain ⟨p, q, hA0, hV, rfl, hfz, hnd⟩ := hW
  have hA : DataW.TrodAll enc Try.prog W 0 (fun _ => true) true Try.f3.params.toList args.toList ds p := hA0
  rw [Try.params3] at hA hval
  obtain ⟨v0, vs0, d0, ds0, p0, q0, hargs, rfl, rfl, h0, r0⟩ := trodAll_cons hA
  obtain ⟨v1, vs1, d1, ds1, p1, q1, rfl, rfl, rfl, h1, r1⟩ := trodAll_cons r0
  obtain ⟨v2, vs2, d2, ds2, p2, q2, rfl, rfl, rfl, h2, r2⟩ := trodAll_cons r1
  obtain ⟨v3, vs3, d3, ds3, p3, q3, rfl, rfl, rfl, h3, r3⟩ := trodAll_cons r2
  obtain ⟨v4, vs4, d4, ds4, p4, q4, rfl, rfl, rfl, h4, r4⟩ := trodAll_cons r3
  obtain ⟨v5, vs5, d5, ds5, p5, q5, rfl, rfl, rfl, h5, r5⟩ := trodAll_cons r4
  obtain ⟨v6, vs6, d6, ds6, p6, q6, rfl, rfl, rfl, h6, r6⟩ := trodAll_cons r5
  obtain ⟨v7, vs7, d7, ds7, p7, q7, rfl, rfl, rfl, h7, r7⟩ := trodAll_cons r6
  obtain ⟨rfl, rfl, rfl⟩ := trodAll_nil r7
  obtain rfl : args = #[v0, v1, v2, v3, v4, v5, v6, v7] := by cases args; simp_all
  obtain ⟨rfl, rfl⟩ := trodVars_none hV
  obtain ⟨a0, rfl, rfl, rfl, w0⟩ := open_int Try.underlying5 (hval 0 5 v0 rfl rfl) h0
  obtain ⟨a1, len1, cap1, rfl⟩ := okWide_slice Try.underlying22 (hval 1 22 v1 rfl rfl)
  have k1 := h1
  have lt1 : ∀ x ∈ p1, x.block < W.heap.size := by obtain ⟨m, hm⟩ := k1; exact DataW.trod_lt m _ _ _ hm
  obtain ⟨l1, rfl, hs1, hr1, hc1⟩ : ∃ l : List S53, len1 = l.length ∧ (∀ x ∈ l, Small x) ∧ Kd.C k53 W a1 l.length l ∧ l.length ≤ cap1 := by
    obtain ⟨fuel, hf⟩ := h1
    rcases open_slice_fields Try.underlying22 Try.underlying53 (by kernel_rfl) (by kernel_rfl) hf with ⟨hcs, _⟩ | ⟨x, l, c, m, D, Pl, hcs, _, hl, hm, hmm, _, hi⟩
    · simp [Value.cells] at hcs
      obtain ⟨rfl, rfl, rfl⟩ := hcs
      exact ⟨[], rfl, by simp, Kd.C_nil _ _, Nat.zero_le _⟩
    · simp [Value.cells] at hcs
      obtain ⟨rfl, rfl, rfl⟩ := hcs
      have hcell : ∀ i, i < len1 → ∃ x' y z : Int, W.cell? (x.add (i * 3)) = some (.int .u8 x') ∧ W.cell? (x.add (i * 3 + 1)) = some (.int .u8 y) ∧ W.cell? (x.add (i * 3 + 2)) = some (.int .u8 z) ∧ (0 ≤ x' ∧ x' ≤ 255) ∧ (0 ≤ y ∧ y ≤ 255) ∧ (0 ≤ z ∧ z ≤ 255) := by
        intro i hil
        obtain ⟨ys, n, _, _, _, hf⟩ := hi i (by rw [hmm]; simp; omega)
        obtain ⟨u0, y0, e0, _, t0⟩ := hf 0 _ rfl
        obtain ⟨u1, y1, e1, _, t1⟩ := hf 1 _ rfl
        obtain ⟨u2, y2, e2, _, t2⟩ := hf 2 _ rfl
        obtain ⟨n0, hn0, _, b0⟩ := DataW.trod_int Try.underlying5 t0
        obtain ⟨n1, hn1, _, b1⟩ := DataW.trod_int Try.underlying5 t1
        obtain ⟨n2, hn2, _, b2⟩ := DataW.trod_int Try.underlying5 t2
        cases hn0; cases hn1; cases hn2
        exact ⟨n0, n1, n2, e0, e1, e2, u8_small b0, u8_small b1, u8_small b2⟩
      obtain ⟨L, hL, hsm, hcl⟩ := cuts_list (Nat.le_trans hl hm) len1 (Nat.le_refl _) hcell
      exact ⟨L, hL.symm, hsm, cuts_C (by rw [hL]; exact Nat.le_trans hl hm) hcl, by omega⟩
  obtain ⟨a2, rfl, rfl, rfl, w2⟩ := open_int Try.underlying5 (hval 2 5 v2 rfl rfl) h2
  obtain ⟨a3, rfl, rfl, rfl, w3⟩ := open_int Try.underlying5 (hval 3 5 v3 rfl rfl) h3
  obtain ⟨a4, rfl, rfl, rfl⟩ := open_bool Try.underlying4 (hval 4 4 v4 rfl rfl) h4
  obtain ⟨a5, rfl, rfl, rfl, w5⟩ := open_int Try.underlying5 (hval 5 5 v5 rfl rfl) h5
  obtain ⟨a6, rfl, rfl, rfl, w6⟩ := open_int Try.underlying5 (hval 6 5 v6 rfl rfl) h6
  obtain ⟨a7, len7, cap7, rfl⟩ := okWide_slice Try.underlying23 (hval 7 23 v7 rfl rfl)
  have k7 := h7
  have lt7 : ∀ x ∈ p7, x.block < W.heap.size := by obtain ⟨m, hm⟩ := k7; exact DataW.trod_lt m _ _ _ hm
  obtain ⟨z7, w7⟩ : ∃ zs, IsRow .u8 W a7 len7 cap7 zs := by
    obtain ⟨fuel, hf⟩ := h7
    rcases open_ints Try.underlying23 Try.underlying5 (by kernel_rfl) hf with ⟨hcs, _⟩ | ⟨x, l, c, zs, hcs, _, hl, hm, hz, _, hcell, hwz⟩
    · simp [Value.cells] at hcs
      obtain ⟨rfl, rfl, rfl⟩ := hcs
      exact ⟨[], .inl ⟨rfl, rfl, rfl, rfl⟩⟩
    · simp [Value.cells] at hcs
      obtain ⟨rfl, rfl, rfl⟩ := hcs
      exact ⟨zs, .inr ⟨_, rfl, hl, hm, by simpa using hz, hcell, hwz⟩⟩
  obtain ⟨l7, rfl, hr7, hm7, hw7, hc7⟩ := ReadsInt.ofRowC w7
  clear hA0 hval0 hsz0
  obtain ⟨k, hp⟩ := bound_holds a0 l1 a2 a3 a4 a5 a6 l7 (u8_small w0) hs1 (u8_small w2) (u8_small w3) (u8_small w5) (u8_small w6) (fun x hx => u8_small (hw7 x hx))
  refine (salvorlaw21_BoundHolds.calls k a0 _ _ l1 a2 a3 a4 a5 a6 _ _ l7 true W hr1 hc1 (Kd.C_of_reads (d := (0 : Int)) (h1 := fun _ => rfl) hr7) hc7 hp).mono fun e W' ⟨he, bel⟩ => ?_
  subst he
  exact ⟨_, rfl, _, _, _, [], _, [], hW', trodAll_mk1 (shut_bool Try.underlying4 _), (trodAll_cons_mk (shut_int Try.underlying5 w0) (trodAll_cons_mk (Below.trod laidOut (by kernel_rfl) (of_decide_eq_true (by kernel_rfl)) k1 bel lt1) (trodAll_cons_mk (shut_int Try.underlying5 w2) (trodAll_cons_mk (shut_int Try.underlying5 w3) (trodAll_cons_mk (shut_bool Try.underlying4 _) (trodAll_cons_mk (shut_int Try.underlying5 w5) (trodAll_cons_mk (shut_int Try.underlying5 w6) (trodAll_cons_mk (Below.trod laidOut (by kernel_rfl) (of_decide_eq_true (by kernel_rfl)) k7 bel lt7) trodAll_mk0)))))))), rfl, bel.frame _, fun h => by cases h⟩
theorem over : Rows.boundHoldsRow.holds Try.pinned (OpenSpec.ofChange Rows.boundHoldsSpec) :=
  OpenClaim.holds_of_wide 3 Try.f3 rfl rfl rfl rfl rfl rfl rfl ⟨rfl, rfl, rfl, rfl, rfl⟩ rfl rfl rfl rfl rfl (by kernel_rfl) Try.func3 (by kernel_rfl)
    (of_decide_eq_true (by kernel_rfl)) (by unfold Func.isWrapper; first | (rw [if_pos (by decide +kernel)]; kernel_rfl) | (rw [if_neg (by decide +kernel)]; exact ⟨rfl, rfl⟩))
    (fun os started H enc _ => lifted os started H enc)
theorem proved : Rows.BoundHoldsSaid := over
#print axioms proved
end Go.Proofs.Ytiaopkgmhpjeeaa.boundHolds
