import Derived.Test.YtclcciajmfocmaaGreatHl6
import Derived.Test.YtclcciajmfocmaaGreatRows
import Derived.WalkKit
import Derived.ProofKit
import Derived.OpenShut
import Derived.ShutString
import Derived.ChangeOld
import Derived.Below
import Derived.SizedLaws
set_option linter.all false
/- The law HallLess holds of every input: it returns true, and its arguments read as they did. No condition. -/
namespace Go.Proofs.YtclcciajmfocmaaGreat.hallLess
open Go.ChangeShapes Go.WideShapes Go.ChangeAt Go.RowKit
open Go.ChangeMaps (open_string shut_string)
set_option linter.unusedVariables false
theorem own : ownKnob Tryz.prog.godebug = none := by kernel_rfl
theorem laidOut : laidOutB Tryz.prog = true := by kernel_rfl
theorem mt : Go.Abs.MTypes Tryz.prog 3 4 9 27 98 136 24 62 22 100 23 26 := ⟨of_decide_eq_true (by kernel_rfl), ⟨by kernel_rfl, by kernel_rfl⟩, ⟨by kernel_rfl, by kernel_rfl⟩, ⟨by kernel_rfl, by kernel_rfl⟩, ⟨by kernel_rfl, by kernel_rfl⟩, ⟨by kernel_rfl, by kernel_rfl⟩,
  ⟨_, Tryz.underlying136, by kernel_rfl, by kernel_rfl⟩, ⟨by kernel_rfl, by kernel_rfl⟩, ⟨_, Tryz.underlying62, by kernel_rfl, by kernel_rfl⟩, ⟨by kernel_rfl, by kernel_rfl⟩, ⟨_, Tryz.underlying100, by kernel_rfl, by kernel_rfl⟩, ⟨by kernel_rfl, by kernel_rfl⟩, ⟨_, Tryz.underlying26, by kernel_rfl, by kernel_rfl⟩⟩
theorem ct : Go.Abs.G.CTypes Tryz.prog 3 36 42 := ⟨of_decide_eq_true (by kernel_rfl), ⟨by kernel_rfl, by kernel_rfl⟩, ⟨_, Tryz.underlying36, by kernel_rfl, by kernel_rfl⟩, ⟨by kernel_rfl, by kernel_rfl⟩⟩
theorem fz_a {x : Go.Abs.V} {H : Go.Abs.Heap} {v : Value} (h : x.fz H = .a v) : x = .a v := by
  cases x <;> simp [Go.Abs.V.fz] at h <;> first | exact h | rw [h]
set_option maxHeartbeats 1600000 in
set_option maxRecDepth 100000 in
theorem lifted (os : Os) (started : os.Started) (H : Type) (enc : TypeId × Value → H) :
    ReturnsInHanded {} Tryz.checked os 5 .any (Rows.hallLessSpec.pre6 enc Tryz.prog Tryz.f5 Rows.hallLessRow.domain false) (Rows.hallLessSpec.post enc Tryz.prog Tryz.f5 false true false false) := by
  refine returnsInHanded_of_change_sized (C := Tryz.checked) own started (by kernel_rfl) Tryz.func5 ?W ?_
  case W => exact ChangeSpec.witness6 (enc := enc) (C := Tryz.checked) false ⟨#[], #[.agg #[.slice none 0 0, .slice none 0 0, .bool false, .slice none 0 0], .slice none 0 0, .slice none 0 0, .slice none 0 0], []⟩ 8 (by kernel_rfl) (by kernel_rfl) (by kernel_rfl) (by kernel_rfl)
  intro W base args ds gs before hval0 hW hcnd hsz0 _
  have hval : ∀ (j : Nat) t v, Tryz.f5.params[j]? = some t → args[j]? = some v → Value.okWide Tryz.prog W .any base t v := hval0
  have hW' := hW
  obtain ⟨p, q, hA0, hV, rfl, hfz, hnd⟩ := hW
  have hA : DataW.TrodAll enc Tryz.prog W 0 (fun _ => true) true Tryz.f5.params.toList args.toList ds p := hA0
  rw [Tryz.params5] at hA hval
  obtain ⟨v0, vs0, d0, ds0, p0, q0, hargs, rfl, rfl, h0, r0⟩ := trodAll_cons hA
  obtain ⟨v1, vs1, d1, ds1, p1, q1, rfl, rfl, rfl, h1, r1⟩ := trodAll_cons r0
  obtain ⟨v2, vs2, d2, ds2, p2, q2, rfl, rfl, rfl, h2, r2⟩ := trodAll_cons r1
  obtain ⟨v3, vs3, d3, ds3, p3, q3, rfl, rfl, rfl, h3, r3⟩ := trodAll_cons r2
  obtain ⟨rfl, rfl, rfl⟩ := trodAll_nil r3
  rw [Tryz.params5] at hsz0
  obtain ⟨z0, hsz1⟩ := Go.Abs.weights_cons hsz0
  obtain ⟨z1, hsz2⟩ := Go.Abs.weights_cons hsz1
  obtain ⟨z2, hsz3⟩ := Go.Abs.weights_cons hsz2
  obtain ⟨z3, hsz4⟩ := Go.Abs.weights_cons hsz3
  obtain rfl : args = #[v0, v1, v2, v3] := by cases args; simp_all
  obtain ⟨rfl, rfl⟩ := trodVars_none hV
  have k0 := h0
  have lt0 : ∀ x ∈ p0, x.block < W.heap.size := by obtain ⟨m, hm⟩ := k0; exact DataW.trod_lt m _ _ _ hm
  obtain ⟨cs0, rfl, _⟩ := okWide_struct Tryz.underlying26 (hval 0 26 v0 rfl rfl)
  obtain ⟨m0, hm0, rm0⟩ := (mt.rdModel).argN h0 z0
  have k1 := h1
  have lt1 : ∀ x ∈ p1, x.block < W.heap.size := by obtain ⟨m, hm⟩ := k1; exact DataW.trod_lt m _ _ _ hm
  obtain ⟨a1, len1, cap1, rfl⟩ := okWide_slice Tryz.underlying42 (hval 1 42 v1 rfl rfl)
  obtain ⟨m1, hm1, rm1⟩ := (ct.rdCuts).arg1 h1 z1 rfl
  have k2 := h2
  have lt2 : ∀ x ∈ p2, x.block < W.heap.size := by obtain ⟨m, hm⟩ := k2; exact DataW.trod_lt m _ _ _ hm
  obtain ⟨a2, len2, cap2, rfl⟩ := okWide_slice Tryz.underlying42 (hval 2 42 v2 rfl rfl)
  obtain ⟨m2, hm2, rm2⟩ := (ct.rdCuts).arg1 h2 z2 rfl
  have k3 := h3
  have lt3 : ∀ x ∈ p3, x.block < W.heap.size := by obtain ⟨m, hm⟩ := k3; exact DataW.trod_lt m _ _ _ hm
  obtain ⟨a3, len3, cap3, rfl⟩ := okWide_slice Tryz.underlying27 (hval 3 27 v3 rfl rfl)
  obtain ⟨m3, hm3, rm3⟩ := (mt.rdInts).arg1 h3 z3 rfl
  clear hA0 hval0
  refine (Go.Abs.DC.law (Go.Abs.DC.mono (Go.Abs.G.less13_law m0 m1 m2 m3 hm0 hm1 hm2 hm3) fun r H' hr => fz_a hr.2) (Go.Abs.RVs.cons rm0 (Go.Abs.RVs.cons rm1 (Go.Abs.RVs.cons rm2 (Go.Abs.RVs.cons rm3 (Go.Abs.RVs.nil _)))))).mono fun e W' ⟨he, bel⟩ => ?_
  subst he
  exact ⟨_, rfl, _, _, _, [], _, [], hW', trodAll_mk1 (shut_bool Tryz.underlying4 _), (trodAll_cons_mk (Below.trod laidOut (by kernel_rfl) (of_decide_eq_true (by kernel_rfl)) k0 bel lt0) (trodAll_cons_mk (Below.trod laidOut (by kernel_rfl) (of_decide_eq_true (by kernel_rfl)) k1 bel lt1) (trodAll_cons_mk (Below.trod laidOut (by kernel_rfl) (of_decide_eq_true (by kernel_rfl)) k2 bel lt2) (trodAll_cons_mk (Below.trod laidOut (by kernel_rfl) (of_decide_eq_true (by kernel_rfl)) k3 bel lt3) trodAll_mk0)))), rfl, bel.frame _, fun h => by cases h⟩
theorem over : Rows.hallLessRow.holds Tryz.pinned (OpenSpec.ofChange Rows.hallLessSpec) :=
  OpenClaim.holds_of_wide 5 Tryz.f5 rfl rfl rfl rfl rfl rfl rfl ⟨rfl, rfl, rfl, rfl, rfl⟩ rfl rfl rfl rfl rfl (by kernel_rfl) Tryz.func5 (by kernel_rfl)
    (of_decide_eq_true (by kernel_rfl)) (by unfold Func.isWrapper; first | (rw [if_pos (by decide +kernel)]; kernel_rfl) | (rw [if_neg (by decide +kernel)]; exact ⟨rfl, rfl⟩))
    (fun os started H enc _ => lifted os started H enc)
theorem proved : Rows.HallLessSaid := over
#print axioms proved
end Go.Proofs.YtclcciajmfocmaaGreat.hallLess
namespace Go.Proofs.YtclcciajmfocmaaGreat
/-- The row, under a short name, for the claim. -/
theorem hallLess_holds : Rows.HallLessSaid := hallLess.proved
end Go.Proofs.YtclcciajmfocmaaGreat
