/- The row of StreamApart: for every input the law returns true and leaves its arguments as they were. Conditions: those of the given row. -/
import Derived.Test.YtnjalbgcmgmmeaaRows
import Derived.Test.YtnjalbgcmgmmeaaWalkA
import Derived.WalkKit
import Derived.ProofKit
import Derived.OpenShut
import Derived.ShutString
import Derived.ChangeOld
import Derived.Below
import Derived.SizedLaws
namespace Go.Proofs.Ytnjalbgcmgmmeaa.streamApart
open Go.ChangeShapes Go.WideShapes Go.ChangeAt Go.RowKit Sl
open Go.ChangeMaps (open_string shut_string)
theorem own : ownKnob Try.prog.godebug = none := by kernel_rfl
theorem laidOut : laidOutB Try.prog = true := by kernel_rfl
set_option maxRecDepth 100000 in
theorem lifted (os : Os) (started : os.Started) (H : Type) (enc : TypeId × Value → H) :
    ReturnsInHanded {} Try.checked os 5 .any (Rows.streamApartSpec.pre6 enc Try.prog Try.f5 Rows.streamApartRow.domain false) (Rows.streamApartSpec.post enc Try.prog Try.f5 false true false false) := by
  refine returnsInHanded_of_change_sized (C := Try.checked) own started (by kernel_rfl) Try.func5
    (ChangeSpec.witness6 (enc := enc) (C := Try.checked) false ⟨#[], #[.slice none 0 0, .string ByteArray.empty], []⟩ 8 (by kernel_rfl) (by kernel_rfl) (by kernel_rfl) (by kernel_rfl)) ?_
  intro W base args ds gs before hval0 hW hcnd hsz0 _
  have hsz : (DataW.weightsEach Try.prog (Try.f5.params.toList ++ Rows.streamApartSpec.plain.varTypes Try.prog) (ds ++ gs)).all (· ≤ reachBytes) = true := hsz0
  have hlt : ∀ m ∈ DataW.weightsEach Try.prog (Try.f5.params.toList ++ Rows.streamApartSpec.plain.varTypes Try.prog) (ds ++ gs), m ≤ 140737488351232 := fun m hm => of_decide_eq_true (List.all_eq_true.1 hsz m hm)
  have hval : ∀ (j : Nat) t v, Try.f5.params[j]? = some t → args[j]? = some v → Value.okWide Try.prog W .any base t v := hval0
  have hW' := hW
  obtain ⟨p, q, hA0, hV, rfl, hfz, hnd⟩ := hW
  have hA : DataW.TrodAll enc Try.prog W 0 (fun _ => true) true Try.f5.params.toList args.toList ds p := hA0
  rw [Try.params5] at hA hval hlt
  obtain ⟨v0, vs0, d0, ds0, p0, q0, hargs, rfl, rfl, h0, r0⟩ := trodAll_cons hA
  obtain ⟨v1, vs1, d1, ds1, p1, q1, rfl, rfl, rfl, h1, r1⟩ := trodAll_cons r0
  obtain ⟨rfl, rfl, rfl⟩ := trodAll_nil r1
  obtain rfl : args = #[v0, v1] := by cases args; simp_all
  obtain ⟨rfl, rfl⟩ := trodVars_none hV
  obtain ⟨a0, len0, cap0, rfl⟩ := okWide_slice Try.underlying22 (hval 0 22 v0 rfl rfl)
  have k0 := h0
  have lt0 : ∀ x ∈ p0, x.block < W.heap.size := by obtain ⟨m, hm⟩ := k0; exact DataW.trod_lt m _ _ _ hm
  have li0 : light Try.prog 22 d0 := light_each (i := 0) hlt rfl rfl
  obtain ⟨fuel0, hf0⟩ := h0
  obtain ⟨z0, x0, e0, y0, b0⟩ := open_script fuel0 _ _ hf0 li0
  simp [Value.cells] at e0
  subst e0
  obtain ⟨a1, rfl, rfl, rfl, y1⟩ := open_string Try.underlying9 (hval 1 9 v1 rfl rfl) h1
  have w1 : a1.size ≤ 140737488351232 := by
    have li : light Try.prog 9 (DataW.lit (H := H) (.string a1.data.toList)) := light_each (i := 1) hlt rfl rfl
    have z := li a1.data.toList.length (by simp [DataW.weights])
    simpa using z
  clear hA0 hval0 hsz0 hsz hlt
  refine (StreamApart_walk W _ x0 y0 b0 a1 w1).mono fun e W' ⟨he, bel⟩ => ?_
  subst he
  exact ⟨_, rfl, _, _, _, [], _, [], hW', trodAll_mk1 (shut_bool Try.underlying4 _), (trodAll_cons_mk (Below.trod laidOut (by kernel_rfl) (of_decide_eq_true (by kernel_rfl)) k0 bel lt0) (trodAll_cons_mk (shut_string Try.underlying9 y1) trodAll_mk0)), rfl, bel.frame _, fun h => by cases h⟩
theorem over : Rows.streamApartRow.holds Try.pinned (OpenSpec.ofChange Rows.streamApartSpec) :=
  OpenClaim.holds_of_wide 5 Try.f5 rfl rfl rfl rfl rfl rfl rfl ⟨rfl, rfl, rfl, rfl, rfl⟩ rfl rfl rfl rfl rfl (by kernel_rfl) Try.func5 (by kernel_rfl)
    (of_decide_eq_true (by kernel_rfl)) (by unfold Func.isWrapper; first | (rw [if_pos (by decide +kernel)]; kernel_rfl) | (rw [if_neg (by decide +kernel)]; exact ⟨rfl, rfl⟩))
    (fun os started H enc _ => lifted os started H enc)
theorem proved : Rows.StreamApartSaid := over
end Go.Proofs.Ytnjalbgcmgmmeaa.streamApart
namespace Go.Proofs.Ytnjalbgcmgmmeaa
theorem streamApart_holds : Rows.StreamApartSaid := streamApart.proved
#print axioms streamApart_holds
end Go.Proofs.Ytnjalbgcmgmmeaa
