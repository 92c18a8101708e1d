/- ExecutorNil: the methods of a nil machine return ErrNilReceiver or zero values, whatever the input. No condition beside the row's own. -/
import Derived.Test.YtdaalannljjkjaaGreatLaw
import Derived.Test.YtdaalannljjkjaaGreatFOk
import Derived.Test.YtdaalannljjkjaaGreatAw
import Derived.Test.YtdaalannljjkjaaGreatNil
import Derived.Test.YtdaalannljjkjaaGreatRows
import Derived.WalkKit
import Derived.ProofKit
import Derived.OpenShut
import Derived.ShutString
import Derived.ChangeOld
import Derived.Below
import Derived.SizedLaws
set_option maxRecDepth 100000
set_option linter.unusedVariables false
namespace Go.Proofs.YtdaalannljjkjaaGreat.ExecNil
open Go Go.PV Go.ChangeShapes Go.WideShapes Go.ChangeAt Go.RowKit

theorem list_getD {α : Type} (d : α) : ∀ (l : List α), l = (List.range l.length).map fun i => l.getD i d := fun l => by
  apply List.ext_getElem (by simp)
  intro i h1 h2
  simp [List.getD, h1]

/-- The kinds of a step's cells. -/
noncomputable def stepCT : List CT := (tyCs Tryz.prog 20 48).getD []
theorem stepCT_len : stepCT.length = 40 := by kernel_rfl
theorem tyArgs : tyA Tryz.prog 20 Tryz.f5.params.toList = some [(true, stepCT), (false, [.sl 1 false [.int .u8]]), (false, [.int .u64])] := by kernel_rfl

theorem has (xs : List R) (h : OkA [(true, stepCT), (false, [.sl 1 false [.int .u8]]), (false, [.int .u64])] xs) : Has F 5 (xs.map V.r) [] (.r (.bool true), []) := by
  obtain ⟨x, xt, cs, rfl, h1, rfl, h⟩ := h
  obtain ⟨y, yt, ds, rfl, h2, rfl, h⟩ := h
  obtain ⟨z, zt, es, rfl, h3, rfl, h⟩ := h
  subst h
  have hl := list_getD R.nilp cs
  rw [h1.len, stepCT_len] at hl
  have hcs : cs = [cs.getD 0 .nilp, cs.getD 1 .nilp, cs.getD 2 .nilp, cs.getD 3 .nilp, cs.getD 4 .nilp, cs.getD 5 .nilp, cs.getD 6 .nilp, cs.getD 7 .nilp, cs.getD 8 .nilp, cs.getD 9 .nilp, cs.getD 10 .nilp, cs.getD 11 .nilp, cs.getD 12 .nilp, cs.getD 13 .nilp, cs.getD 14 .nilp, cs.getD 15 .nilp, cs.getD 16 .nilp, cs.getD 17 .nilp, cs.getD 18 .nilp, cs.getD 19 .nilp, cs.getD 20 .nilp, cs.getD 21 .nilp, cs.getD 22 .nilp, cs.getD 23 .nilp, cs.getD 24 .nilp, cs.getD 25 .nilp, cs.getD 26 .nilp, cs.getD 27 .nilp, cs.getD 28 .nilp, cs.getD 29 .nilp, cs.getD 30 .nilp, cs.getD 31 .nilp, cs.getD 32 .nilp, cs.getD 33 .nilp, cs.getD 34 .nilp, cs.getD 35 .nilp, cs.getD 36 .nilp, cs.getD 37 .nilp, cs.getD 38 .nilp, cs.getD 39 .nilp] := hl
  rw [OkCs] at h2 h3
  obtain ⟨b, bt, hb, h2, -⟩ := h2
  obtain ⟨n, nt, hn, h3, -⟩ := h3
  cases hb
  cases hn
  rw [OkC] at h2
  obtain ⟨bs, rfl, -⟩ := h2
  obtain ⟨n, rfl, -⟩ := h3
  refine callW_has (T := [eAw28]) (chkAll_dst F_ok) (oks_cons ?_ oks_nil) (callW_some.2 ⟨40, ?_⟩)
  · exact awp229
  · rw [hcs]
    exact nil5 (cs.getD 0 .nilp) (cs.getD 1 .nilp) (cs.getD 2 .nilp) (cs.getD 3 .nilp) (cs.getD 4 .nilp) (cs.getD 5 .nilp) (cs.getD 6 .nilp) (cs.getD 7 .nilp) (cs.getD 8 .nilp) (cs.getD 9 .nilp) (cs.getD 10 .nilp) (cs.getD 11 .nilp) (cs.getD 12 .nilp) (cs.getD 13 .nilp) (cs.getD 14 .nilp) (cs.getD 15 .nilp) (cs.getD 16 .nilp) (cs.getD 17 .nilp) (cs.getD 18 .nilp) (cs.getD 19 .nilp) (cs.getD 20 .nilp) (cs.getD 21 .nilp) (cs.getD 22 .nilp) (cs.getD 23 .nilp) (cs.getD 24 .nilp) (cs.getD 25 .nilp) (cs.getD 26 .nilp) (cs.getD 27 .nilp) (cs.getD 28 .nilp) (cs.getD 29 .nilp) (cs.getD 30 .nilp) (cs.getD 31 .nilp) (cs.getD 32 .nilp) (cs.getD 33 .nilp) (cs.getD 34 .nilp) (cs.getD 35 .nilp) (cs.getD 36 .nilp) (cs.getD 37 .nilp) (cs.getD 38 .nilp) (cs.getD 39 .nilp) bs n

theorem own : ownKnob Tryz.prog.godebug = none := by kernel_rfl
theorem laidOut : laidOutB Tryz.prog = true := by kernel_rfl
theorem mixed : Tryz.prog.follows .mixedOrders = true := by kernel_rfl

theorem lifted (os : Os) (started : os.Started) (H : Type) (enc : TypeId × Value → H) :
    ReturnsInHanded {} Tryz.checked os 5 .any (Rows.executorNilSpec.pre6 enc Tryz.prog Tryz.f5 Rows.executorNilRow.domain false) (Rows.executorNilSpec.post enc Tryz.prog Tryz.f5 false true false false) := by
  refine returnsInHanded_of_change_sized (C := Tryz.checked) own started (by kernel_rfl) Tryz.func5
    (ChangeSpec.witness6 (enc := enc) (C := Tryz.checked) false ⟨#[], #[((Tryz.prog.info? 48).bind (·.zero)).getD (.bool false), .slice none 0 0, .int .u64 0], []⟩ 12 (by kernel_rfl) (by kernel_rfl) (by kernel_rfl) (by kernel_rfl)) ?_
  intro W base args ds gs before hval0 hW hcnd hsz0 _
  have hval : ∀ (j : Nat) t v, Tryz.f5.params.toList[j]? = some t → args.toList[j]? = some v → Value.okWide Tryz.prog W .any base t v := fun j t v h1 h2 => hval0 j t v (by simpa using h1) (by simpa using h2)
  have hW' := hW
  obtain ⟨p, q, hA, hV, rfl, hfz, hnd⟩ := hW
  obtain ⟨rfl, rfl⟩ := trodVars_none hV
  have hA1 := hA
  have hp : Tryz.f5.params.toList = [48, 22, 36] := by kernel_rfl
  rw [hp] at hA1
  obtain ⟨v0, vs0, d0, ds0, p0, q0, hargs, rfl, rfl, h0, r0⟩ := trodAll_cons hA1
  obtain ⟨v1, vs1, d1, ds1, p1, q1, rfl, rfl, rfl, h1, r1⟩ := trodAll_cons r0
  obtain ⟨v2, vs2, d2, ds2, p2, q2, rfl, rfl, rfl, h2, r2⟩ := trodAll_cons r1
  obtain ⟨rfl, rfl, rfl⟩ := trodAll_nil r2
  refine (law_calls mixed (chkAll_fun F_ok) tyArgs has hval hA).mono fun e W' ⟨he, bel⟩ => ?_
  subst he
  exact ⟨_, rfl, _, _, _, [], _, [], hW', trodAll_mk1 (shut_bool (by kernel_rfl) _), args_back laidOut bel (by kernel_rfl) hA, rfl, bel.frame _, fun h => by cases h⟩

theorem over : Rows.executorNilRow.holds Tryz.pinned (OpenSpec.ofChange Rows.executorNilSpec) :=
  OpenClaim.holds_of_wide 5 Tryz.f5 rfl rfl rfl rfl rfl rfl rfl ⟨rfl, rfl, rfl, rfl, rfl⟩ rfl rfl rfl rfl rfl (by kernel_rfl) Tryz.func5 (by kernel_rfl)
    (of_decide_eq_true (by kernel_rfl)) (by unfold Func.isWrapper; first | (rw [if_pos (by decide +kernel)]; kernel_rfl) | (rw [if_neg (by decide +kernel)]; exact ⟨rfl, rfl⟩))
    (fun os started H enc _ => lifted os started H enc)
end Go.Proofs.YtdaalannljjkjaaGreat.ExecNil
namespace Go.Proofs.YtdaalannljjkjaaGreat
theorem executorNil_holds : Rows.ExecutorNilSaid := ExecNil.over
#print axioms executorNil_holds
end Go.Proofs.YtdaalannljjkjaaGreat
