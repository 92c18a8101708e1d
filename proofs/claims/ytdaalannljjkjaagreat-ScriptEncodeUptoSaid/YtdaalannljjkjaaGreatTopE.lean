/- ScriptEncode: what is encoded is decoded to the same list, and the law's own encoding agrees, where what comes in is of bulk at most 1048576. -/
import Derived.Test.YtdaalannljjkjaaGreatLaw
import Derived.Test.YtdaalannljjkjaaGreatFOk
import Derived.Test.YtdaalannljjkjaaGreatAw
import Derived.Test.YtdaalannljjkjaaGreatWalkC
import Derived.Test.YtdaalannljjkjaaGreatRows
import Derived.WalkKit
import Derived.ProofKit
import Derived.OpenShut
import Derived.ShutString
import Derived.ChangeOld
import Derived.Below
import Derived.JoinedCond
import Derived.SizedLaws
set_option maxRecDepth 100000
set_option linter.unusedVariables false
namespace Go.Proofs.YtdaalannljjkjaaGreat.ScrEnc
open Go Go.PV Go.ChangeShapes Go.WideShapes Go.ChangeAt Go.RowKit

theorem tyArgs : tyA Tryz.prog 20 Tryz.f4.params.toList = some [(false, [.sl 1 false [.sl 1 false [.int .u8]]])] := by kernel_rfl
theorem under23 : Tryz.prog.underlying 23 = some (.slice 22) := by kernel_rfl
theorem under22 : Tryz.prog.underlying 22 = some (.slice 5) := by kernel_rfl
theorem cells22 : Tryz.prog.cellsOf 22 = 1 := by kernel_rfl
theorem cells7 : Tryz.prog.cellsOf 5 = 1 := by kernel_rfl
theorem flat23 : FlatT Tryz.prog 23 (.sl 1 false [.sl 1 false [.int .u8]]) := .sl under23 cells22 (.sl under22 cells7 .int)

theorem one_le {H : Type} (d : DataW H) : 1 ≤ Rows.uptoBulk d := by
  cases d with
  | lit l => cases l <;> simp [Rows.uptoBulk]
  | nil => simp [Rows.uptoBulk]
  | ptr d => simp [Rows.uptoBulk]
  | slice elems spare => simp [Rows.uptoBulk]
  | agg parts => simp [Rows.uptoBulk]
  | iface t d => simp [Rows.uptoBulk]
  | map entries => simp [Rows.uptoBulk]
  | held h => simp [Rows.uptoBulk]
theorem sum_eq {H : Type} (l : List (DataW H)) : (l.map Rows.uptoBulk).sum = Rows.uptoBulkAll l := by
  induction l with
  | nil => simp [Rows.uptoBulkAll]
  | cons x r ih => simp only [List.map_cons, List.sum_cons, Rows.uptoBulkAll, ih]
theorem slice_le {H : Type} (e s : List (DataW H)) : (e.map Rows.uptoBulk).sum + 1 ≤ Rows.uptoBulk (.slice e s) := by
  rw [sum_eq]; simp only [Rows.uptoBulk]; omega

theorem has (l : List (List UInt8)) (h : sumL l ≤ 1048576) : Has F 4 [.r (.sl 1 .any (lst l))] [] (.r (.bool true), []) := by
  refine callW_has (T := [awe212]) (chkAll_dst F_ok) (oks_cons ?_ oks_nil) ?_
  · exact awp212
  · exact w4 (by rfl) (callW_tab rfl) .any l (by omega)

theorem own : ownKnob Tryz.prog.godebug = none := by kernel_rfl
theorem laidOut : laidOutB Tryz.prog = true := by kernel_rfl
theorem mixed : Tryz.prog.follows .mixedOrders = true := by kernel_rfl

theorem lifted (os : Os) (started : os.Started) (H : Type) (enc : TypeId × Value → H) (I : Stop.Interp) :
    ReturnsInHanded {} Tryz.checked os 4 .any ((Rows.OpenSpec.upto Rows.scriptEncodeSpec).pre6 enc Tryz.prog Tryz.f4 Rows.scriptEncodeUptoRow.domain false) (((Rows.OpenSpec.upto Rows.scriptEncodeSpec).at I).post enc Tryz.prog Tryz.f4 false true false false) := by
  refine returnsInHanded_of_cond (C := Tryz.checked) (s := Rows.OpenSpec.upto Rows.scriptEncodeSpec) (k := Rows.uptoSmall) rfl own started (by kernel_rfl) Tryz.func4
    (OpenSpec.witness (enc := enc) (C := Tryz.checked) (s := Rows.OpenSpec.upto Rows.scriptEncodeSpec) (k := Rows.uptoSmall) rfl false ⟨#[], #[.slice none 0 0], []⟩ 8 (by kernel_rfl) (by kernel_rfl) (by kernel_rfl)
      (x := ([.nil], [], [])) (by kernel_rfl) rfl (by kernel_rfl)) ?_
  intro W base args ds gs before hval0 hW _ hk _
  have hval : ∀ (j : Nat) t v, Tryz.f4.params.toList[j]? = some t → args.toList[j]? = some v → Value.okWide Tryz.prog W .any base t v := fun j t v h1 h2 => hval0 j t v (by simpa using h1) (by simpa using h2)
  have hW' := hW
  obtain ⟨p, q, hA, hV, rfl, hfz, hnd⟩ := hW
  obtain ⟨rfl, rfl⟩ := trodVars_none hV
  have hA1 := hA
  have hp : Tryz.f4.params.toList = [23] := by kernel_rfl
  rw [hp] at hA1
  obtain ⟨v0, vs0, d0, ds0, p0, q0, hargs, rfl, rfl, h0, r0⟩ := trodAll_cons hA1
  obtain ⟨rfl, rfl, rfl⟩ := trodAll_nil r0
  have hb : Rows.uptoBulkAll ([d0] ++ []) ≤ 1048576 := of_decide_eq_true hk
  simp only [List.append_nil, Rows.uptoBulkAll] at hb
  refine (law_callsB mixed (chkAll_fun F_ok) tyArgs (fun xs hx hr => ?_) hval hA).mono fun e W' ⟨he, bel⟩ => ?_
  · obtain ⟨x, xt, cs, rfl, h1, h2, h3⟩ := hx
    rw [OkA] at h3
    subst h3
    simp only at h2
    subst h2
    rw [OkCs] at h1
    obtain ⟨y, yt, hy, h1, -⟩ := h1
    cases hy
    obtain ⟨l, rfl⟩ := okc_lst h1
    have hrel := hr 0 _ v0 rfl (by rw [hargs]; rfl)
    obtain ⟨a, cap, B, o, cv, hv0, -⟩ := hrel.sl_inv
    obtain ⟨fuel, hf⟩ := h0
    have hcells : v0.cells.toList = [v0] := by rw [hv0]; rfl
    rw [hcells] at hf
    have hbk := bulk_R Rows.uptoBulk one_le slice_le flat23 fuel v0 _ d0 p0 hf h1 hrel
    rw [R.bk, bk_lst] at hbk
    exact has l (by omega)
  · subst he
    exact ⟨_, rfl, _, _, _, [], _, [], hW', trodAll_mk1 (shut_bool (by kernel_rfl) _), args_back laidOut bel (by kernel_rfl) hA, rfl, bel.frame _, fun h => by cases h⟩

theorem over : Rows.scriptEncodeUptoRow.holds Tryz.pinned (Rows.OpenSpec.upto Rows.scriptEncodeSpec) :=
  OpenClaim.holds_of_cond 4 Tryz.f4 rfl rfl rfl rfl rfl rfl rfl ⟨rfl, rfl, rfl, rfl, rfl⟩ rfl rfl rfl rfl rfl (by kernel_rfl) Tryz.func4 (by kernel_rfl)
    (of_decide_eq_true (by kernel_rfl)) (by unfold Func.isWrapper; first | (rw [if_pos (by decide +kernel)]; kernel_rfl) | (rw [if_neg (by decide +kernel)]; exact ⟨rfl, rfl⟩))
    (fun os started H enc _ I => lifted os started H enc I)
end Go.Proofs.YtdaalannljjkjaaGreat.ScrEnc
namespace Go.Proofs.YtdaalannljjkjaaGreat
theorem scriptEncode_holds : Rows.ScriptEncodeUptoSaid := ScrEnc.over
#print axioms scriptEncode_holds
end Go.Proofs.YtdaalannljjkjaaGreat
