/- ScriptDecode: what decodes is the encoding of what it decodes to, what doesn't is no encoding, where what comes in is of bulk at most 1048576. -/
import Derived.Test.YtdaalannljjkjaaGreatLaw
import Derived.Test.YtdaalannljjkjaaGreatFOk
import Derived.Test.YtdaalannljjkjaaGreatAw
import Derived.Test.YtdaalannljjkjaaGreatWalkC
import Derived.Test.YtdaalannljjkjaaGreatWalkD
import Derived.Test.YtdaalannljjkjaaGreatRows
import Derived.WalkKit
import Derived.ProofKit
import Derived.OpenShut
import Derived.ShutString
import Derived.ChangeOld
import Derived.Below
import Derived.JoinedCond
import Derived.SizedLaws
set_option maxRecDepth 100000
set_option linter.unusedVariables false
namespace Go.Proofs.YtdaalannljjkjaaGreat.ScrDec
open Go Go.PV Go.ChangeShapes Go.WideShapes Go.ChangeAt Go.RowKit

theorem tyArgs : tyA Tryz.prog 20 Tryz.f3.params.toList = some [(false, [.sl 1 false [.int .u8]]), (false, [.sl 1 false [.sl 1 false [.int .u8]]]), (false, [.int .i64]), (false, [.int .u8])] := by kernel_rfl
theorem under23 : Tryz.prog.underlying 23 = some (.slice 22) := by kernel_rfl
theorem under22 : Tryz.prog.underlying 22 = some (.slice 5) := by kernel_rfl
theorem cells22 : Tryz.prog.cellsOf 22 = 1 := by kernel_rfl
theorem cells7 : Tryz.prog.cellsOf 5 = 1 := by kernel_rfl
theorem flat23 : FlatT Tryz.prog 23 (.sl 1 false [.sl 1 false [.int .u8]]) := .sl under23 cells22 (.sl under22 cells7 .int)

theorem one_le {H : Type} (d : DataW H) : 1 ≤ Rows.uptoBulk d := by
  cases d with
  | lit l => cases l <;> simp [Rows.uptoBulk]
  | nil => simp [Rows.uptoBulk]
  | ptr d => simp [Rows.uptoBulk]
  | slice elems spare => simp [Rows.uptoBulk]
  | agg parts => simp [Rows.uptoBulk]
  | iface t d => simp [Rows.uptoBulk]
  | map entries => simp [Rows.uptoBulk]
  | held h => simp [Rows.uptoBulk]
theorem sum_eq {H : Type} (l : List (DataW H)) : (l.map Rows.uptoBulk).sum = Rows.uptoBulkAll l := by
  induction l with
  | nil => simp [Rows.uptoBulkAll]
  | cons x r ih => simp only [List.map_cons, List.sum_cons, Rows.uptoBulkAll, ih]
theorem slice_le {H : Type} (e s : List (DataW H)) : (e.map Rows.uptoBulk).sum + 1 ≤ Rows.uptoBulk (.slice e s) := by
  rw [sum_eq]; simp only [Rows.uptoBulk]; omega

theorem has (y : List UInt8) (l : List (List UInt8)) (h : sumL l ≤ 1048576) (a : Int) (c : UInt8) : Has F 3 [.r (.sl 1 .any (bys y)), .r (.sl 1 .any (lst l)), .r (.int .i64 a), .r (byR c)] [] (.r (.bool true), []) := by
  refine callW_has (T := [awe212]) (chkAll_dst F_ok) (oks_cons ?_ oks_nil) ?_
  · exact awp212
  · exact w3 (by rfl) (callW_tab rfl) .any y l (by omega) a c

theorem own : ownKnob Tryz.prog.godebug = none := by kernel_rfl
theorem laidOut : laidOutB Tryz.prog = true := by kernel_rfl
theorem mixed : Tryz.prog.follows .mixedOrders = true := by kernel_rfl

theorem lifted (os : Os) (started : os.Started) (H : Type) (enc : TypeId × Value → H) (I : Stop.Interp) :
    ReturnsInHanded {} Tryz.checked os 3 .any ((Rows.OpenSpec.upto Rows.scriptDecodeSpec).pre6 enc Tryz.prog Tryz.f3 Rows.scriptDecodeUptoRow.domain false) (((Rows.OpenSpec.upto Rows.scriptDecodeSpec).at I).post enc Tryz.prog Tryz.f3 false true false false) := by
  refine returnsInHanded_of_cond (C := Tryz.checked) (s := Rows.OpenSpec.upto Rows.scriptDecodeSpec) (k := Rows.uptoSmall) rfl own started (by kernel_rfl) Tryz.func3
    (OpenSpec.witness (enc := enc) (C := Tryz.checked) (s := Rows.OpenSpec.upto Rows.scriptDecodeSpec) (k := Rows.uptoSmall) rfl false ⟨#[], #[.slice none 0 0, .slice none 0 0, .int .i64 0, .int .u8 0], []⟩ 8 (by kernel_rfl) (by kernel_rfl) (by kernel_rfl)
      (x := ([.nil, .nil, .lit (.int .i64 0), .lit (.int .u8 0)], [], [])) (by kernel_rfl) rfl (by kernel_rfl)) ?_
  intro W base args ds gs before hval0 hW _ hk _
  have hval : ∀ (j : Nat) t v, Tryz.f3.params.toList[j]? = some t → args.toList[j]? = some v → Value.okWide Tryz.prog W .any base t v := fun j t v h1 h2 => hval0 j t v (by simpa using h1) (by simpa using h2)
  have hW' := hW
  obtain ⟨p, q, hA, hV, rfl, hfz, hnd⟩ := hW
  obtain ⟨rfl, rfl⟩ := trodVars_none hV
  have hA1 := hA
  have hp : Tryz.f3.params.toList = [22, 23, 3, 5] := by kernel_rfl
  rw [hp] at hA1
  obtain ⟨v0, vs0, d0, ds0, p0, q0, hargs, rfl, rfl, h0, r0⟩ := trodAll_cons hA1
  obtain ⟨v1, vs1, d1, ds1, p1, q1, rfl, rfl, rfl, h1, r1⟩ := trodAll_cons r0
  obtain ⟨v2, vs2, d2, ds2, p2, q2, rfl, rfl, rfl, h2, r2⟩ := trodAll_cons r1
  obtain ⟨v3, vs3, d3, ds3, p3, q3, rfl, rfl, rfl, h3, r3⟩ := trodAll_cons r2
  obtain ⟨rfl, rfl, rfl⟩ := trodAll_nil r3
  have hb : Rows.uptoBulkAll ([d0, d1, d2, d3] ++ []) ≤ 1048576 := of_decide_eq_true hk
  simp only [List.append_nil, Rows.uptoBulkAll] at hb
  refine (law_callsB mixed (chkAll_fun F_ok) tyArgs (fun xs hx hr => ?_) hval hA).mono fun e W' ⟨he, bel⟩ => ?_
  · obtain ⟨x, xt, cs, rfl, k1, k2, hx⟩ := hx
    obtain ⟨x', xt', cs', rfl, k1', k2', hx⟩ := hx
    obtain ⟨x2, xt2, cs2, rfl, k12, k22, hx⟩ := hx
    obtain ⟨x3, xt3, cs3, rfl, k13, k23, hx⟩ := hx
    rw [OkA] at hx
    subst hx
    simp only at k2 k2' k22 k23
    subst k2 k2' k22 k23
    rw [OkCs] at k1 k1' k12 k13
    obtain ⟨y, yt, hy, k1, -⟩ := k1
    cases hy
    obtain ⟨y, yt, hy, k1', -⟩ := k1'
    cases hy
    obtain ⟨y, yt, hy, k12, -⟩ := k12
    cases hy
    obtain ⟨y, yt, hy, k13, -⟩ := k13
    cases hy
    obtain ⟨y, rfl⟩ := okc_bys k1
    obtain ⟨l, rfl⟩ := okc_lst k1'
    obtain ⟨a, rfl, -⟩ := k12
    obtain ⟨c, rfl⟩ := okc_byte k13
    have hrel := hr 1 _ v1 rfl (by rw [hargs]; rfl)
    obtain ⟨a', cap, B, o, cv, hv1, -⟩ := hrel.sl_inv
    obtain ⟨fuel, hf⟩ := h1
    have hcells : v1.cells.toList = [v1] := by rw [hv1]; rfl
    rw [hcells] at hf
    have hbk := bulk_R Rows.uptoBulk one_le slice_le flat23 fuel v1 _ d1 p1 hf k1' hrel
    rw [R.bk, bk_lst] at hbk
    exact has y l (by omega) a c
  · subst he
    exact ⟨_, rfl, _, _, _, [], _, [], hW', trodAll_mk1 (shut_bool (by kernel_rfl) _), args_back laidOut bel (by kernel_rfl) hA, rfl, bel.frame _, fun h => by cases h⟩

theorem over : Rows.scriptDecodeUptoRow.holds Tryz.pinned (Rows.OpenSpec.upto Rows.scriptDecodeSpec) :=
  OpenClaim.holds_of_cond 3 Tryz.f3 rfl rfl rfl rfl rfl rfl rfl ⟨rfl, rfl, rfl, rfl, rfl⟩ rfl rfl rfl rfl rfl (by kernel_rfl) Tryz.func3 (by kernel_rfl)
    (of_decide_eq_true (by kernel_rfl)) (by unfold Func.isWrapper; first | (rw [if_pos (by decide +kernel)]; kernel_rfl) | (rw [if_neg (by decide +kernel)]; exact ⟨rfl, rfl⟩))
    (fun os started H enc _ I => lifted os started H enc I)
end Go.Proofs.YtdaalannljjkjaaGreat.ScrDec
namespace Go.Proofs.YtdaalannljjkjaaGreat
theorem scriptDecode_holds : Rows.ScriptDecodeUptoSaid := ScrDec.over
#print axioms scriptDecode_holds
end Go.Proofs.YtdaalannljjkjaaGreat
