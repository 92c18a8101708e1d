/- A law's call, out of what the evaluator answers. -/
import Derived.Test.YtdaalannljjkjaaGreatEnt
import Derived.Below
import Derived.Carry
import Derived.WideShapes
import Derived.OpenShut
set_option linter.unusedVariables false
set_option linter.unusedSimpArgs false
namespace Go.PV
open Go.WideShapes Go.RowKit
variable {P : Program}

def tyA (P : Program) (n : Nat) : List TypeId → Option (List (Bool × List CT))
  | [] => some []
  | t :: ts => match tyCs P n t, tyA P n ts with
    | some c, some l => some ((isTy P t (fun d => d.isRow), c) :: l)
    | _, _ => none

def OkA : List (Bool × List CT) → List R → Prop
  | [], xs => xs = []
  | (ag, c) :: l, xs => ∃ x xt cs, xs = x :: xt ∧ OkCs c cs ∧ (match ag with | true => x = .agg cs | false => [x] = cs) ∧ OkA l xt

section
variable {H : Type} {enc : TypeId × Value → H} {w : World} {base b0 : Nat} {spare : Nat → Bool} {held : Bool} {r : Reach}

theorem arg_R {n : Nat} {t : TypeId} {cts : List CT} (ht : tyCs P n t = some cts) {v : Value} (hv : Value.okWide P w r b0 t v) {d : DataW H} {ps : List MemPlace} (h : DataW.Trod enc P w base spare held t v d ps) :
    ∃ x cs, OkCs cts cs ∧ (match isTy P t (fun d => d.isRow) with | true => x = R.agg cs | false => [x] = cs) ∧ RRel fb0 w x v := by
  obtain ⟨fuel, hf⟩ := h
  obtain ⟨rs, h1, h2⟩ := trod_R n t cts ht _ _ _ hf
  have row : ∀ cs, v = .agg cs → isTy P t (fun d => d.isRow) = true → ∃ x cs, OkCs cts cs ∧ (match isTy P t (fun d => d.isRow) with | true => x = R.agg cs | false => [x] = cs) ∧ RRel fb0 w x v := fun cs hc hrow => by
    subst hc
    rw [hrow]
    refine ⟨.agg rs, rs, h1, rfl, ?_⟩
    have h2 : Rs w rs cs.toList := h2
    have := RRel.agg (fb := fb0) (w := w) rs cs.toList h2.1 h2.2
    simpa using this
  have one : isTy P t (fun d => d.isRow) = false → v.cells.toList = [v] → ∃ x cs, OkCs cts cs ∧ (match isTy P t (fun d => d.isRow) with | true => x = R.agg cs | false => [x] = cs) ∧ RRel fb0 w x v := fun hrow hc => by
    rw [hrow]
    rw [hc] at h2
    have hl := h2.1.1
    match rs, h1, h2, hl with
    | [x], h1, h2, _ => exact ⟨x, [x], h1, rfl, h2.2 0 x v rfl rfl⟩
  unfold Value.okWide at hv
  cases n with
  | zero => cases ht
  | succ n =>
    rw [tyCs] at ht
    split at ht
    · rename_i hu; rw [hu] at hv
      obtain ⟨b, rfl⟩ := okWide_bool (w := w) (r := r) (base := b0) hu (by unfold Value.okWide; rw [hu]; exact hv)
      exact one (by simp [isTy, hu, TypeDesc.isRow]) rfl
    · rename_i k hu; rw [hu] at hv
      obtain ⟨b, rfl⟩ := okWide_int (w := w) (r := r) (base := b0) hu (by unfold Value.okWide; rw [hu]; exact hv)
      exact one (by simp [isTy, hu, TypeDesc.isRow]) rfl
    · rename_i hu; rw [hu] at hv
      obtain ⟨b, rfl⟩ := okWide_string (w := w) (r := r) (base := b0) hu (by unfold Value.okWide; rw [hu]; exact hv)
      exact one (by simp [isTy, hu, TypeDesc.isRow]) rfl
    · rename_i e hu; rw [hu] at hv
      obtain ⟨a, l, c, rfl⟩ := okWide_slice (w := w) (r := r) (base := b0) hu (by unfold Value.okWide; rw [hu]; exact hv)
      exact one (by simp [isTy, hu, TypeDesc.isRow]) rfl
    · rename_i fs hu; rw [hu] at hv
      obtain ⟨cs, hc, _⟩ := hv
      exact row cs hc (by simp [isTy, hu, TypeDesc.isRow])
    · rename_i m e hu; rw [hu] at hv
      obtain ⟨cs, hc, _⟩ := hv
      exact row cs hc (by simp [isTy, hu, TypeDesc.isRow])
    · cases ht

theorem args_R {n : Nat} : ∀ {ts : List TypeId} {As : List (Bool × List CT)} {args : List Value} {ds : List (DataW H)} {ps : List MemPlace}, tyA P n ts = some As →
    (∀ (j : Nat) t v, ts[j]? = some t → args[j]? = some v → Value.okWide P w r b0 t v) → DataW.TrodAll enc P w base spare held ts args ds ps →
    ∃ xs, OkA As xs ∧ xs.length = args.length ∧ ∀ (i : Nat) (c : R) (v : Value), xs[i]? = some c → args[i]? = some v → RRel fb0 w c v
  | [], As, args, ds, ps, ht, hv, h => by
    cases ht
    obtain ⟨rfl, _, _⟩ := ChangeShapes.trodAll_nil h
    exact ⟨[], rfl, rfl, by simp⟩
  | t :: ts, As, args, ds, ps, ht, hv, h => by
    obtain ⟨v, vs, d, ds', p, q, rfl, rfl, rfl, h1, h2⟩ := ChangeShapes.trodAll_cons h
    simp only [tyA] at ht
    split at ht <;> try cases ht
    rename_i c l hc hl
    obtain ⟨x, cs, k1, k2, k3⟩ := arg_R hc (hv 0 t v rfl rfl) h1
    obtain ⟨xs, l1, l2, l3⟩ := args_R hl (fun j t v h1 h2 => hv (j + 1) t v (by simpa using h1) (by simpa using h2)) h2
    refine ⟨x :: xs, ⟨x, xs, cs, rfl, k1, k2, l1⟩, by simp [l2], fun i c v h3 h4 => ?_⟩
    cases i with
    | zero => simp at h3 h4; subst h3 h4; exact k3
    | succ i => exact l3 i c v (by simpa using h3) (by simpa using h4)
end

theorem hrel_empty (w : World) : HRel fb0 (fun _ => none) (lk []) w :=
  ⟨fun _ h => h.elim, fun b blk B lo h => by simp [lk] at h, fun b blk B lo h => by simp [lk] at h, fun b blk B lo h => by simp [lk] at h, fun b b' blk blk' B lo lo' h => by simp [lk] at h⟩

/-- THE CALL: it returns true and leaves all that was there. -/
theorem law_calls (hm : P.follows .mixedOrders = true) {T : Nat → Option AFun} (hT : ∀ f A, T f = some A → chkFun P (drawOk P) f A = true) {f : Nat} {ts : List TypeId} {As : List (Bool × List CT)} {n : Nat} (hts : tyA P n ts = some As)
    (hhas : ∀ xs, OkA As xs → Has T f (xs.map V.r) [] (.r (.bool true), [])) {H : Type} {enc : TypeId × Value → H} {w : World} {base b0 : Nat} {spare : Nat → Bool} {held : Bool} {r : Reach} {args : List Value} {ds : List (DataW H)} {ps : List MemPlace}
    (hv : ∀ (j : Nat) t v, ts[j]? = some t → args[j]? = some v → Value.okWide P w r b0 t v) (hA : DataW.TrodAll enc P w base spare held ts args ds ps) :
    Calls P f args.toArray w fun e w' => e = .returned (.bool true) ∧ Below w.heap.size w w' := by
  obtain ⟨xs, h1, h2, h3⟩ := args_R hts hv hA
  obtain ⟨m, hm'⟩ := hhas xs h1
  obtain ⟨_, hC⟩ := callN_sound (drawSound hm) hT m f _ _ _ _ hm'
  have nown : ∀ B, ¬ own (fun _ => none) (lk []) B := fun B ⟨b, blk, lo, hb, _⟩ => by simp [lk] at hb
  have hst : Stay fb0 (fbOf fb0 (fun _ => none) (lk [])) w w := ⟨fun B _ h => h.elim (fun h => h) fun h => (nown B h).elim, fun _ _ _ => rfl⟩
  refine (hC fb0 (fun _ => none) w args (hrel_empty w) (fun _ _ => rfl) (by simp [h2]) fun i c u hc hu => ?_).mono ?_
  · rw [List.getElem?_map] at hc
    cases hx : xs[i]? with
    | none => rw [hx] at hc; cases hc
    | some x =>
      rw [hx] at hc; cases hc
      exact .r _ _ ((h3 i x u hx hu).mono hst)
  · rintro e w' ⟨cv, μ', rfl, E⟩
    have hcv := E.val.bool_inv
    subst hcv
    exact ⟨rfl, E.evo.os, E.evo.tape, E.evo.output, E.evo.size, fun k hk => E.evo.same k hk (nown k)⟩

/-- The arguments read as they did. -/
theorem args_back {H : Type} {enc : TypeId × Value → H} (hl : laidOutB P = true) {w w' : World} (hb : Below w.heap.size w w') : ∀ {ts : List TypeId} {args : List Value} {ds : List (DataW H)} {ps : List MemPlace},
    (ts.all fun t => P.readableRec t && decide (t < P.types.size)) = true → DataW.TrodAll enc P w 0 (fun _ => true) true ts args ds ps → DataW.TrodAll enc P w' 0 (fun b => decide (b < w.heap.size)) true ts args ds ps
  | [], args, ds, ps, _, h => by
    obtain ⟨rfl, rfl, rfl⟩ := ChangeShapes.trodAll_nil h
    exact ChangeShapes.trodAll_mk0
  | t :: ts, args, ds, ps, ht, h => by
    obtain ⟨v, vs, d, ds', p, q, rfl, rfl, rfl, h1, h2⟩ := ChangeShapes.trodAll_cons h
    simp only [List.all_cons, Bool.and_eq_true, decide_eq_true_eq] at ht
    obtain ⟨⟨hr, hs⟩, ht⟩ := ht
    have lt : ∀ x ∈ p, x.block < w.heap.size := by obtain ⟨m, hm⟩ := h1; exact DataW.trod_lt m _ _ _ hm
    exact trodAll_cons_mk (Below.trod hl hr hs h1 hb lt) (args_back hl hb (by simpa using ht) h2)
end Go.PV
