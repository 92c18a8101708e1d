/- The bound of a reading, told of the evaluator's value: slices of slices of numbers. -/
import Derived.Test.YtdaalannljjkjaaGreatLaw
set_option linter.unusedVariables false
namespace Go.PV
open Go.WideShapes Go.RowKit
variable {P : Program}

/-- A type of slices, down to a number. -/
inductive FlatT (P : Program) : TypeId → CT → Prop
  | int {t : TypeId} {k : IntKind} : FlatT P t (.int k)
  | sl {t e : TypeId} {c : CT} (h : P.underlying t = some (.slice e)) (hc : P.cellsOf e = 1) (he : FlatT P e c) : FlatT P t (.sl 1 false [c])

mutual
def R.bk : R → Nat
  | .sl _ _ xs => R.bkL xs + 1
  | _ => 1
def R.bkL : List R → Nat
  | [] => 0
  | x :: t => R.bk x + R.bkL t
end

theorem RRel.sl_inv {fb : Nat → Prop} {w : World} {sz : Nat} {k : SK} {xs : List R} {v : Value} (h : RRel fb w (.sl sz k xs) v) :
    ∃ (a : Option Addr) (cap B o : Nat) (cv : Nat → Nat → Value), v = .slice a xs.length cap ∧ (0 < xs.length → a = some ⟨B, o, none⟩) ∧
      (∀ (i : Nat) (x : R) (f : Nat) (c : R), xs[i]? = some x → x.cells[f]? = some c → cellIs w ⟨B, o + i * sz + f, none⟩ (cv i f)) ∧
      (∀ (i : Nat) (x : R) (f : Nat) (c : R), xs[i]? = some x → x.cells[f]? = some c → RRel fb w c (cv i f)) := by
  cases h with
  | sl _ _ _ a cap B o cv ha _ _ _ _ _ _ _ hc hr => exact ⟨a, cap, B, o, cv, rfl, ha, hc, hr⟩

theorem bkL_le {α : Type} (μ : α → Nat) : ∀ (xs : List R) (ds : List α), xs.length = ds.length → (∀ (i : Nat) (x : R) (d : α), xs[i]? = some x → ds[i]? = some d → x.bk ≤ μ d) → R.bkL xs ≤ (ds.map μ).sum
  | [], ds, hl, h => by simp [R.bkL]
  | x :: xs, [], hl, h => by simp at hl
  | x :: xs, d :: ds, hl, h => by
    have h0 := h 0 x d rfl rfl
    have := bkL_le μ xs ds (by simpa using hl) fun i y e h1 h2 => h (i + 1) y e (by simpa using h1) (by simpa using h2)
    simp only [R.bkL, List.map_cons, List.sum_cons]
    omega

section
variable {H : Type} {enc : TypeId × Value → H} {w : World} {base : Nat} {spare : Nat → Bool} {held : Bool}
theorem bulk_R (μ : DataW H → Nat) (h1 : ∀ d, 1 ≤ μ d) (h2 : ∀ e s, (e.map μ).sum + 1 ≤ μ (.slice e s)) {t : TypeId} {c : CT} (hf : FlatT P t c) :
    ∀ (fuel : Nat) (v : Value) (x : R) (d : DataW H) (ps : List MemPlace), DataW.trod enc P w base spare held fuel t [v] = some (d, ps) → OkC c x → RRel fb0 w x v → x.bk ≤ μ d := by
  induction hf with
  | int =>
    intro fuel v x d ps _ ok _
    obtain ⟨n, rfl, _⟩ := ok
    exact h1 d
  | @sl t e c h hc he ih =>
    intro fuel v x d ps hx ok hr
    rw [OkC] at ok
    obtain ⟨xs, rfl, hlen, hel⟩ := ok
    obtain ⟨a', cap', B, o, cv, hv, ha, hcell, hrel⟩ := hr.sl_inv
    rcases DataW.trod_slice h hx with ⟨e1, e2⟩ | ⟨a, len, cap, elems, rest, m, _, e1, e2, hb, hlc, hm, hlen', hel', _, _⟩
    · cases e1
      simp only [Value.slice.injEq] at hv
      have hxs : xs = [] := List.length_eq_zero_iff.1 hv.2.1.symm
      subst hxs
      exact h1 d
    · simp only [List.cons.injEq, and_true] at e1
      subst e1
      simp only [Value.slice.injEq] at hv
      obtain ⟨hva, hvl, -⟩ := hv
      cases e2
      rw [R.bk]
      have key := bkL_le μ xs (elems.map (·.1)) (by simp; omega) fun i y dd hy hd => by
        rw [List.getElem?_map] at hd
        obtain ⟨q, hq, rfl⟩ := Option.map_eq_some_iff.1 hd
        have hi := (List.getElem?_eq_some_iff.1 hy).1
        have hai := ha (by omega)
        rw [← hva] at hai
        cases hai
        obtain ⟨cs, k1, k2, k3⟩ := hel y (List.mem_of_getElem? hy)
        simp only at k3
        subst k3
        rw [OkCs] at k1
        obtain ⟨r, rt, hrr, kc, -⟩ := k1
        cases hrr
        have hy0 : y.cells[0]? = some y := by rw [k2]; rfl
        have hcl := hcell i y 0 y hy hy0
        have hrl := hrel i y 0 y hy hy0
        have hread := hel' i (by omega)
        rw [hq] at hread
        obtain ⟨vs, hvs, htr⟩ := Option.bind_eq_some_iff.1 hread
        unfold World.cells? at hvs
        split at hvs <;> try cases hvs
        rw [hc] at hvs
        have hone : vs = [cv i 0] := by
          have hl := (mapM_get hvs).1
          have hg := (mapM_get hvs).2 0 0 (by simp)
          rw [Addr.add_lit, Addr.add_lit] at hg
          have hh := hcl.1
          rw [show o + i * 1 + 0 = o + i * 1 + 0 from rfl] at hh
          rw [hh] at hg
          rw [List.length_range] at hl
          match vs, hl, hg with
          | [u], _, hg => simp at hg; rw [hg]
        subst hone
        exact ih _ _ _ _ _ htr kc hrl
      have := h2 (elems.map (·.1)) (rest.map (·.1))
      omega

theorem law_callsB (hm : P.follows .mixedOrders = true) {T : Nat → Option AFun} (hT : ∀ f A, T f = some A → chkFun P (drawOk P) f A = true) {f : Nat} {ts : List TypeId} {As : List (Bool × List CT)} {n : Nat} (hts : tyA P n ts = some As)
    {w : World} {base b0 : Nat} {spare : Nat → Bool} {held : Bool} {r : Reach} {args : List Value} {ds : List (DataW H)} {ps : List MemPlace}
    (hhas : ∀ xs, OkA As xs → (∀ (i : Nat) (c : R) (v : Value), xs[i]? = some c → args[i]? = some v → RRel fb0 w c v) → Has T f (xs.map V.r) [] (.r (.bool true), []))
    (hv : ∀ (j : Nat) t v, ts[j]? = some t → args[j]? = some v → Value.okWide P w r b0 t v) (hA : DataW.TrodAll enc P w base spare held ts args ds ps) :
    Calls P f args.toArray w fun e w' => e = .returned (.bool true) ∧ Below w.heap.size w w' := by
  obtain ⟨xs, h1, h2, h3⟩ := args_R hts hv hA
  obtain ⟨m, hm'⟩ := hhas xs h1 h3
  obtain ⟨_, hC⟩ := callN_sound (drawSound hm) hT m f _ _ _ _ hm'
  have nown : ∀ B, ¬ own (fun _ => none) (lk []) B := fun B ⟨b, blk, lo, hb, _⟩ => by simp [lk] at hb
  have hst : Stay fb0 (fbOf fb0 (fun _ => none) (lk [])) w w := ⟨fun B _ h => h.elim (fun h => h) fun h => (nown B h).elim, fun _ _ _ => rfl⟩
  refine (hC fb0 (fun _ => none) w args (hrel_empty w) (fun _ _ => rfl) (by simp [h2]) fun i c u hc hu => ?_).mono ?_
  · rw [List.getElem?_map] at hc
    cases hx : xs[i]? with
    | none => rw [hx] at hc; cases hc
    | some x =>
      rw [hx] at hc; cases hc
      exact .r _ _ ((h3 i x u hx hu).mono hst)
  · rintro e w' ⟨cv, μ', rfl, E⟩
    have hcv := E.val.bool_inv
    subst hcv
    exact ⟨rfl, E.evo.os, E.evo.tape, E.evo.output, E.evo.size, fun k hk => E.evo.same k hk (nown k)⟩
end
end Go.PV
