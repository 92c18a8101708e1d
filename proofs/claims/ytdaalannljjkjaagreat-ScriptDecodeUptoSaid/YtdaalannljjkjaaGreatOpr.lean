/- One operation of a region, whichever. -/
import Derived.Test.YtdaalannljjkjaaGreatCall
import Derived.Test.YtdaalannljjkjaaGreatSlx
set_option linter.unusedVariables false
set_option linter.unusedSimpArgs false
namespace Go.PV
variable {P : Program}

def chkC (P : Program) (o : Op) (op : COp) (xs : List AOprd) : Bool :=
  match op with
  | .store n => chkStore P o n xs
  | .app sz eb => eb != 0 && chkApp P o sz eb xs
  | .copy sz => chkCopy P o sz xs
  | .appz sz eb z => chkAppz P o sz eb z xs
  | .call f => match o with
    | .call ⟨.value (.func g), args, _⟩ => f == g && chkOprds args.toList xs
    | _ => false
  | .callv => match o with
    | .call ⟨.value x, args, _⟩ => chkOprds (x :: args.toList) xs
    | _ => false
  | .slx sz lo hi mx => chkSlx P o sz lo hi mx xs
  | _ => false

def chkA (P : Program) (o : Op) : AOp → Bool
  | .p op xs => chkP P o op xs
  | .ld ag n x _ _ => chkL P o ag n x
  | .b2s x => chkB P o x
  | .n op xs _ _ => chkN P o op xs
  | .c op xs => chkC P o op xs
  | .bad => true

/-- The state of a procedure. -/
structure SR (F : Nat → Prop) (μ : Mu) (fr : List V) (h : Heap) (a : Act) (w : World) : Prop where
  hrel : HRel F μ (lk h) w
  frel : FrRel (fbOf F μ (lk h)) μ (lk h) w fr a.tmps
  none : ∀ b, h.length ≤ b → μ b = none

section
variable {F : Nat → Prop} {μ : Mu} {w w' : World} {a : Act}

theorem ends_of_evo {h h' : Heap} {μ' : Mu} {v : V} {cv : Value} (E : Evo All F μ (lk h) w μ' (lk h') w') (H : HRel F μ' (lk h') w') (hv : VRel (fbOf F μ' (lk h')) μ' (lk h') w' v cv) (hl : h.length ≤ h'.length)
    (hk : ∀ b, b < h.length → μ' b = μ b) (hn : ∀ b, h'.length ≤ b → μ' b = none) : Ends F μ h w μ' h' w' v cv := ⟨E, H, hv, hl, hk, hn⟩

theorem ends_same {h : Heap} {v : V} {cv : Value} (H : HRel F μ (lk h) w) (hn : ∀ b, h.length ≤ b → μ b = none) (hv : VRel (fbOf F μ (lk h)) μ (lk h) w v cv) : Ends F μ h w μ h w v cv :=
  ⟨Evo.refl _ _ _ _ _ fun b blk _ _ => by cases blk <;> simp [Blk.live], H, hv, Nat.le_refl _, fun _ _ => rfl, hn⟩

theorem upon_next {o : Oper} {K : Act → World → Prop} {Q : Exit → Act → World → Prop} {nx : Next} {cv : Value} (hrun : (execOp a.eval o).run P w = .ok nx w') (hnx : nx = .value cv ∨ (nx = .skip ∧ cv = undef)) (hK : K (a.put o.dst cv) w') : o.wp P a w K Q := by
  unfold Oper.wp
  rw [hrun]
  rcases hnx with rfl | ⟨rfl, rfl⟩
  · exact hK
  · exact hK

theorem upon_call {o : Oper} {K : Act → World → Prop} {Q : Exit → Act → World → Prop} {f : Nat} {args : Array Value} {R : Value → World → Prop} (hrun : (execOp a.eval o).run P w = .ok (.enter f args) w)
    (hcall : Calls P f args w fun e w' => ∃ cv, e = .returned cv ∧ R cv w') (hK : ∀ cv w', R cv w' → K (a.put o.dst cv) w') : o.wp P a w K Q := by
  unfold Oper.wp
  rw [hrun, Oper.upon_enter]
  refine hcall.mono ?_
  rintro e w' ⟨cv, rfl, hR⟩
  exact hK cv w' hR

theorem run_enter {f : Nat} (h : entered P f = true) (args : Array Value) (w : World) : (callFunc f args).run P w = .ok (.enter f args) w := by
  unfold entered at h
  split at h <;> try cases h
  rename_i fn hf
  simp only [Bool.and_eq_true] at h
  obtain ⟨c, hb⟩ := Option.isSome_iff_exists.1 h.2
  have h1 : fn.name ≠ "runtime.NumGoroutine" := by simpa using h.1
  simp [callFunc, hf, h1, hb]

/-- An operation that changes neither frame nor heap but by its result. -/
theorem runOp_sound {Γ : CallF} (hΓ : Sound P Γ) {s s' : RSt} (S : SR F μ s.fr s.h a w) {o : Oper} {op : AOp} {v : V} (hc : chkA P o.op op = true) (hr : runOp Γ op s = some (v, s'))
    {K : Act → World → Prop} {Q : Exit → Act → World → Prop} (hK : ∀ μ' cv w', Ends F μ s.h w μ' s'.h w' v cv → K (a.put o.dst cv) w') : s'.fr = s.fr ∧ o.wp P a w K Q := by
  cases op with
  | p op xs =>
    simp only [runOp] at hr
    split at hr <;> cases hr
    rename_i hp
    obtain ⟨cv, h1, h2⟩ := pure_sound S.frel hc hp
    exact ⟨rfl, upon_next h1 (.inl rfl) (hK μ cv w (ends_same S.hrel S.none h2))⟩
  | ld ag n x lo hi =>
    simp only [runOp] at hr
    split at hr <;> cases hr
    rename_i hp
    obtain ⟨cv, h1, h2⟩ := load_op S.hrel S.frel hc hp
    exact ⟨rfl, upon_next h1 (.inl rfl) (hK μ cv w (ends_same S.hrel S.none h2))⟩
  | b2s x =>
    simp only [runOp] at hr
    split at hr <;> try cases hr
    rename_i xs hxs
    split at hr <;> cases hr
    rename_i l hl
    obtain ⟨cv, h1, h2⟩ := b2s_op S.hrel S.frel hc hxs hl
    exact ⟨rfl, upon_next h1 (.inl rfl) (hK μ cv w (ends_same S.hrel S.none h2))⟩
  | n op xs lo hi =>
    simp only [runOp] at hr
    split at hr <;> cases hr
    rename_i blk mkv hn
    have hg : lk s.h s.h.length = none := by simp [lk]
    obtain ⟨cv, w', h1, E, H', hv⟩ := new_sound S.hrel S.frel hc hn (.inl hg) (S.none _ (Nat.le_refl _))
    refine ⟨rfl, upon_next h1 (.inl rfl) (hK (setMu μ s.h.length w.heap.size 0) cv w' ⟨?_, ?_, ?_, by simp, fun b hb => by simp [setMu, Nat.ne_of_lt hb], fun b hb => ?_⟩)⟩
    · rw [hlk_push]; exact E
    · rw [hlk_push]; exact H'
    · rw [hlk_push]; exact hv
    · simp at hb
      simp [setMu, show b ≠ s.h.length by omega, S.none b (by omega)]
  | bad => cases hr
  | c op xs =>
    simp only [runOp] at hr
    split at hr <;> cases hr
    rename_i v2 h' hp
    refine ⟨rfl, ?_⟩
    have fin : CGives P F μ s.h w a o h' v → o.wp P a w K Q := fun ⟨nx, cv, w', μ', h1, h2, E, H', hv, k1, k2, k3⟩ =>
      upon_next h1 h2 (hK μ' cv w' ⟨E, H', hv, k1, k2, k3⟩)
    cases op with
    | store n => exact fin (store_op S.hrel S.frel S.none hc hp)
    | app sz eb =>
      simp only [chkA, chkC, Bool.and_eq_true] at hc
      exact fin (app_op S.hrel S.frel S.none (by simpa using hc.1) hc.2 hp)
    | copy sz => exact fin (copy_op S.hrel S.frel S.none hc hp)
    | call f =>
      simp only [chkA, chkC] at hc
      split at hc <;> try cases hc
      rename_i g args ats hop
      simp only [Bool.and_eq_true, beq_iff_eq] at hc
      obtain ⟨rfl, hx⟩ := hc
      obtain ⟨hl, hrel⟩ := evs_rel S.frel hx
      simp only [runC] at hp
      obtain ⟨he, hC⟩ := doCall_sound hΓ f _ _ _ _ hp
      have hcalls := hC F μ w (args.toList.map a.eval) S.hrel S.none hl hrel
      have hargs : (args.toList.map a.eval).toArray = args.map a.eval := by apply Array.ext'; simp
      have hef : a.eval (Operand.func f) = .func (.func f) #[] #[] := rfl
      refine upon_call (args := args.map a.eval) (f := f) (R := fun cv w' => ∃ μ', Ends F μ s.h w μ' h' w' v cv) ?_ ?_ fun cv w' ⟨μ', hE⟩ => hK μ' cv w' hE
      · simp [execOp, hop, resolve, invoke, hef, Deferred.ofValue, run_enter he]
      · rw [← hargs]
        refine hcalls.mono ?_
        rintro e w' ⟨cv, μ', rfl, hE⟩
        exact ⟨cv, rfl, μ', hE⟩
    | callv =>
      simp only [chkA, chkC] at hc
      split at hc <;> try cases hc
      rename_i x args ats hop
      obtain ⟨y, ys, rfl, hx, hys⟩ := chkCons hc
      obtain ⟨hl, hrel⟩ := evs_rel S.frel hys
      have rx := ev_rel S.frel hx
      simp only [runC, List.map, callvC] at hp
      generalize ev s.fr y = vy at *
      generalize hcx : a.eval x = cx at rx
      have go : ∀ {f : Nat} {first caps : List Value} {as : List V}, cx = .func (.func f) first.toArray caps.toArray → doCall Γ f as s.h = some (v, h') → as.length = (first ++ args.toList.map a.eval ++ caps).length →
          (∀ (i : Nat) (c : V) (u : Value), as[i]? = some c → (first ++ args.toList.map a.eval ++ caps)[i]? = some u → VRel (fbOf F μ (lk s.h)) μ (lk s.h) w c u) → o.wp P a w K Q := fun {f first caps as} hcx' hd hlen hall => by
        obtain ⟨he, hC⟩ := doCall_sound hΓ f _ _ _ _ hd
        have hcalls := hC F μ w _ S.hrel S.none hlen hall
        refine upon_call (args := first.toArray ++ args.map a.eval ++ caps.toArray) (f := f) (R := fun cv w' => ∃ μ', Ends F μ s.h w μ' h' w' v cv) ?_ ?_ fun cv w' ⟨μ', hE⟩ => hK μ' cv w' hE
        · simp [execOp, hop, resolve, invoke, hcx, hcx', Deferred.ofValue, run_enter he]
        · have hargs : (first ++ args.toList.map a.eval ++ caps).toArray = first.toArray ++ args.map a.eval ++ caps.toArray := by apply Array.ext'; simp
          rw [← hargs]
          refine hcalls.mono ?_
          rintro e w' ⟨cv, μ', rfl, hE⟩
          exact ⟨cv, rfl, μ', hE⟩
      split at hp
      · rename_i f
        have r := rx.r_inv
        cases r
        exact go (first := []) (caps := []) rfl hp (by simpa using hl) (by simpa using hrel)
      · rename_i f af ac
        cases rx with
        | fn _ _ _ va vc ha hc' hra hrc =>
          refine go (first := va) (caps := vc) rfl hp (by simp at hl; simp [ha, hc', hl]) fun i c u h1 h2 => ?_
          have hl' : (ys.map (ev s.fr)).length = (args.toList.map a.eval).length := hl
          by_cases hi : i < af.length
          · rw [List.append_assoc, List.getElem?_append_left hi] at h1
            rw [List.append_assoc, List.getElem?_append_left (by omega)] at h2
            exact hra i c u h1 h2
          · rw [List.append_assoc, List.getElem?_append_right (by omega)] at h1
            rw [List.append_assoc, List.getElem?_append_right (by omega), ← ha] at h2
            by_cases hi2 : i - af.length < (ys.map (ev s.fr)).length
            · rw [List.getElem?_append_left hi2] at h1
              rw [List.getElem?_append_left (by omega)] at h2
              exact hrel _ c u h1 h2
            · rw [List.getElem?_append_right (by omega)] at h1
              rw [List.getElem?_append_right (by omega), ← hl'] at h2
              exact hrc _ c u h1 h2
      · cases hp
    | appz sz eb z => exact fin (appz_op S.hrel S.frel S.none hc hp)
    | clear => cases hc
    | slx sz lo hi mx => exact fin (slx_op S.hrel S.frel S.none hc hp)
    | inv => cases hc
end
end Go.PV
