/- Code. -/
import Derived.Test.YtdaalannljjkjaaGreatOpr
import Derived.LoopN
set_option linter.unusedVariables false
set_option linter.unusedSimpArgs false
namespace Go.PV
variable {P : Program}

/-- From one state of a procedure to a later one; the first k blocks are the caller's. -/
structure Goes (k : Nat) (F : Nat → Prop) (μ : Mu) (h : Heap) (a : Act) (w : World) (μ' : Mu) (h' : Heap) (a' : Act) (w' : World) : Prop where
  evo : Evo (fun b => b < k) F μ (lk h) w μ' (lk h') w'
  keep : ∀ b, b < k → μ' b = μ b
  len : k ≤ h'.length
  defers : a'.defers = a.defers

section
variable {F : Nat → Prop} {μ : Mu} {w w' : World} {a a' : Act} {k : Nat}

theorem Goes.trans {μ' μ'' : Mu} {h h' h'' : Heap} {a'' : Act} {w'' : World} (x : Goes k F μ h a w μ' h' a' w') (y : Goes k F μ' h' a' w' μ'' h'' a'' w'') : Goes k F μ h a w μ'' h'' a'' w'' :=
  ⟨x.evo.trans y.evo, fun b hb => (y.keep b hb).trans (x.keep b hb), y.len, y.defers.trans x.defers⟩

theorem Goes.refl {h : Heap} (hk : k ≤ h.length) : Goes k F μ h a w μ h a w :=
  ⟨Evo.refl _ _ _ _ _ fun b blk _ _ => by cases blk <;> simp [Blk.live], fun _ _ => rfl, hk, rfl⟩

theorem Ends.goes {h h' : Heap} {μ' : Mu} {v : V} {cv : Value} {d : Option Nat} (hk : k ≤ h.length) (E : Ends F μ h w μ' h' w' v cv) : Goes k F μ h a w μ' h' (a.put d cv) w' :=
  ⟨E.evo.weaken fun _ _ => trivial, fun b hb => E.keep b (by omega), Nat.le_trans hk E.len, by cases d <;> rfl⟩

theorem Ends.sr {fr : List V} {h h' : Heap} {μ' : Mu} {v : V} {cv : Value} {d : Option Nat} (S : SR F μ fr h a w) (E : Ends F μ h w μ' h' w' v cv) : SR F μ' (putF fr d v) h' (a.put d cv) w' :=
  ⟨E.hrel, (S.frel.evo E.evo).put E.val, E.none⟩

theorem skip_rel {fb : Nat → Prop} {g : Lk} : VRel fb μ g w (.tup []) undef := .tup [] [] rfl (by simp)

def chkOper (P : Program) (ops : Array Oper) (o : AOper) : Bool :=
  match ops[o.ix]? with
  | some q => q.dst == o.dst && chkA P q.op o.op && chkGuard ops q o.guard
  | none => false

theorem wpOp_some {ops : Array Oper} {i : Nat} {q : Oper} {K : Act → World → Prop} {Q : Exit → Act → World → Prop} (hq : ops[i]? = some q) (hw : Region.wanted q (yielded ops a.tmps) = true) (h : q.wp P a w K Q) : wpOp P ops Q i K a w := by
  simp only [wpOp, hq, hw, if_true]
  exact .inl h
theorem wpOp_not {ops : Array Oper} {i : Nat} {q : Oper} {K : Act → World → Prop} {Q : Exit → Act → World → Prop} (hq : ops[i]? = some q) (hw : Region.wanted q (yielded ops a.tmps) = false) (h : K (a.put q.dst undef) w) : wpOp P ops Q i K a w := by
  simp only [wpOp, hq, hw]
  exact h

/-- One operation, wanted or not. -/
theorem step_sound {Γ : CallF} (hΓ : Sound P Γ) {ops : Array Oper} {o : AOper} (hc : chkOper P ops o = true) {kn : RDen} {s s' : RSt} (S : SR F μ s.fr s.h a w) (hk : k ≤ s.h.length) (hr : stepOp Γ o kn s = some s')
    {K : Act → World → Prop} {Q : Exit → Act → World → Prop} (hK : ∀ s1 μ' a' w', kn s1 = some s' → SR F μ' s1.fr s1.h a' w' → Goes k F μ s.h a w μ' s1.h a' w' → K a' w') : wpOp P ops Q o.ix K a w := by
  obtain ⟨ix, d, op, after, gd⟩ := o
  unfold chkOper at hc
  simp only at hc
  split at hc <;> try cases hc
  rename_i q hq
  simp only [Bool.and_eq_true] at hc
  obtain ⟨⟨hd, hop⟩, hg⟩ := hc
  have hd : q.dst = d := by simpa using hd
  have yes : Region.wanted q (yielded ops a.tmps) = true → afterOp d kn (runOp Γ op s) = some s' → wpOp P ops Q ix K a w := fun hw hr => by
    unfold afterOp at hr
    split at hr <;> try cases hr
    rename_i v s2 hrun
    obtain ⟨fr2, h2, segs, lds, nws⟩ := s2
    simp only [withV_eq, withH_eq, putK_eq] at hr
    refine wpOp_some hq hw ?_
    obtain ⟨hfr, hwp⟩ := runOp_sound hΓ S hop hrun (K := K) (Q := Q) fun μ' cv w' E => by
      rw [hd]
      have hfr : fr2 = s.fr := (runOp_sound hΓ S hop hrun (K := fun _ _ => True) (Q := Q) fun _ _ _ _ => trivial).1
      subst hfr
      exact hK _ μ' _ w' hr (E.sr S) (E.goes hk)
    exact hwp
  have no : Region.wanted q (yielded ops a.tmps) = false → skipOp op.isC d kn s = some s' → wpOp P ops Q ix K a w := fun hw hr => by
    unfold skipOp at hr
    rw [putK_eq] at hr
    refine wpOp_not hq hw ?_
    rw [hd]
    exact hK _ μ _ w hr ⟨S.hrel, S.frel.put skip_rel, S.none⟩ (Ends.goes (v := .tup []) hk (ends_same S.hrel S.none skip_rel))
  unfold stepOp at hr
  simp only at hr
  split at hr
  · exact yes (guard_sound S.frel hg rfl) hr
  · rename_i t wv
    unfold guardOp at hr
    split at hr
    · rename_i b hb
      have hgb : guardB s.fr (some (t, wv)) = some (b == wv) := by simp [guardB, hb]
      have hw := guard_sound S.frel hg hgb
      split at hr
      · rename_i hbw; rw [hbw] at hw; exact yes hw hr
      · rename_i hbw; rw [hbw] at hw; exact no hw hr
    · rename_i hb
      have hgb : guardB s.fr (some (t, wv)) = some false := by simp [guardB, hb]
      exact no (guard_sound S.frel hg hgb) hr
    · cases hr

theorem runOps_cons (Γ : CallF) (o : AOper) (l : List AOper) : runOps Γ (o :: l) = stepOp Γ o (runOps Γ l) := rfl

/-- Operations one after another. -/
theorem runOps_sound {Γ : CallF} (hΓ : Sound P Γ) {ops : Array Oper} {Q : Exit → Act → World → Prop} : ∀ (l : List AOper) (s s' : RSt) (μ : Mu) (a : Act) (w : World), (l.all (chkOper P ops) = true) → SR F μ s.fr s.h a w → k ≤ s.h.length → runOps Γ l s = some s' →
    (∀ μ' a' w', SR F μ' s'.fr s'.h a' w' → Goes k F μ s.h a w μ' s'.h a' w' → Q .normal a' w') → wpOps P ops Q (l.map (·.ix)) a w
  | [], s, s', μ, a, w, _, S, hk, hr, hQ => by
    have : s = s' := Option.some.inj hr
    subst this
    exact hQ μ a w S (.refl hk)
  | o :: l, s, s', μ, a, w, hc, S, hk, hr, hQ => by
    rw [List.all_cons, Bool.and_eq_true] at hc
    rw [runOps_cons] at hr
    rw [List.map_cons, wpOps_cons]
    exact step_sound hΓ hc.1 S hk hr fun s1 μ1 a1 w1 h1 S1 G1 => runOps_sound hΓ l s1 s' μ1 a1 w1 hc.2 S1 G1.len h1 fun μ' a' w' S' G' => hQ μ' a' w' S' (G1.trans G')

def exitOf : Out → Exit
  | .normal => .normal
  | .exit id => .exit id
  | .ret => .ret

/-- The evaluator's code is the program's. (Regions that draw: chkDraw.) -/
def chkCode (P : Program) (drawOk : Array Oper → List AOper → Bool) : ACode → Code → Bool
  | .skip, c => match c with | .skip => true | .label _ => true | _ => false
  | .region draw l, c => match c with
    | .region _ ops d => d == draw && (match draw with
      | false => decide (l.map (·.ix) = List.range ops.size) && l.all (chkOper P ops)
      | true => drawOk ops l)
    | _ => false
  | .seq x y, c => match c with | .seq p q => chkCode P drawOk x p && chkCode P drawOk y q | _ => false
  | .cond t x y, c => match c with | .cond b p q => chkOprd b t && chkCode P drawOk x p && chkCode P drawOk y q | _ => false
  | .block id x, c => match c with | .block id' p => id == id' && chkCode P drawOk x p | _ => false
  | .loop _ x, c => match c with | .loop p => chkCode P drawOk x p | _ => false
  | .exit id, c => match c with | .exit id' => id == id' | _ => false
  | .ret, c => match c with | .ret => true | _ => false
  | .hint _ x, c => chkCode P drawOk x c

theorem mask_len : ∀ (m : List Bool) (l : List V), (maskF m l).length = l.length
  | true :: m, v :: t => by simp [maskF, mask_len m t]
  | false :: m, v :: t => by simp [maskF, mask_len m t]
  | [], t => by cases t <;> simp [maskF]
  | _ :: _, [] => by simp [maskF]

theorem mask_get : ∀ (m : List Bool) (l : List V) (i : Nat) (c : V), (maskF m l)[i]? = some c → l[i]? = some c ∨ c = .junk
  | true :: m, v :: t, 0, c, h => by simp [maskF] at h; simp [h]
  | true :: m, v :: t, i + 1, c, h => by simp [maskF] at h; simpa using mask_get m t i c h
  | false :: m, v :: t, 0, c, h => by simp [maskF] at h; simp [h]
  | false :: m, v :: t, i + 1, c, h => by simp [maskF] at h; simpa using mask_get m t i c h
  | [], t, i, c, h => by
    have : (maskF [] t) = t.map fun _ => V.junk := by cases t <;> rfl
    rw [this, List.getElem?_map] at h
    cases hq : t[i]? with
    | none => rw [hq] at h; cases h
    | some q => rw [hq] at h; cases h; exact .inr rfl
  | _ :: _, [], i, c, h => by simp [maskF] at h

theorem FrRel.list {fb : Nat → Prop} {g : Lk} {fr : List V} {tm : Array Value} (h : FrRel fb μ g w fr tm) : ∀ (i : Nat) (c : V) (v : Value), fr[i]? = some c → tm.toList[i]? = some v → VRel fb μ g w c v := by
  intro i c v h1 h2
  have := h.val i
  rw [nthV_eq, List.getD, h1] at this
  rw [Array.getElem?_toList] at h2
  simpa [Array.getD_eq_getD_getElem?, h2] using this

theorem FrRel.of_list {fb : Nat → Prop} {g : Lk} {fr : List V} {tm : Array Value} (hl : fr.length = tm.size) (h : ∀ (i : Nat) (c : V) (v : Value), fr[i]? = some c → tm.toList[i]? = some v → VRel fb μ g w c v) : FrRel fb μ g w fr tm := by
  refine ⟨hl, fun t => ?_⟩
  rw [nthV_eq]
  by_cases ht : t < fr.length
  · have h1 : fr[t]? = some fr[t] := List.getElem?_eq_getElem ht
    have h2 : tm.toList[t]? = some (tm.toList[t]'(by simp; omega)) := List.getElem?_eq_getElem _
    have := h t _ _ h1 h2
    rw [List.getD, h1, Array.getD_eq_getD_getElem?, ← Array.getElem?_toList, h2]
    exact this
  · rw [List.getD, List.getElem?_eq_none (by omega)]
    exact .junk _

theorem canon_sound {live : List Bool} {s s1 : St} (S : SR F μ s.fr s.h a w) (hk : k ≤ s.h.length) (hc : canon k live s = some s1) : ∃ μ', SR F μ' s1.fr s1.h a w ∧ Goes k F μ s.h a w μ' s1.h a w := by
  unfold canon at hc
  simp only at hc
  split at hc <;> try cases hc
  rename_i fr2 h2 hr
  simp only [withVL_eq, withH_eq] at hc
  cases hc
  have hR := rename_spec hr
  have hn := keepOf_nodup s.h k (maskF live s.fr)
  have hget : ∀ b, b < k → (keepOf s.h k (maskF live s.fr))[b]? = some b := fun b hb => keepOf_get hb
  generalize keepOf s.h k (maskF live s.fr) = ids at *
  obtain ⟨H', hfb⟩ := hR.hrel (F' := F) hn S.hrel fun B hB => .inl hB
  have hmask : ∀ (i : Nat) (c : V) (v : Value), (maskF live s.fr)[i]? = some c → a.tmps.toList[i]? = some v → VRel (fbOf F μ (lk s.h)) μ (lk s.h) w c v := fun i c v h1 h2 => by
    rcases mask_get _ _ i c h1 with h | rfl
    · exact S.frel.list i c v h h2
    · exact .junk _
  refine ⟨muOf μ ids, ⟨H', FrRel.of_list ?_ (hR.vals hfb hmask), fun b hb => ?_⟩, hR.evo hn hget, fun b hb => ?_, ?_, rfl⟩
  · rw [hR.vlen, mask_len]; exact S.frel.len
  · simp only at hb; rw [hR.len] at hb; simp [muOf, List.getElem?_eq_none hb]
  · simp [muOf, hget b hb]
  · simp only; rw [hR.len]
    by_cases hk0 : k = 0
    · omega
    · have := (List.getElem?_eq_some_iff.1 (hget (k - 1) (by omega))).1
      omega
end
end Go.PV
