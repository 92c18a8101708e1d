/- Regions that draw: the evaluator's own run of one, operation by operation. -/
import Derived.Test.YtdaalannljjkjaaGreatExec2
import Derived.Test.YtdaalannljjkjaaGreatBeq
set_option linter.unusedVariables false
set_option linter.unusedSimpArgs false
namespace Go.PV
variable {Γ : CallF}

theorem doCall_len {f : Nat} {args : List V} {h h' : Heap} {v : V} (hr : doCall Γ f args h = some (v, h')) : h.length ≤ h'.length := by
  unfold doCall at hr
  simp only at hr
  split at hr
  · cases hr
  · simp only [withVL_eq, withH_eq] at hr
    split at hr
    · cases hr
    · split at hr
      · split at hr
        · cases hr; simp [putBlks_len]
        · cases hr
      · cases hr

theorem storeH_len {h h' : Heap} {n : Nat} {v a : V} (hr : storeH h n v a = some h') : h.length ≤ h'.length := by
  unfold storeH at hr
  repeat' split at hr
  all_goals first | cases hr; done | (cases hr; simp)

theorem appE_len {h h' : Heap} {sz eb m : Nat} {s v : V} {ex : Els} (hr : appE h sz eb s m ex = some (v, h')) : h.length ≤ h'.length := by
  unfold appE at hr
  split at hr
  · split at hr
    · split at hr
      · rename_i r hin
        cases hr
        unfold appIn at hin
        repeat' split at hin
        all_goals first | cases hin; done | (cases hin; simp)
      · cases hr
        unfold kill
        split <;> simp
    · cases hr
  · cases hr

theorem appH_len {h h' : Heap} {sz eb : Nat} {s x v : V} (hr : appH h sz eb s x = some (v, h')) : h.length ≤ h'.length := by
  unfold appH at hr
  repeat' split at hr
  all_goals first | cases hr; done | exact appE_len hr

theorem runC_len {op : COp} {xs : List V} {h h' : Heap} {v : V} (hr : runC Γ op xs h = some (v, h')) : h.length ≤ h'.length := by
  cases op <;> simp only [runC] at hr
  case store n =>
    obtain ⟨x, y, -, hr⟩ := twoC_inv hr
    unfold storeC at hr
    split at hr
    · rename_i h1 hs; cases hr; exact storeH_len hs
    · cases hr
  case app sz eb => obtain ⟨x, y, -, hr⟩ := twoC_inv hr; exact appH_len hr
  case copy sz =>
    obtain ⟨x, y, -, hr⟩ := twoC_inv hr
    unfold copyH at hr
    repeat' split at hr
    all_goals first | cases hr; done | (cases hr; simp)
  case appz sz eb z =>
    obtain ⟨x, y, -, hr⟩ := twoC_inv hr
    unfold appzC at hr
    split at hr
    · split at hr
      · exact appE_len hr
      · cases hr
    · cases hr
  case clear sz z =>
    unfold clearC at hr
    repeat' split at hr
    all_goals first | cases hr; done | (cases hr; simp)
  case slx =>
    split at hr <;> cases hr
    exact Nat.le_refl _
  case call f => exact doCall_len hr
  case callv =>
    unfold callvC at hr
    repeat' split at hr
    all_goals first | cases hr; done | exact doCall_len hr
  case inv tab =>
    unfold invC at hr
    repeat' split at hr
    all_goals first | cases hr; done | exact doCall_len hr

/-- One operation, carried out or left. -/
inductive Stp (Γ : CallF) : AOper → RSt → V → RSt → Prop
  | run {o : AOper} {s : RSt} {v : V} {s2 : RSt} (hg : guardB s.fr o.guard = some true) (h : runOp Γ o.op s = some (v, s2)) : Stp Γ o s v ⟨putF s2.fr o.dst v, s2.h, s2.segs, s2.lds, s2.nws⟩
  | skip {o : AOper} {s : RSt} (hg : guardB s.fr o.guard = some false) : Stp Γ o s (.tup []) ⟨putF s.fr o.dst (.tup []), s.h, match o.op.isC with | true => s.segs ++ [s.h] | false => s.segs, s.lds, s.nws⟩

structure TI where
  o : AOper
  v : V
  s : RSt

inductive Tr (Γ : CallF) : RSt → List TI → RSt → Prop
  | nil (s : RSt) : Tr Γ s [] s
  | cons {o : AOper} {s : RSt} {v : V} {s1 : RSt} {T : List TI} {s' : RSt} (h : Stp Γ o s v s1) (t : Tr Γ s1 T s') : Tr Γ s (⟨o, v, s⟩ :: T) s'

theorem stepOp_stp {o : AOper} {k : RDen} {s s' : RSt} (h : stepOp Γ o k s = some s') : ∃ v s1, Stp Γ o s v s1 ∧ k s1 = some s' := by
  obtain ⟨ix, d, op, after, gd⟩ := o
  have yes : guardB s.fr gd = some true → afterOp d k (runOp Γ op s) = some s' → ∃ v s1, Stp Γ ⟨ix, d, op, after, gd⟩ s v s1 ∧ k s1 = some s' := fun hg hr => by
    unfold afterOp at hr
    split at hr
    · cases hr
    · rename_i v s2 hrun
      obtain ⟨fr2, h2, segs, lds, nws⟩ := s2
      simp only [withV_eq, withH_eq, putK_eq] at hr
      exact ⟨v, _, .run hg hrun, hr⟩
  have no : guardB s.fr gd = some false → skipOp op.isC d k s = some s' → ∃ v s1, Stp Γ ⟨ix, d, op, after, gd⟩ s v s1 ∧ k s1 = some s' := fun hg hr => by
    unfold skipOp at hr
    rw [putK_eq] at hr
    exact ⟨_, _, .skip hg, hr⟩
  unfold stepOp at h
  simp only at h
  split at h
  · exact yes rfl h
  · rename_i t wv
    unfold guardOp at h
    split at h
    · rename_i b hb
      split at h
      · rename_i hbw; exact yes (by simp [guardB, hb, hbw]) h
      · rename_i hbw; exact no (by simp [guardB, hb, hbw]) h
    · rename_i hb; exact no (by simp [guardB, hb]) h
    · cases h

theorem runOps_tr : ∀ (l : List AOper) (s s' : RSt), runOps Γ l s = some s' → ∃ T, T.map (·.o) = l ∧ Tr Γ s T s'
  | [], s, s', h => by cases h; exact ⟨[], rfl, .nil s⟩
  | o :: l, s, s', h => by
    rw [runOps_cons] at h
    obtain ⟨v, s1, h1, h2⟩ := stepOp_stp h
    obtain ⟨T, hT, h3⟩ := runOps_tr l s1 s' h2
    exact ⟨⟨o, v, s⟩ :: T, by simp [hT], .cons h1 h3⟩

/-- What an operation does to the record. -/
theorem runOp_rec {op : AOp} {s s2 : RSt} {v : V} (h : runOp Γ op s = some (v, s2)) :
    s2.fr = s.fr ∧ s2.segs = s.segs ++ (match op.isC with | true => [s.h] | false => []) ∧ s.h.length ≤ s2.h.length ∧ (op.isC = false → ∃ e, s2.h = s.h ++ e) ∧ (∀ x ∈ s.lds, x ∈ s2.lds) ∧ (∀ x ∈ s.nws, x ∈ s2.nws) := by
  cases op <;> simp only [runOp] at h
  case p op xs =>
    split at h <;> cases h
    exact ⟨rfl, by simp [AOp.isC], Nat.le_refl _, fun _ => ⟨[], by simp⟩, fun _ h => h, fun _ h => h⟩
  case ld ag n x lo hi =>
    split at h <;> cases h
    refine ⟨rfl, by simp [AOp.isC], Nat.le_refl _, fun _ => ⟨[], by simp⟩, fun x hx => ?_, fun _ h => h⟩
    simp only
    split
    · exact List.mem_cons_of_mem _ hx
    · exact hx
  case b2s x =>
    split at h <;> try cases h
    split at h <;> cases h
    exact ⟨rfl, by simp [AOp.isC], Nat.le_refl _, fun _ => ⟨[], by simp⟩, fun _ h => h, fun _ h => h⟩
  case n op xs lo hi =>
    split at h <;> cases h
    refine ⟨rfl, by simp [AOp.isC], by simp, fun _ => ⟨_, rfl⟩, fun _ h => h, fun x hx => ?_⟩
    simp only
    split
    · exact List.mem_cons_of_mem _ hx
    · exact hx
  case c op xs =>
    split at h <;> cases h
    rename_i hr
    exact ⟨rfl, by simp [AOp.isC], runC_len hr, fun h => by simp [AOp.isC] at h, fun _ h => h, fun _ h => h⟩
  case bad => cases h

theorem Stp.rc {o : AOper} {s s1 : RSt} {v : V} (h : Stp Γ o s v s1) :
    s1.fr = putF s.fr o.dst v ∧ s1.segs = s.segs ++ (match o.op.isC with | true => [s.h] | false => []) ∧ s.h.length ≤ s1.h.length ∧ (o.op.isC = false → ∃ e, s1.h = s.h ++ e) ∧ (∀ x ∈ s.lds, x ∈ s1.lds) ∧ (∀ x ∈ s.nws, x ∈ s1.nws) := by
  cases h with
  | run hg h =>
    obtain ⟨h1, h2, h3, h4, h5, h6⟩ := runOp_rec h
    exact ⟨by rw [h1], h2, h3, h4, h5, h6⟩
  | skip hg => exact ⟨rfl, by simp only; split <;> simp, Nat.le_refl _, fun _ => ⟨[], by simp⟩, fun _ h => h, fun _ h => h⟩

def cc : List TI → Nat
  | [] => 0
  | t :: T => (match t.o.op.isC with | true => 1 | false => 0) + cc T

theorem cc_append : ∀ (A B : List TI), cc (A ++ B) = cc A + cc B
  | [], B => by simp [cc]
  | t :: A, B => by simp [cc, cc_append A B, Nat.add_assoc]

def frAll (fr : List V) : List TI → List V
  | [] => fr
  | t :: T => frAll (putF fr t.o.dst t.v) T

theorem Tr.split {s s' : RSt} {t : TI} {B : List TI} : ∀ {A : List TI}, Tr Γ s (A ++ t :: B) s' → Tr Γ s A t.s ∧ Tr Γ t.s (t :: B) s' := by
  intro A
  induction A generalizing s with
  | nil =>
    intro h
    cases h with
    | cons h1 h2 => exact ⟨.nil _, .cons h1 h2⟩
  | cons a A ih =>
    intro h
    cases h with
    | cons h1 h2 =>
      obtain ⟨h3, h4⟩ := ih h2
      exact ⟨.cons h1 h3, h4⟩

theorem Tr.fr {s s' : RSt} {T : List TI} (h : Tr Γ s T s') : s'.fr = frAll s.fr T := by
  induction h with
  | nil s => rfl
  | cons h1 _ ih => rw [ih, h1.rc.1]; rfl

theorem Tr.len {s s' : RSt} {T : List TI} (h : Tr Γ s T s') : s.h.length ≤ s'.h.length := by
  induction h with
  | nil s => exact Nat.le_refl _
  | cons h1 _ ih => exact Nat.le_trans h1.rc.2.2.1 ih

theorem Tr.lds {s s' : RSt} {T : List TI} (h : Tr Γ s T s') : (∀ x ∈ s.lds, x ∈ s'.lds) ∧ (∀ x ∈ s.nws, x ∈ s'.nws) := by
  induction h with
  | nil s => exact ⟨fun _ h => h, fun _ h => h⟩
  | cons h1 _ ih => exact ⟨fun x hx => ih.1 x (h1.rc.2.2.2.2.1 x hx), fun x hx => ih.2 x (h1.rc.2.2.2.2.2 x hx)⟩

theorem Tr.segs {s s' : RSt} {T : List TI} (h : Tr Γ s T s') : ∃ more, s'.segs = s.segs ++ more ∧ more.length = cc T ∧ ∃ e, (more ++ [s'.h])[0]? = some (s.h ++ e) := by
  induction h with
  | nil s => exact ⟨[], by simp, rfl, [], by simp⟩
  | @cons o s v s1 T s' h1 _ ih =>
    obtain ⟨more, h2, h3, e, h4⟩ := ih
    obtain ⟨r1, r2, r3, r4, r5, r6⟩ := h1.rc
    cases hC : o.op.isC with
    | true =>
      rw [hC] at r2
      refine ⟨s.h :: more, by rw [h2, r2]; simp, by simp [cc, hC, h3, Nat.add_comm], [], by simp⟩
    | false =>
      rw [hC] at r2
      obtain ⟨e1, he1⟩ := r4 hC
      exact ⟨more, by rw [h2, r2]; simp, by simp [cc, hC, h3], e1 ++ e, by rw [h4, he1, List.append_assoc]⟩

/-- The heap behind the first j operations of the chain, with what was laid out up to the next. -/
def hp (s' : RSt) (j : Nat) : Heap := ((s'.segs ++ [s'.h])[j]?).getD []

structure At (Γ : CallF) (s s' : RSt) (A : List TI) (t : TI) (B : List TI) (s1 : RSt) : Prop where
  stp : Stp Γ t.o t.s t.v s1
  fr : t.s.fr = frAll s.fr A
  pre : ∃ e, hp s' (cc A) = t.s.h ++ e
  chain : t.o.op.isC = true → hp s' (cc A) = t.s.h
  post : ∃ e, hp s' (cc A + (match t.o.op.isC with | true => 1 | false => 0)) = s1.h ++ e
  lds : ∀ x ∈ s1.lds, x ∈ s'.lds
  nws : ∀ x ∈ s1.nws, x ∈ s'.nws
  lenA : s.h.length ≤ t.s.h.length
  lenB : s1.h.length ≤ s'.h.length
  rest : Tr Γ s1 B s'

theorem Tr.at {s s' : RSt} {A : List TI} {t : TI} {B : List TI} (h0 : s.segs = []) (h : Tr Γ s (A ++ t :: B) s') : ∃ s1, At Γ s s' A t B s1 := by
  obtain ⟨hA, hB⟩ := h.split
  obtain ⟨mA, a1, a2, a3⟩ := hA.segs
  have hseg : t.s.segs.length = cc A := by rw [a1, h0]; simpa using a2
  have hfr := hA.fr
  have hlA := hA.len
  have key : ∀ {s0 : RSt} {T : List TI}, Tr Γ s0 T s' → s0.segs.length = cc A → ∃ e, hp s' (cc A) = s0.h ++ e := fun {s0 T} hT hl => by
    obtain ⟨mo, b1, b2, e, b3⟩ := hT.segs
    refine ⟨e, ?_⟩
    rw [hp, b1, List.append_assoc, List.getElem?_append_right (by omega), hl, Nat.sub_self, b3]
    rfl
  obtain ⟨e0, he0⟩ := key hB hseg
  obtain ⟨to, tv, ts⟩ := t
  cases hB with
  | @cons o s v s1 T _ h1 h2 =>
    obtain ⟨r1, r2, r3, r4, r5, r6⟩ := h1.rc
    refine ⟨s1, h1, hfr, ⟨e0, he0⟩, fun hC => ?_, ?_, h2.lds.1, h2.lds.2, hlA, h2.len, h2⟩
    · obtain ⟨mo, b1, b2, e, b3⟩ := h2.segs
      simp only at hC
      rw [hC] at r2
      simp only at r2 hseg
      rw [hp, b1, r2, List.append_assoc, List.append_assoc, List.getElem?_append_right (by omega), hseg, Nat.sub_self]
      rfl
    · obtain ⟨mo, b1, b2, e, b3⟩ := h2.segs
      refine ⟨e, ?_⟩
      have hl : s1.segs.length = cc A + (match to.op.isC with | true => 1 | false => 0) := by
        rw [r2, List.length_append]; simp only at hseg; rw [hseg]; split <;> rfl
      simp only
      rw [← hl, hp, b1, List.append_assoc, List.getElem?_append_right (by omega), Nat.sub_self, b3]
      rfl
end Go.PV
