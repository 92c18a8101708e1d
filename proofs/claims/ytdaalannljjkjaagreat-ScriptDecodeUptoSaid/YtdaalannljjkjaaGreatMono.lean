/- More calls, more fuel: the evaluator answers the same. Tables of calls. -/
import Derived.Test.YtdaalannljjkjaaGreatDraw1
set_option linter.unusedVariables false
set_option linter.unusedSimpArgs false
namespace Go.PV

def Le (Γ Γ' : CallF) : Prop := ∀ f a h r, Γ f a h = some r → Γ' f a h = some r
def KLe (k k' : RDen) : Prop := ∀ s s', k s = some s' → k' s = some s'
def DLe (d d' : Den) : Prop := ∀ s r, d s = some r → d' s = some r

section
variable {Γ Γ' : CallF} (hL : Le Γ Γ')
include hL

theorem doCall_mono {f : Nat} {a : List V} {h : Heap} {r : V × Heap} (hr : doCall Γ f a h = some r) : doCall Γ' f a h = some r := by
  unfold doCall at hr ⊢
  simp only at hr ⊢
  split at hr
  · cases hr
  · simp only [withVL_eq, withH_eq] at hr ⊢
    split at hr
    · cases hr
    · rename_i hc
      rw [hL _ _ _ _ hc]
      exact hr

theorem runC_mono {op : COp} {xs : List V} {h : Heap} {r : V × Heap} (hr : runC Γ op xs h = some r) : runC Γ' op xs h = some r := by
  cases op <;> simp only [runC] at hr ⊢ <;> try exact hr
  case call f => exact doCall_mono hL hr
  case callv =>
    unfold callvC at hr ⊢
    repeat' split at hr
    all_goals first | cases hr; done | exact doCall_mono hL hr
  case inv tab =>
    unfold invC at hr ⊢
    repeat' split at hr
    all_goals first | cases hr; done | exact doCall_mono hL hr

theorem runOp_mono {op : AOp} {s : RSt} {r : V × RSt} (hr : runOp Γ op s = some r) : runOp Γ' op s = some r := by
  cases op <;> simp only [runOp] at hr ⊢ <;> try exact hr
  case c op xs =>
    split at hr <;> try cases hr
    rename_i hc
    rw [runC_mono hL hc]

theorem stepOp_mono {o : AOper} {k k' : RDen} (hk : KLe k k') : KLe (stepOp Γ o k) (stepOp Γ' o k') := by
  obtain ⟨ix, d, op, after, gd⟩ := o
  have yes : ∀ s s', afterOp d k (runOp Γ op s) = some s' → afterOp d k' (runOp Γ' op s) = some s' := fun s s' hr => by
    unfold afterOp at hr ⊢
    split at hr
    · cases hr
    · rename_i hrun
      rw [runOp_mono hL hrun]
      simp only [withV_eq, withH_eq, putK_eq] at hr ⊢
      exact hk _ _ hr
  have no : ∀ s s', skipOp op.isC d k s = some s' → skipOp op.isC d k' s = some s' := fun s s' hr => by
    unfold skipOp at hr ⊢
    rw [putK_eq] at hr ⊢
    exact hk _ _ hr
  intro s s' h
  unfold stepOp at h ⊢
  simp only at h ⊢
  split at h
  · exact yes s s' h
  · unfold guardOp at h ⊢
    split at h
    · split at h
      · exact yes s s' h
      · exact no s s' h
    · exact no s s' h
    · cases h

theorem runOps_mono : ∀ (l : List AOper), KLe (runOps Γ l) (runOps Γ' l)
  | [] => fun s s' h => h
  | o :: l => by
    rw [runOps_cons, runOps_cons]
    exact stepOp_mono hL (runOps_mono l)

theorem dRegion_mono {draw : Bool} {l : List AOper} : DLe (dRegion Γ draw l) (dRegion Γ' draw l) := by
  intro s r h
  unfold dRegion at h ⊢
  split at h
  · cases h
  · rename_i hr
    rw [runOps_mono hL l _ _ hr]
    exact h
omit hL

theorem loopN_mono {d d' : Den} {hd : St → Option St} (h : DLe d d') : ∀ {n n' : Nat}, n ≤ n' → DLe (loopN d hd n) (loopN d' hd n')
  | 0, _, _ => fun s r hr => by cases hr
  | n + 1, 0, hn => by omega
  | n + 1, n' + 1, hn => fun s r hr => by
    simp only [loopN] at hr ⊢
    split at hr
    · cases hr
    · rename_i s1 h1
      unfold loopK at hr ⊢
      split at hr
      · cases hr
      · rename_i h2
        rw [h _ _ h2]
        simp only at hr ⊢
        split at hr
        · exact loopN_mono h (by omega) _ _ hr
        · exact hr
        · exact hr
include hL

theorem exec_mono {n n' k : Nat} (hn : n ≤ n') : ∀ (c : ACode), DLe (exec Γ n k c) (exec Γ' n' k c)
  | .skip => fun s r h => h
  | .region draw ops => dRegion_mono hL
  | .seq a b => fun s r h => by
    have h : dSeqK (exec Γ n k b) (exec Γ n k a s) = some r := h
    show dSeqK (exec Γ' n' k b) (exec Γ' n' k a s) = some r
    unfold dSeqK at h ⊢
    split at h
    · cases h
    · rename_i h1
      rw [exec_mono hn a _ _ h1]
      simp only at h ⊢
      split at h
      · exact exec_mono hn b _ _ h
      · exact h
      · exact h
  | .cond c a b => fun s r h => by
    have h : dCondK (exec Γ n k a) (exec Γ n k b) s (ev s.fr c) = some r := h
    show dCondK (exec Γ' n' k a) (exec Γ' n' k b) s (ev s.fr c) = some r
    generalize ev s.fr c = v at *
    unfold dCondK at h ⊢
    split at h
    · split at h
      · exact exec_mono hn a _ _ h
      · exact exec_mono hn b _ _ h
    · cases h
  | .block id c => fun s r h => by
    have h : dBlockK id (exec Γ n k c s) = some r := h
    show dBlockK id (exec Γ' n' k c s) = some r
    unfold dBlockK at h ⊢
    split at h
    · cases h
    · rename_i h1
      rw [exec_mono hn c _ _ h1]
      exact h
  | .loop live c => loopN_mono (exec_mono hn c) hn
  | .exit id => fun s r h => h
  | .ret => fun s r h => h
  | .hint x c => fun s r h => by
    have h : dHint x (exec Γ n k c) s = some r := h
    show dHint x (exec Γ' n' k c) s = some r
    unfold dHint at h ⊢
    split at h
    · exact exec_mono hn c _ _ h
    · cases h

theorem callO_mono {n n' : Nat} (hn : n ≤ n') {A : AFun} {a : List V} {h : Heap} {r : V × Heap} (hr : callO Γ n A a h = some r) : callO Γ' n' A a h = some r := by
  unfold callO at hr ⊢
  split at hr
  · cases hr
  · rename_i o s hno hx
    rw [exec_mono hL hn _ _ _ hx]
    cases o with
    | exit id => exact absurd rfl (hno id)
    | normal => exact hr
    | ret => exact hr
  · cases hr

theorem callA_mono {n n' : Nat} (hn : n ≤ n') {A : AFun} {a : List V} {h : Heap} {r : V × Heap} (hr : callA Γ n A a h = some r) : callA Γ' n' A a h = some r := by
  unfold callA at hr ⊢
  split at hr
  · exact callO_mono hL hn hr
  · split at hr
    · exact callO_mono hL hn hr
    · cases h1 : callO Γ n A _ h with
      | none => rw [h1] at hr; simp [agree] at hr
      | some r1 =>
        cases h2 : callO Γ n A _ h with
        | none => rw [h1, h2] at hr; simp [agree] at hr
        | some r2 =>
          rw [h1, h2] at hr
          rw [callO_mono hL hn h1, callO_mono hL hn h2]
          exact hr
end

theorem callN_succ (F : Nat → Option AFun) : ∀ n, Le (callN F n) (callN F (n + 1))
  | 0 => fun f a h r hr => by cases hr
  | n + 1 => fun f a h r hr => by
    simp only [callN] at hr ⊢
    split at hr
    · cases hr
    · exact callA_mono (callN_succ F n) (Nat.le_succ n) hr
theorem callN_mono {F : Nat → Option AFun} {n m : Nat} (h : n ≤ m) : Le (callN F n) (callN F m) := by
  induction h with
  | refl => exact fun _ _ _ _ h => h
  | step _ ih => exact fun f a h r hr => callN_succ F _ f a h r (ih f a h r hr)

/-! ### tables -/
structure Ent where
  f : Nat
  args : List V
  h : Heap
  v : V
  h' : Heap

/-- The evaluator, with fuel enough, answers so. -/
def Has (F : Nat → Option AFun) (f : Nat) (a : List V) (h : Heap) (r : V × Heap) : Prop := ∃ n, callN F n f a h = some r
def OK (F : Nat → Option AFun) (e : Ent) : Prop := Has F e.f e.args e.h (e.v, e.h')
def OKs (F : Nat → Option AFun) (T : List Ent) : Prop := ∀ e ∈ T, OK F e

theorem oks_nil {F : Nat → Option AFun} : OKs F [] := fun _ h => by cases h
theorem oks_cons {F : Nat → Option AFun} {e : Ent} {T : List Ent} (h : OK F e) (t : OKs F T) : OKs F (e :: T) := fun x hx => by
  cases hx with
  | head => exact h
  | tail _ hx => exact t x hx

def tabF : List Ent → CallF
  | [], _, _, _ => none
  | e :: T, f, a, h => match e.f == f && (V.beqL e.args a && beqBlks e.h h) with
    | true => some (e.v, e.h')
    | false => tabF T f a h

theorem oks_fuel {F : Nat → Option AFun} : ∀ {T : List Ent}, OKs F T → ∃ N, ∀ e ∈ T, callN F N e.f e.args e.h = some (e.v, e.h')
  | [], _ => ⟨0, fun _ h => by cases h⟩
  | e :: T, h => by
    obtain ⟨n, hn⟩ := h e (List.mem_cons_self ..)
    obtain ⟨N, hN⟩ := oks_fuel (T := T) fun x hx => h x (List.mem_cons_of_mem _ hx)
    refine ⟨max n N, fun x hx => ?_⟩
    cases hx with
    | head => exact callN_mono (Nat.le_max_left _ _) _ _ _ _ hn
    | tail _ hx => exact callN_mono (Nat.le_max_right _ _) _ _ _ _ (hN x hx)

theorem tabF_le {F : Nat → Option AFun} {N : Nat} : ∀ {T : List Ent}, (∀ e ∈ T, callN F N e.f e.args e.h = some (e.v, e.h')) → Le (tabF T) (callN F N)
  | [], _ => fun f a h r hr => by cases hr
  | e :: T, hT => fun f a h r hr => by
    simp only [tabF] at hr
    split at hr
    · rename_i hc
      simp only [Bool.and_eq_true, beq_iff_eq] at hc
      obtain ⟨h1, h2, h3⟩ := hc
      have h2 := V.beqL_eq _ _ h2
      have h3 := beqBlks_eq _ _ h3
      cases hr
      rw [← h1, ← h2, ← h3]
      exact hT e (List.mem_cons_self ..)
    · exact tabF_le (fun x hx => hT x (List.mem_cons_of_mem _ hx)) f a h r hr

noncomputable def stepE (F : Nat → Option AFun) (T : List Ent) (m : Nat) (e : Ent) : Bool :=
  match F e.f with
  | none => false
  | some A => match callA (tabF T) m A e.args e.h with
    | some (v, h') => V.beq v e.v && beqBlks h' e.h'
    | none => false

theorem ok_step {F : Nat → Option AFun} {T : List Ent} (hT : OKs F T) (m : Nat) {e : Ent} (h : stepE F T m e = true) : OK F e := by
  unfold stepE at h
  split at h
  · cases h
  · rename_i A hA
    split at h
    · rename_i v h' hc
      rw [Bool.and_eq_true] at h
      have h1 := V.beq_eq _ _ h.1
      have h2 := beqBlks_eq _ _ h.2
      subst h1 h2
      obtain ⟨N, hN⟩ := oks_fuel hT
      refine ⟨max N m + 1, ?_⟩
      simp only [callN, hA]
      refine callA_mono (fun f a h r hr => ?_) (Nat.le_max_right N m) hc
      exact callN_mono (Nat.le_max_left _ _) _ _ _ _ (tabF_le hN f a h r hr)
    · cases h
end Go.PV
