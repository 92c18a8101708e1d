/- Frames: the forcing functions are identities; a store into a frame. -/
import Derived.Test.YtdaalannljjkjaaGreatChOp
set_option linter.unusedVariables false
set_option linter.unusedSimpArgs false
namespace Go.PV
section
variable {α : Type}
theorem withNat_eq (n : Nat) (k : Nat → α) : withNat n k = k n := by cases n <;> rfl
theorem withInt_eq (n : Int) (k : Int → α) : withInt n k = k n := by cases n <;> simp [withInt, withNat_eq]
theorem withBool_eq (n : Bool) (k : Bool → α) : withBool n k = k n := by cases n <;> rfl
theorem withList_eq {β : Type} {f : β → (β → α) → α} (hf : ∀ x k, f x k = k x) : ∀ (l : List β) (k : List β → α), withList f l k = k l
  | [], k => rfl
  | x :: l, k => by simp [withList, hf, withList_eq hf l]
theorem withR0_eq (x : R) (k : R → α) : withR0 x k = k x := by cases x <;> simp [withR0, withInt_eq, withBool_eq]
theorem withRs_eq {f : R → (R → α) → α} (hf : ∀ x k, f x k = k x) (x : R) (k : R → α) : withRs f x k = k x := by
  cases x <;> simp [withRs, withInt_eq, withBool_eq, withList_eq hf]
theorem withR_eq (x : R) (k : R → α) : withR x k = k x := withRs_eq (withRs_eq (withRs_eq withR0_eq)) x k
theorem withRL_eq (x : List R) (k : List R → α) : withRL x k = k x := withList_eq withR_eq x k
theorem withVs_eq {f : V → (V → α) → α} (hf : ∀ x k, f x k = k x) (x : V) (k : V → α) : withVs f x k = k x := by
  cases x <;> simp [withVs, withNat_eq, withR_eq, withList_eq hf, hf]
theorem withV_eq (x : V) (k : V → α) : withV x k = k x := withVs_eq (withVs_eq fun _ _ => rfl) x k
theorem withVL_eq (x : List V) (k : List V → α) : withVL x k = k x := withList_eq withV_eq x k
theorem withBlk_eq (x : Blk) (k : Blk → α) : withBlk x k = k x := by cases x <;> simp [withBlk, withNat_eq, withRL_eq, withVL_eq]
theorem withH_eq : ∀ (x : Heap) (k : Heap → α), withH x k = k x
  | [], k => rfl
  | b :: t, k => by simp [withH, withBlk_eq, withH_eq t]
theorem setK_eq : ∀ (l : List V) (d : Nat) (v : V) (k : List V → α), setK l d v k = k (l.set d v)
  | [], d, v, k => rfl
  | x :: l, 0, v, k => rfl
  | x :: l, d + 1, v, k => by
    show setK l d v (fun xs => k (x :: xs)) = _
    rw [setK_eq l d v]; rfl
theorem putK_eq (fr : List V) (d : Option Nat) (v : V) (k : List V → α) : putK fr d v k = k (putF fr d v) := by
  cases d <;> simp [putK, putF, setK_eq]
end

section
variable {fb : Nat → Prop} {μ : Mu} {g : Lk} {w : World} {fr : List V} {a : Act}

theorem FrRel.put (hf : FrRel fb μ g w fr a.tmps) {d : Option Nat} {v : V} {cv : Value} (hv : VRel fb μ g w v cv) : FrRel fb μ g w (putF fr d v) (a.put d cv).tmps := by
  cases d with
  | none => exact hf
  | some d =>
    refine ⟨by simp [putF, Act.put, hf.len], fun t => ?_⟩
    have h := hf.val t
    rw [nthV_eq] at h ⊢
    simp only [putF, Act.put]
    by_cases ht : d = t
    · subst ht
      by_cases hd : d < fr.length
      · have hd' : d < a.tmps.size := by rw [← hf.len]; exact hd
        simp [List.getD, hd, Array.getD, hd']
        exact hv
      · rw [List.set_eq_of_length_le (by omega)]
        have hd' : ¬ d < a.tmps.size := by rw [← hf.len]; exact hd
        simpa [Array.getD, hd'] using h
    · simp [List.getD, ht] at h ⊢
      exact h

theorem FrRel.evo {F : Nat → Prop} {μ' : Mu} {g' : Lk} {w' : World} {tm : Array Value} (E : Evo All F μ g w μ' g' w') (hf : FrRel (fbOf F μ g) μ g w fr tm) : FrRel (fbOf F μ' g') μ' g' w' fr tm :=
  ⟨hf.len, fun t => (hf.val t).evo E fun _ _ => trivial⟩

/-- Is the operation wanted, as the evaluator has it? -/
noncomputable def guardB (fr : List V) : Option (Nat × Bool) → Option Bool
  | none => some true
  | some (g, w) => match nthV fr g with
    | .r (.bool b) => some (b == w)
    | .tup [] => some false
    | _ => none

def chkGuard (ops : Array Oper) (o : Oper) (g : Option (Nat × Bool)) : Bool :=
  match o.guard with
  | none => g.isNone
  | some (j, want) => match g with
    | none => false
    | some (t, w) => w == want && (match ops[j]? with | some oj => oj.dst == some t | none => false)

theorem guard_sound (hf : FrRel fb μ g w fr a.tmps) {ops : Array Oper} {o : Oper} {gd : Option (Nat × Bool)} (hc : chkGuard ops o gd = true) {b : Bool} (hb : guardB fr gd = some b) : Region.wanted o (yielded ops a.tmps) = b := by
  unfold chkGuard at hc
  unfold Region.wanted
  split at hc
  · rename_i hg
    rw [hg]
    cases gd with
    | none => simp [guardB] at hb; subst hb; rfl
    | some _ => simp at hc
  · rename_i j want hg
    rw [hg]
    split at hc <;> try cases hc
    rename_i t w'
    simp only [Bool.and_eq_true, beq_iff_eq] at hc
    obtain ⟨rfl, hc⟩ := hc
    split at hc <;> try cases hc
    rename_i oj hoj
    have hdst : oj.dst = some t := by simpa using hc
    simp only [guardB] at hb
    have hv := hf.val t
    have hlen := hf.len
    by_cases ht : t < a.tmps.size
    · have hget : a.tmps[t]? = some (a.tmps.getD t undef) := by simp [Array.getD, ht]
      simp only [yielded, hoj, Option.bind_some, hdst, hget]
      generalize nthV fr t = vt at *
      generalize a.tmps.getD t undef = cvt at *
      split at hb
      · rename_i b'
        cases hb
        rw [hv.bool_inv]
        cases b' <;> cases w' <;> rfl
      · cases hb
        cases hv with
        | tup _ vs hl hr =>
          have : vs = [] := List.eq_nil_of_length_eq_zero hl.symm
          subst this
          rfl
      · cases hb
    · rw [nthV_eq] at hb
      simp [List.getD, show ¬ t < fr.length by omega] at hb
end
end Go.PV
