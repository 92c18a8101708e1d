/- Equality by computation. -/
import Derived.Test.YtdaalannljjkjaaGreatEv
set_option linter.unusedVariables false
set_option linter.unusedSimpArgs false
namespace Go.PV
mutual
theorem R.beq_eq : ∀ (a b : R), R.beq a b = true → a = b
  | .int k n, b, h => by
    cases b <;> simp [R.beq] at h
    obtain ⟨rfl, rfl⟩ := h; rfl
  | .bool x, b, h => by cases b <;> simp [R.beq] at h; subst h; rfl
  | .str x, b, h => by cases b <;> simp [R.beq] at h; subst h; rfl
  | .nilp, b, h => by cases b <;> simp [R.beq] at h; rfl
  | .nilf, b, h => by cases b <;> simp [R.beq] at h; rfl
  | .nili, b, h => by cases b <;> simp [R.beq] at h; rfl
  | .fn f, b, h => by cases b <;> simp [R.beq] at h; subst h; rfl
  | .rptr cs, b, h => by
    cases b <;> simp [R.beq] at h
    rw [R.beqL_eq _ _ h]
  | .sl sz k xs, b, h => by
    cases b <;> simp [R.beq] at h
    obtain ⟨⟨rfl, rfl⟩, h⟩ := h
    rw [R.beqL_eq _ _ h]
  | .agg cs, b, h => by
    cases b <;> simp [R.beq] at h
    rw [R.beqL_eq _ _ h]
  | .iface t x, b, h => by
    cases b <;> simp [R.beq] at h
    obtain ⟨rfl, h⟩ := h
    rw [R.beq_eq _ _ h]
theorem R.beqL_eq : ∀ (a b : List R), R.beqL a b = true → a = b
  | [], b, h => by cases b <;> simp [R.beqL] at h; rfl
  | a :: s, b, h => by
    cases b <;> simp [R.beqL] at h
    rw [R.beq_eq _ _ h.1, R.beqL_eq _ _ h.2]
end
mutual
theorem V.beq_eq : ∀ (a b : V), V.beq a b = true → a = b
  | .r a, b, h => by cases b <;> simp [V.beq] at h; rw [R.beq_eq _ _ h]
  | .ptr x k f, b, h => by cases b <;> simp [V.beq] at h; obtain ⟨⟨rfl, rfl⟩, rfl⟩ := h; rfl
  | .sl s x k n, b, h => by cases b <;> simp [V.beq] at h; obtain ⟨⟨⟨rfl, rfl⟩, rfl⟩, rfl⟩ := h; rfl
  | .isl x k f s g n, b, h => by cases b <;> simp [V.beq] at h; obtain ⟨⟨⟨⟨⟨rfl, rfl⟩, rfl⟩, rfl⟩, rfl⟩, rfl⟩ := h; rfl
  | .agg cs, b, h => by cases b <;> simp [V.beq] at h; rw [V.beqL_eq _ _ h]
  | .tup cs, b, h => by cases b <;> simp [V.beq] at h; rw [V.beqL_eq _ _ h]
  | .fn f a c, b, h => by
    cases b <;> simp [V.beq] at h
    obtain ⟨⟨rfl, h1⟩, h2⟩ := h
    rw [V.beqL_eq _ _ h1, V.beqL_eq _ _ h2]
  | .iface t x, b, h => by
    cases b <;> simp [V.beq] at h
    obtain ⟨rfl, h⟩ := h
    rw [V.beq_eq _ _ h]
  | .junk, b, h => by cases b <;> simp [V.beq] at h; rfl
theorem V.beqL_eq : ∀ (a b : List V), V.beqL a b = true → a = b
  | [], b, h => by cases b <;> simp [V.beqL] at h; rfl
  | a :: s, b, h => by
    cases b <;> simp [V.beqL] at h
    rw [V.beq_eq _ _ h.1, V.beqL_eq _ _ h.2]
end
theorem Blk.beq_eq : ∀ (a b : Blk), a.beq b = true → a = b
  | .rows sz els, b, h => by cases b <;> simp [Blk.beq] at h; obtain ⟨rfl, h⟩ := h; rw [R.beqL_eq _ _ h]
  | .mix sz cs, b, h => by cases b <;> simp [Blk.beq] at h; obtain ⟨rfl, h⟩ := h; rw [V.beqL_eq _ _ h]
  | .dead, b, h => by cases b <;> simp [Blk.beq] at h; rfl
theorem beqBlks_eq : ∀ (a b : List Blk), beqBlks a b = true → a = b
  | [], b, h => by cases b <;> simp [beqBlks] at h; rfl
  | a :: s, b, h => by
    cases b <;> simp [beqBlks] at h
    rw [Blk.beq_eq _ _ h.1, beqBlks_eq _ _ h.2]
end Go.PV
