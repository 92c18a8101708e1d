/- A table's check. -/
import Derived.Test.YtdaalannljjkjaaGreatFin
import Derived.Test.YtdaalannljjkjaaGreatDraw5
import Derived.Test.YtdaalannljjkjaaGreatLim
set_option linter.unusedVariables false
namespace Go.PV
def chkAll (P : Program) (f : Nat) (A : AFun) : Bool := dstOk A.ntmps A.body && chkFun P (drawOk P) f A

theorem nodeF {p : Prop} [Decidable p] {x y : Option AFun} {A : AFun} {Q : Prop} (hx : x = some A → Q) (hy : y = some A → Q) : (if p then x else y) = some A → Q := by
  intro h
  split at h
  · exact hx h
  · exact hy h
theorem leafF {P : Program} {f k : Nat} {c A : AFun} (hc : chkAll P k c = true) : (if f = k then some c else none) = some A → chkAll P f A = true := by
  intro h
  split at h
  · rename_i hf; cases h; rw [hf]; exact hc
  · cases h

theorem chkAll_dst {P : Program} {F : Nat → Option AFun} (h : ∀ f A, F f = some A → chkAll P f A = true) : ∀ f A, F f = some A → dstOk A.ntmps A.body = true := fun f A hf => by
  have := h f A hf
  unfold chkAll at this
  rw [Bool.and_eq_true] at this
  exact this.1
theorem chkAll_fun {P : Program} {F : Nat → Option AFun} (h : ∀ f A, F f = some A → chkAll P f A = true) : ∀ f A, F f = some A → chkFun P (drawOk P) f A = true := fun f A hf => by
  have := h f A hf
  unfold chkAll at this
  rw [Bool.and_eq_true] at this
  exact this.2
end Go.PV
