/- The evaluator without fuel: its equations. -/
import Derived.Test.YtdaalannljjkjaaGreatSev
set_option linter.unusedVariables false
set_option linter.unusedSimpArgs false
namespace Go.PV

open Classical in
noncomputable def limO {α : Type} (f : Nat → Option α) : Option α := if h : ∃ r, ∃ n, f n = some r then some (Classical.choose h) else none

def MonoO {α : Type} (f : Nat → Option α) : Prop := ∀ n m, n ≤ m → ∀ r, f n = some r → f m = some r

theorem limO_some {α : Type} {f : Nat → Option α} (hf : MonoO f) {r : α} : limO f = some r ↔ ∃ n, f n = some r := by
  unfold limO
  constructor
  · intro h
    split at h
    · rename_i hx; cases h; exact Classical.choose_spec hx
    · cases h
  · rintro ⟨n, hn⟩
    have hx : ∃ r, ∃ n, f n = some r := ⟨r, n, hn⟩
    rw [dif_pos hx]
    obtain ⟨m, hm⟩ := Classical.choose_spec hx
    have h1 := hf n (max n m) (Nat.le_max_left _ _) _ hn
    have h2 := hf m (max n m) (Nat.le_max_right _ _) _ hm
    rw [h1] at h2
    exact congrArg some (Option.some.inj h2).symm

theorem opt_ext {α : Type} {x y : Option α} (h : ∀ r, x = some r ↔ y = some r) : x = y := by
  cases x with
  | none =>
    cases y with
    | none => rfl
    | some b => exact absurd ((h b).2 rfl) (by simp)
  | some a => exact ((h a).1 rfl).symm

def KLeS (k k' : RK) : Prop := ∀ s s', k s = some s' → k' s = some s'
def SLe (d d' : SDen) : Prop := ∀ s r, d s = some r → d' s = some r
def LLe (L L' : LoopF) : Prop := ∀ d d' hd, SLe d d' → SLe (L d hd) (L' d' hd)

theorem runK_mono {d : Option Nat} {k k' : RK} (hk : KLeS k k') {x x' : Option (V × RS)} (hx : ∀ r, x = some r → x' = some r) {s' : RS} (h : runK d k x = some s') : runK d k' x' = some s' := by
  cases x with
  | none => cases h
  | some p => rw [hx p rfl]; exact hk _ _ h

theorem stepS_kmono {Γ Γ' : CallF} (hop : ∀ op s r, runOpS Γ op s = some r → runOpS Γ' op s = some r) {o : AOper} {k k' : RK} (hk : KLeS k k') : KLeS (stepS Γ o k) (stepS Γ' o k') := by
  obtain ⟨ix, d, op, after, gd⟩ := o
  intro s s' h
  have yes : ∀ s s', runK d k (runOpS Γ op s) = some s' → runK d k' (runOpS Γ' op s) = some s' := fun s s' h => runK_mono hk (hop op s) h
  have no : ∀ s s', skipK op.isC d k s = some s' → skipK op.isC d k' s = some s' := fun s s' h => hk _ _ h
  unfold stepS at h ⊢
  simp only at h ⊢
  cases gd with
  | none => exact yes s s' h
  | some p =>
    simp only at h ⊢
    generalize get s.fr p.1 = vg at *
    unfold guardK at h ⊢
    split at h
    · rename_i b
      simp only
      cases hb : b == p.2 with
      | true => rw [hb] at h; exact yes s s' h
      | false => rw [hb] at h; exact no s s' h
    · exact no s s' h
    · cases h

theorem runOpS_mono {Γ Γ' : CallF} (hL : Le Γ Γ') (op : AOp) (s : RS) (r : V × RS) (h : runOpS Γ op s = some r) : runOpS Γ' op s = some r := by
  cases op <;> simp only [runOpS, runCU_eq] at h ⊢ <;> try exact h
  case c op xs =>
    cases hc : runC Γ op (xs.map (evS s.fr)) s.h with
    | none => rw [hc] at h; cases h
    | some p => rw [hc] at h; rw [runC_mono hL hc]; exact h

theorem runOpsS_mono {Γ Γ' : CallF} (hL : Le Γ Γ') : ∀ (l : List AOper), KLeS (runOpsS Γ l) (runOpsS Γ' l)
  | [] => fun s s' h => h
  | o :: l => stepS_kmono (runOpS_mono hL) (runOpsS_mono hL l)

theorem seqS_mono {y y' : SDen} (hy : SLe y y') {x x' : Option (Out × SS)} (hx : ∀ r, x = some r → x' = some r) {r : Out × SS} (h : seqS y x = some r) : seqS y' x' = some r := by
  cases x with
  | none => cases h
  | some p =>
    rw [hx p rfl]
    obtain ⟨o, s⟩ := p
    cases o with
    | normal => exact hy _ _ h
    | exit i => exact h
    | ret => exact h

theorem loopNS_mono {d d' : SDen} {hd : SS → Option SS} (h : SLe d d') : ∀ {n n' : Nat}, n ≤ n' → SLe (loopNS d hd n) (loopNS d' hd n')
  | 0, _, _ => fun s r hr => by cases hr
  | n + 1, 0, hn => by omega
  | n + 1, n' + 1, hn => fun s r hr => by
    simp only [loopNS] at hr ⊢
    cases h1 : hd s with
    | none => rw [h1] at hr; cases hr
    | some s1 => rw [h1] at hr; exact seqS_mono (loopNS_mono h (by omega)) (h s1) hr

theorem execS_mono {Γ Γ' : CallF} (hL : Le Γ Γ') {L L' : LoopF} (hl : LLe L L') {k : Nat} : ∀ (c : ACode), SLe (execS Γ L k c) (execS Γ' L' k c)
  | .skip => fun s r h => h
  | .region draw ops => fun s r h => by
    have h : regionS Γ draw ops s = some r := h
    show regionS Γ' draw ops s = some r
    unfold regionS at h ⊢
    cases h1 : runOpsS Γ ops ⟨s.fr, s.h, [], [], []⟩ with
    | none => rw [h1] at h; cases h
    | some r1 => rw [h1] at h; rw [runOpsS_mono hL ops _ _ h1]; exact h
  | .seq a b => fun s r h => seqS_mono (execS_mono hL hl b) (execS_mono hL hl a s) h
  | .cond c a b => fun s r h => by
    have h : condS (execS Γ L k a) (execS Γ L k b) s (evS s.fr c) = some r := h
    show condS (execS Γ' L' k a) (execS Γ' L' k b) s (evS s.fr c) = some r
    generalize evS s.fr c = v at *
    unfold condS at h ⊢
    split at h
    · rename_i t
      cases t with
      | true => exact execS_mono hL hl a _ _ h
      | false => exact execS_mono hL hl b _ _ h
    · cases h
  | .block id c => fun s r h => by
    have h : blockS id (execS Γ L k c s) = some r := h
    show blockS id (execS Γ' L' k c s) = some r
    cases h1 : execS Γ L k c s with
    | none => rw [h1] at h; cases h
    | some p => rw [h1] at h; rw [execS_mono hL hl c _ _ h1]; exact h
  | .loop live c => hl _ _ _ (execS_mono hL hl c)
  | .exit id => fun s r h => h
  | .ret => fun s r h => h
  | .hint x c => fun s r h => by
    have h : hintS (execS Γ L k c) (runHS x s) = some r := h
    show hintS (execS Γ' L' k c) (runHS x s) = some r
    cases h1 : runHS x s with
    | none => rw [h1] at h; cases h
    | some s1 => rw [h1] at h; exact execS_mono hL hl c _ _ h

theorem callOS_mono {Γ Γ' : CallF} (hL : Le Γ Γ') {L L' : LoopF} (hl : LLe L L') {A : AFun} {a : List V} {h : Heap} {r : V × Heap} (hr : callOS Γ L A a h = some r) : callOS Γ' L' A a h = some r := by
  unfold callOS at hr ⊢
  cases h1 : execS Γ L h.length A.body ⟨initS 0 a, h⟩ with
  | none => rw [h1] at hr; cases hr
  | some p => rw [h1] at hr; rw [execS_mono hL hl _ _ _ h1]; exact hr

theorem agree_some {x y x' y' : Option (V × Heap)} {r : V × Heap} (hx : ∀ r, x = some r → x' = some r) (hy : ∀ r, y = some r → y' = some r) (h : agree x y = some r) : agree x' y' = some r := by
  cases x with
  | none => simp [agree] at h
  | some a => cases y with
    | none => simp [agree] at h
    | some b => rw [hx a rfl, hy b rfl]; exact h

theorem callAS_mono {Γ Γ' : CallF} (hL : Le Γ Γ') {L L' : LoopF} (hl : LLe L L') {A : AFun} {a : List V} {h : Heap} {r : V × Heap} (hr : callAS Γ L A a h = some r) : callAS Γ' L' A a h = some r := by
  unfold callAS at hr ⊢
  cases hb : A.amb with
  | false => rw [hb] at hr; exact callOS_mono hL hl hr
  | true =>
    rw [hb] at hr
    simp only at hr ⊢
    cases hs : splitNil a with
    | none => rw [hs] at hr; exact callOS_mono hL hl hr
    | some p => rw [hs] at hr; exact agree_some (fun r h => callOS_mono hL hl h) (fun r h => callOS_mono hL hl h) hr

abbrev LN (n : Nat) : LoopF := fun d hd => loopNS d hd n
theorem LN_mono {n m : Nat} (h : n ≤ m) : LLe (LN n) (LN m) := fun d d' hd hdd => loopNS_mono hdd h

theorem callNS_succ (F : Nat → Option AFun) (T : List Ent) : ∀ n, Le (callNS F T n) (callNS F T (n + 1))
  | 0 => fun f a h r hr => by cases hr
  | n + 1 => fun f a h r hr => by
    have hr : (match tabF T f a h with | some r => some r | none => match F f with | none => none | some A => callAS (callNS F T n) (LN n) A a h) = some r := hr
    show (match tabF T f a h with | some r => some r | none => match F f with | none => none | some A => callAS (callNS F T (n + 1)) (LN (n + 1)) A a h) = some r
    cases h0 : tabF T f a h with
    | some r0 => rw [h0] at hr; exact hr
    | none =>
      rw [h0] at hr
      cases hA : F f with
      | none => rw [hA] at hr; cases hr
      | some A => rw [hA] at hr; exact callAS_mono (callNS_succ F T n) (LN_mono (Nat.le_succ n)) hr
theorem callNS_mono {F : Nat → Option AFun} {T : List Ent} {n m : Nat} (h : n ≤ m) : Le (callNS F T n) (callNS F T m) := by
  induction h with
  | refl => exact fun _ _ _ _ h => h
  | step _ ih => exact fun f a h r hr => callNS_succ F T _ f a h r (ih f a h r hr)

noncomputable def callW (F : Nat → Option AFun) (T : List Ent) : CallF := fun f a h => limO fun n => callNS F T n f a h
noncomputable def loopW : LoopF := fun d hd s => limO fun n => loopNS d hd n s

theorem mono_call (F : Nat → Option AFun) (T : List Ent) (f : Nat) (a : List V) (h : Heap) : MonoO fun n => callNS F T n f a h := fun n m hnm r hr => callNS_mono hnm f a h r hr
theorem mono_loop (d : SDen) (hd : SS → Option SS) (s : SS) : MonoO fun n => loopNS d hd n s := fun n m hnm r hr => loopNS_mono (fun _ _ h => h) hnm s r hr

theorem callW_some {F : Nat → Option AFun} {T : List Ent} {f : Nat} {a : List V} {h : Heap} {r : V × Heap} : callW F T f a h = some r ↔ ∃ n, callNS F T n f a h = some r := limO_some (mono_call F T f a h)
theorem loopW_some {d : SDen} {hd : SS → Option SS} {s : SS} {r : Out × SS} : loopW d hd s = some r ↔ ∃ n, loopNS d hd n s = some r := limO_some (mono_loop d hd s)

theorem LN_le_W (n : Nat) : LLe (LN n) loopW := fun d d' hd hdd s r h => loopW_some.2 ⟨n, loopNS_mono hdd (Nat.le_refl n) s r h⟩

/-! ### what the limit answers, a stage answers -/
section
variable {Γs : Nat → CallF} {Γω : CallF} (hm : ∀ n m, n ≤ m → Le (Γs n) (Γs m)) (hc : ∀ f a h r, Γω f a h = some r → ∃ n, Γs n f a h = some r)
include hm hc

theorem doCall_cont {f : Nat} {a : List V} {h : Heap} {r : V × Heap} (hr : doCall Γω f a h = some r) : ∃ n, doCall (Γs n) f a h = some r := by
  have _ := hm
  unfold doCall at hr
  simp only at hr
  cases h1 : rename h (reach h fuelR (V.idsL a) []) a with
  | none => rw [h1] at hr; cases hr
  | some p =>
    rw [h1] at hr
    simp only [withVL_eq, withH_eq] at hr
    cases h2 : Γω f p.1 p.2 with
    | none => rw [h2] at hr; cases hr
    | some q =>
      obtain ⟨n, hn⟩ := hc _ _ _ _ h2
      refine ⟨n, ?_⟩
      unfold doCall
      simp only [h1, withVL_eq, withH_eq, hn]
      rw [h2] at hr
      exact hr

theorem runC_cont {op : COp} {xs : List V} {h : Heap} {r : V × Heap} (hr : runC Γω op xs h = some r) : ∃ n, runC (Γs n) op xs h = some r := by
  cases op <;> simp only [runC] at hr <;> try exact ⟨0, hr⟩
  case call f => exact doCall_cont hm hc hr
  case callv =>
    unfold callvC at hr
    split at hr
    · cases hr
    · split at hr
      · obtain ⟨n, hn⟩ := doCall_cont hm hc hr; exact ⟨n, hn⟩
      · obtain ⟨n, hn⟩ := doCall_cont hm hc hr; exact ⟨n, hn⟩
      · cases hr
  case inv tab =>
    unfold invC at hr
    split at hr
    · cases hr
    · split at hr
      · split at hr
        · rename_i h1; obtain ⟨n, hn⟩ := doCall_cont hm hc hr; exact ⟨n, by simp only [runC, invC, h1]; exact hn⟩
        · cases hr
      · split at hr
        · rename_i h1; obtain ⟨n, hn⟩ := doCall_cont hm hc hr; exact ⟨n, by simp only [runC, invC, h1]; exact hn⟩
        · cases hr
      · cases hr

theorem runOpS_cont {op : AOp} {s : RS} {r : V × RS} (hr : runOpS Γω op s = some r) : ∃ n, runOpS (Γs n) op s = some r := by
  cases op <;> simp only [runOpS, runCU_eq] at hr <;> try exact ⟨0, hr⟩
  case c op xs =>
    cases h1 : runC Γω op (xs.map (evS s.fr)) s.h with
    | none => rw [h1] at hr; cases hr
    | some p =>
      obtain ⟨n, hn⟩ := runC_cont hm hc h1
      refine ⟨n, ?_⟩
      simp only [runOpS, runCU_eq, hn]
      rw [h1] at hr; exact hr

theorem runOpsS_cont : ∀ (l : List AOper) (s s' : RS), runOpsS Γω l s = some s' → ∃ n, runOpsS (Γs n) l s = some s'
  | [], s, s', h => ⟨0, h⟩
  | o :: l, s, s', h => by
    obtain ⟨ix, d, op, after, gd⟩ := o
    have h : stepS Γω ⟨ix, d, op, after, gd⟩ (runOpsS Γω l) s = some s' := h
    have kk : ∀ {n m : Nat}, n ≤ m → KLeS (runOpsS (Γs n) l) (runOpsS (Γs m) l) := fun hnm => runOpsS_mono (hm _ _ hnm) l
    have yes : ∀ s s', runK d (runOpsS Γω l) (runOpS Γω op s) = some s' → ∃ n, runK d (runOpsS (Γs n) l) (runOpS (Γs n) op s) = some s' := fun s s' h => by
      cases h1 : runOpS Γω op s with
      | none => rw [h1] at h; cases h
      | some p =>
        rw [h1] at h
        obtain ⟨n1, hn1⟩ := runOpS_cont hm hc h1
        obtain ⟨n2, hn2⟩ := runOpsS_cont l _ _ h
        refine ⟨max n1 n2, ?_⟩
        rw [runOpS_mono (hm n1 _ (Nat.le_max_left _ _)) _ _ _ hn1]
        exact kk (Nat.le_max_right _ _) _ _ hn2
    have no : ∀ s s', skipK op.isC d (runOpsS Γω l) s = some s' → ∃ n, skipK op.isC d (runOpsS (Γs n) l) s = some s' := fun s s' h => runOpsS_cont l _ _ h
    unfold stepS at h
    simp only at h
    cases gd with
    | none => obtain ⟨n, hn⟩ := yes s s' h; exact ⟨n, hn⟩
    | some p =>
      simp only at h
      have go : ∀ n, stepS (Γs n) ⟨ix, d, op, after, some p⟩ (runOpsS (Γs n) l) s = guardK p.2 (fun s => runK d (runOpsS (Γs n) l) (runOpS (Γs n) op s)) (skipK op.isC d (runOpsS (Γs n) l)) s (get s.fr p.1) := fun n => rfl
      show ∃ n, stepS (Γs n) ⟨ix, d, op, after, some p⟩ (runOpsS (Γs n) l) s = some s'
      simp only [go]
      generalize get s.fr p.1 = vg at *
      unfold guardK at h ⊢
      split at h
      · rename_i b
        simp only
        cases hb : b == p.2 with
        | true => rw [hb] at h; exact yes s s' h
        | false => rw [hb] at h; exact no s s' h
      · exact no s s' h
      · cases h

theorem seqS_cont {yn : Nat → SDen} {y : SDen} (hmy : ∀ n m, n ≤ m → SLe (yn n) (yn m)) (hy : ∀ s r, y s = some r → ∃ n, yn n s = some r) {xn : Nat → Option (Out × SS)} {x : Option (Out × SS)} (hmx : MonoO xn) (hx : ∀ r, x = some r → ∃ n, xn n = some r) {r : Out × SS} (h : seqS y x = some r) : ∃ n, seqS (yn n) (xn n) = some r := by
  have _ := hm
  have _ := hc
  cases x with
  | none => cases h
  | some p =>
    obtain ⟨n1, hn1⟩ := hx p rfl
    obtain ⟨o, s⟩ := p
    cases o with
    | normal =>
      obtain ⟨n2, hn2⟩ := hy s r h
      refine ⟨max n1 n2, ?_⟩
      rw [hmx n1 _ (Nat.le_max_left _ _) _ hn1]
      exact hmy n2 _ (Nat.le_max_right _ _) _ _ hn2
    | exit i => exact ⟨n1, by rw [hn1]; exact h⟩
    | ret => exact ⟨n1, by rw [hn1]; exact h⟩

theorem execS_cont {k : Nat} : ∀ (c : ACode) (s : SS) (r : Out × SS), execS Γω loopW k c s = some r → ∃ n, execS (Γs n) (LN n) k c s = some r
  | .skip, s, r, h => ⟨0, h⟩
  | .region draw ops, s, r, h => by
    have h : regionS Γω draw ops s = some r := h
    unfold regionS at h
    cases h1 : runOpsS Γω ops ⟨s.fr, s.h, [], [], []⟩ with
    | none => rw [h1] at h; cases h
    | some r1 =>
      obtain ⟨n, hn⟩ := runOpsS_cont hm hc ops _ _ h1
      refine ⟨n, ?_⟩
      show regionS (Γs n) draw ops s = some r
      unfold regionS
      rw [hn]
      rw [h1] at h; exact h
  | .seq a b, s, r, h => seqS_cont hm hc (fun n m hnm => execS_mono (hm n m hnm) (LN_mono hnm) b) (execS_cont b) (fun n m hnm r hr => execS_mono (hm n m hnm) (LN_mono hnm) a s r hr) (execS_cont a s) h
  | .cond c a b, s, r, h => by
    have h : condS (execS Γω loopW k a) (execS Γω loopW k b) s (evS s.fr c) = some r := h
    show ∃ n, condS (execS (Γs n) (LN n) k a) (execS (Γs n) (LN n) k b) s (evS s.fr c) = some r
    generalize evS s.fr c = v at *
    unfold condS at h
    split at h
    · rename_i t
      cases t with
      | true => exact execS_cont a _ _ h
      | false => exact execS_cont b _ _ h
    · cases h
  | .block id c, s, r, h => by
    have h : blockS id (execS Γω loopW k c s) = some r := h
    cases h1 : execS Γω loopW k c s with
    | none => rw [h1] at h; cases h
    | some p =>
      obtain ⟨n, hn⟩ := execS_cont c _ _ h1
      refine ⟨n, ?_⟩
      show blockS id (execS (Γs n) (LN n) k c s) = some r
      rw [hn]; rw [h1] at h; exact h
  | .loop live c, s, r, h => by
    obtain ⟨m, hmm⟩ := loopW_some.1 h
    have key : ∀ (m : Nat) (s : SS) (r : Out × SS), loopNS (execS Γω loopW k c) (canonS k live) m s = some r → ∃ n, loopNS (execS (Γs n) (LN n) k c) (canonS k live) n s = some r := by
      intro m
      induction m with
      | zero => intro s r h; cases h
      | succ m ih =>
        intro s r h
        simp only [loopNS] at h
        cases h1 : canonS k live s with
        | none => rw [h1] at h; cases h
        | some s1 =>
          rw [h1] at h
          have mono : ∀ n m, n ≤ m → SLe (execS (Γs n) (LN n) k c) (execS (Γs m) (LN m) k c) := fun n m hnm => execS_mono (hm n m hnm) (LN_mono hnm) c
          obtain ⟨n, hn⟩ := seqS_cont hm hc (yn := fun n => loopNS (execS (Γs n) (LN n) k c) (canonS k live) n) (fun n m hnm => loopNS_mono (mono n m hnm) hnm) ih (xn := fun n => execS (Γs n) (LN n) k c s1) (fun n m hnm r hr => mono n m hnm s1 r hr) (execS_cont c s1) h
          refine ⟨n + 1, ?_⟩
          simp only [loopNS, h1]
          exact seqS_mono (loopNS_mono (mono n (n + 1) (Nat.le_succ n)) (Nat.le_refl n)) (mono n (n + 1) (Nat.le_succ n) s1) hn
    exact key m s r hmm
  | .exit id, s, r, h => ⟨0, h⟩
  | .ret, s, r, h => ⟨0, h⟩
  | .hint x c, s, r, h => by
    have h : hintS (execS Γω loopW k c) (runHS x s) = some r := h
    show ∃ n, hintS (execS (Γs n) (LN n) k c) (runHS x s) = some r
    cases h1 : runHS x s with
    | none => rw [h1] at h; cases h
    | some s1 => rw [h1] at h; exact execS_cont c _ _ h

theorem callOS_cont {A : AFun} {a : List V} {h : Heap} {r : V × Heap} (hr : callOS Γω loopW A a h = some r) : ∃ n, callOS (Γs n) (LN n) A a h = some r := by
  unfold callOS at hr
  cases h1 : execS Γω loopW h.length A.body ⟨initS 0 a, h⟩ with
  | none => rw [h1] at hr; cases hr
  | some p =>
    obtain ⟨n, hn⟩ := execS_cont hm hc _ _ _ h1
    refine ⟨n, ?_⟩
    unfold callOS
    rw [hn]; rw [h1] at hr; exact hr

theorem callAS_cont {A : AFun} {a : List V} {h : Heap} {r : V × Heap} (hr : callAS Γω loopW A a h = some r) : ∃ n, callAS (Γs n) (LN n) A a h = some r := by
  unfold callAS at hr ⊢
  cases hb : A.amb with
  | false => rw [hb] at hr; exact callOS_cont hm hc hr
  | true =>
    rw [hb] at hr
    simp only at hr ⊢
    cases hs : splitNil a with
    | none => rw [hs] at hr; exact callOS_cont hm hc hr
    | some p =>
      rw [hs] at hr
      simp only at hr ⊢
      cases h1 : callOS Γω loopW A p.1 h with
      | none => rw [h1] at hr; simp [agree] at hr
      | some r1 =>
        cases h2 : callOS Γω loopW A p.2 h with
        | none => rw [h1, h2] at hr; simp [agree] at hr
        | some r2 =>
          rw [h1, h2] at hr
          obtain ⟨n1, k1⟩ := callOS_cont hm hc h1
          obtain ⟨n2, k2⟩ := callOS_cont hm hc h2
          refine ⟨max n1 n2, ?_⟩
          rw [callOS_mono (hm n1 _ (Nat.le_max_left _ _)) (LN_mono (Nat.le_max_left _ _)) k1, callOS_mono (hm n2 _ (Nat.le_max_right _ _)) (LN_mono (Nat.le_max_right _ _)) k2]
          exact hr
end

/-- THE CALL's EQUATION. -/
theorem callW_eq (F : Nat → Option AFun) (T : List Ent) (f : Nat) (a : List V) (h : Heap) : callW F T f a h = match tabF T f a h with | some r => some r | none => match F f with | none => none | some A => callAS (callW F T) loopW A a h := by
  apply opt_ext
  intro r
  rw [callW_some]
  constructor
  · rintro ⟨n, hn⟩
    cases n with
    | zero => cases hn
    | succ n =>
      have hn : (match tabF T f a h with | some r => some r | none => match F f with | none => none | some A => callAS (callNS F T n) (LN n) A a h) = some r := hn
      cases h0 : tabF T f a h with
      | some r0 => rw [h0] at hn; exact hn
      | none =>
        rw [h0] at hn
        cases hA : F f with
        | none => rw [hA] at hn; cases hn
        | some A =>
          rw [hA] at hn
          exact callAS_mono (fun f a h r hr => callW_some.2 ⟨n, hr⟩) (LN_le_W n) hn
  · intro hr
    cases h0 : tabF T f a h with
    | some r0 =>
      rw [h0] at hr
      exact ⟨1, by simp only [callNS, h0]; exact hr⟩
    | none =>
      rw [h0] at hr
      cases hA : F f with
      | none => rw [hA] at hr; cases hr
      | some A =>
        rw [hA] at hr
        obtain ⟨n, hn⟩ := callAS_cont (Γs := callNS F T) (fun n m hnm => callNS_mono hnm) (fun f a h r hr => callW_some.1 hr) hr
        refine ⟨n + 1, ?_⟩
        show (match tabF T f a h with | some r => some r | none => match F f with | none => none | some A => callAS (callNS F T n) (LN n) A a h) = some r
        rw [h0, hA]; exact hn

theorem tabF_none : ∀ {T : List Ent} {f : Nat} {a : List V} {h : Heap}, (T.all fun e => e.f != f) = true → tabF T f a h = none
  | [], _, _, _, _ => rfl
  | e :: T, f, a, h, hT => by
    simp only [List.all_cons, Bool.and_eq_true, bne_iff_ne] at hT
    simp only [tabF]
    have : (e.f == f) = false := by simpa using hT.1
    rw [this]
    exact tabF_none (by simpa using hT.2)

theorem callW_of {F : Nat → Option AFun} {T : List Ent} {f : Nat} {A : AFun} (h0 : (T.all fun e => e.f != f) = true) (hA : F f = some A) (a : List V) (h : Heap) : callW F T f a h = callAS (callW F T) loopW A a h := by
  rw [callW_eq, hA, tabF_none h0]

theorem callW_tab {F : Nat → Option AFun} {T : List Ent} {f : Nat} {a : List V} {h : Heap} {r : V × Heap} (h0 : tabF T f a h = some r) : callW F T f a h = some r := by
  rw [callW_eq, h0]

/-- THE LOOP's EQUATION. -/
theorem loopW_eq (d : SDen) (hd : SS → Option SS) (s : SS) : loopW d hd s = match hd s with | none => none | some s => seqS (loopW d hd) (d s) := by
  apply opt_ext
  intro r
  rw [loopW_some]
  constructor
  · rintro ⟨n, hn⟩
    cases n with
    | zero => cases hn
    | succ n =>
      simp only [loopNS] at hn
      cases h1 : hd s with
      | none => rw [h1] at hn; cases hn
      | some s1 =>
        rw [h1] at hn
        exact seqS_mono (fun s r h => loopW_some.2 ⟨n, h⟩) (fun r h => h) hn
  · intro hr
    cases h1 : hd s with
    | none => rw [h1] at hr; cases hr
    | some s1 =>
      rw [h1] at hr
      simp only at hr
      cases h2 : d s1 with
      | none => rw [h2] at hr; cases hr
      | some p =>
        obtain ⟨o, s2⟩ := p
        rw [h2] at hr
        cases o with
        | normal =>
          obtain ⟨n, hn⟩ := loopW_some.1 hr
          exact ⟨n + 1, by simp only [loopNS, h1, h2]; exact hn⟩
        | exit i => exact ⟨1, by simp only [loopNS, h1, h2]; exact hr⟩
        | ret => exact ⟨1, by simp only [loopNS, h1, h2]; exact hr⟩

/-- What the limit answers, the evaluator answers. -/
theorem callW_has {F : Nat → Option AFun} {T : List Ent} (hF : ∀ f A, F f = some A → dstOk A.ntmps A.body = true) (hT : OKs F T) {f : Nat} {a : List V} {h : Heap} {r : V × Heap} (hr : callW F T f a h = some r) : Has F f a h r := by
  obtain ⟨n, hn⟩ := callW_some.1 hr
  obtain ⟨N, hN⟩ := oks_fuel hT
  exact ⟨n + N, callNS_sim hF (tabF_le hN) n _ _ _ _ hn⟩
end Go.PV
