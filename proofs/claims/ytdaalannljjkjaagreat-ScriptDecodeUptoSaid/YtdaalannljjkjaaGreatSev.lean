/- The evaluator once more, for reasoning: frames as lists of what was written, no forcing. It answers as the evaluator does. -/
import Derived.Test.YtdaalannljjkjaaGreatMono
import Derived.Test.YtdaalannljjkjaaGreatDraw2
set_option linter.unusedVariables false
set_option linter.unusedSimpArgs false
namespace Go.PV

abbrev AL := List (Nat × V)
def get : AL → Nat → V
  | [], _ => .junk
  | p :: t, i => if p.1 = i then p.2 else get t i

structure SS where
  fr : AL
  h : Heap

structure RS where
  fr : AL
  h : Heap
  segs : List Heap
  lds : List Ld
  nws : List Nw

def evS (fr : AL) : AOprd → V
  | .t n => get fr n
  | .c x => .r x

/-- A call, without forcing. -/
def doCallU (Γ : CallF) (f : Nat) (args : List V) (h : Heap) : Option (V × Heap) :=
  match rename h (reach h fuelR (V.idsL args) []) args with
  | none => none
  | some (args', lh) => match Γ f args' lh with
    | none => none
    | some (v, lh) => match v.tr (backσ (reach h fuelR (V.idsL args) []) h.length), trBlks (backσ (reach h fuelR (V.idsL args) []) h.length) lh with
      | some v, some lh => if (reach h fuelR (V.idsL args) []).length ≤ lh.length then some (v, putBlks h (reach h fuelR (V.idsL args) []) (lh.take (reach h fuelR (V.idsL args) []).length) ++ lh.drop (reach h fuelR (V.idsL args) []).length) else none
      | _, _ => none
def callvCU (Γ : CallF) (xs : List V) (h : Heap) : Option (V × Heap) :=
  match xs with
  | [] => none
  | x :: t => match x with
    | .r (.fn f) => doCallU Γ f t h
    | .fn f a c => doCallU Γ f (a ++ t ++ c) h
    | _ => none
noncomputable def runCU (Γ : CallF) (op : COp) (xs : List V) (h : Heap) : Option (V × Heap) :=
  match op with
  | .call f => doCallU Γ f xs h
  | .callv => callvCU Γ xs h
  | op => runC Γ op xs h
theorem doCallU_eq (Γ : CallF) (f : Nat) (args : List V) (h : Heap) : doCallU Γ f args h = doCall Γ f args h := by
  unfold doCallU doCall
  simp only [withVL_eq, withH_eq]
  cases rename h (reach h fuelR (V.idsL args) []) args with
  | none => rfl
  | some p =>
    simp only
    cases Γ f p.1 p.2 with
    | none => rfl
    | some q =>
      simp only
      cases q.1.tr (backσ (reach h fuelR (V.idsL args) []) h.length) <;> cases trBlks (backσ (reach h fuelR (V.idsL args) []) h.length) q.2 <;> rfl
theorem runCU_eq (Γ : CallF) (op : COp) (xs : List V) (h : Heap) : runCU Γ op xs h = runC Γ op xs h := by
  cases op <;> try rfl
  case call f => exact doCallU_eq ..
  case callv =>
    simp only [runCU, runC, callvCU, callvC]
    cases xs with
    | nil => rfl
    | cons x t =>
      simp only
      cases x <;> try rfl
      case r x => cases x <;> try rfl
                  exact doCallU_eq ..
      case fn f a c => exact doCallU_eq ..

noncomputable def runOpS (Γ : CallF) (o : AOp) (s : RS) : Option (V × RS) :=
  match o with
  | .p op xs => match runP op (xs.map (evS s.fr)) with | some v => some (v, s) | none => none
  | .ld ag n x lo hi => match loadH s.h ag n (evS s.fr x) with
    | some v => some (v, if lo < hi then ⟨s.fr, s.h, s.segs, ⟨evS s.fr x, ag, n, v, lo, hi⟩ :: s.lds, s.nws⟩ else s)
    | none => none
  | .b2s x => match elemsS s.h (evS s.fr x) with
    | some xs => match u8s xs with | some l => some (.r (.str l), s) | none => none
    | none => none
  | .n op xs lo hi => match runN op (xs.map (evS s.fr)) with
    | some (b, k) => some (k s.h.length, ⟨s.fr, s.h ++ [b], s.segs, s.lds, if lo < hi then ⟨s.h.length, b, lo, hi⟩ :: s.nws else s.nws⟩)
    | none => none
  | .bad => none
  | .c op xs => match runCU Γ op (xs.map (evS s.fr)) s.h with | some (v, h) => some (v, ⟨s.fr, h, s.segs ++ [s.h], s.lds, s.nws⟩) | none => none

abbrev RK := RS → Option RS
def putS (d : Option Nat) (v : V) (fr : AL) : AL := match d with | some d => (d, v) :: fr | none => fr
def runK (d : Option Nat) (k : RK) (x : Option (V × RS)) : Option RS :=
  match x with | none => none | some (v, s) => k ⟨putS d v s.fr, s.h, s.segs, s.lds, s.nws⟩
def skipK (c : Bool) (d : Option Nat) (k : RK) (s : RS) : Option RS := k ⟨putS d (.tup []) s.fr, s.h, match c with | true => s.segs ++ [s.h] | false => s.segs, s.lds, s.nws⟩
def guardK (w : Bool) (yes no : RK) (s : RS) (v : V) : Option RS :=
  match v with
  | .r (.bool b) => match b == w with | true => yes s | false => no s
  | .tup [] => no s
  | _ => none

noncomputable def stepS (Γ : CallF) (o : AOper) (k : RK) (s : RS) : Option RS :=
  match o with
  | ⟨_, d, op, _, g⟩ => match g with
    | none => runK d k (runOpS Γ op s)
    | some (g, w) => guardK w (fun s => runK d k (runOpS Γ op s)) (skipK op.isC d k) s (get s.fr g)

noncomputable def runOpsS (Γ : CallF) : List AOper → RK
  | [] => fun s => some s
  | o :: l => stepS Γ o (runOpsS Γ l)

def liveIdx : Nat → List Bool → List Nat
  | _, [] => []
  | i, true :: t => i :: liveIdx (i + 1) t
  | i, false :: t => liveIdx (i + 1) t

def canonS (k : Nat) (live : List Bool) (s : SS) : Option SS :=
  match rename s.h (keepOf s.h k ((liveIdx 0 live).map (get s.fr))) ((liveIdx 0 live).map (get s.fr)) with
  | some (vs, h) => some ⟨(liveIdx 0 live).zip vs, h⟩
  | none => none

abbrev SDen := SS → Option (Out × SS)

noncomputable def regionS (Γ : CallF) (draw : Bool) (ops : List AOper) (s : SS) : Option (Out × SS) :=
  match runOpsS Γ ops ⟨s.fr, s.h, [], [], []⟩ with
  | none => none
  | some r => match draw with
    | false => some (.normal, ⟨r.fr, r.h⟩)
    | true => match ldsOk (r.segs ++ [r.h]) r.lds && nwsOk (r.segs ++ [r.h]) r.nws with
      | true => some (.normal, ⟨r.fr, r.h⟩)
      | false => none

def seqS (y : SDen) (x : Option (Out × SS)) : Option (Out × SS) :=
  match x with
  | none => none
  | some (o, s) => match o with
    | .normal => y s
    | .exit i => some (.exit i, s)
    | .ret => some (.ret, s)
def condS (x y : SDen) (s : SS) (v : V) : Option (Out × SS) :=
  match v with
  | .r (.bool t) => match t with | true => x s | false => y s
  | _ => none
def blockS (id : Nat) (x : Option (Out × SS)) : Option (Out × SS) :=
  match x with
  | none => none
  | some (o, s) => match o with
    | .normal => some (.normal, s)
    | .exit i => if i = id then some (.normal, s) else some (.exit i, s)
    | .ret => some (.ret, s)

def loopNS (step : SDen) (head : SS → Option SS) : Nat → SDen
  | 0, _ => none
  | n + 1, s => match head s with
    | none => none
    | some s => seqS (loopNS step head n) (step s)

def runHS (x : Hint) (s : SS) : Option SS :=
  match x with
  | .freeze t => match freezeV s.h (get s.fr t) with | some (v, h) => some ⟨(t, v) :: s.fr, h⟩ | none => none
  | .own t sz => some ⟨(t, (ownV s.h sz (get s.fr t)).1) :: s.fr, (ownV s.h sz (get s.fr t)).2⟩
def hintS (y : SDen) (x : Option SS) : Option (Out × SS) := match x with | some s => y s | none => none

abbrev LoopF := SDen → (SS → Option SS) → SDen

noncomputable def execS (Γ : CallF) (L : LoopF) (k : Nat) : ACode → SDen
  | .skip => fun s => some (.normal, s)
  | .region draw ops => regionS Γ draw ops
  | .seq a b => fun s => seqS (execS Γ L k b) (execS Γ L k a s)
  | .cond c a b => fun s => condS (execS Γ L k a) (execS Γ L k b) s (evS s.fr c)
  | .block id c => fun s => blockS id (execS Γ L k c s)
  | .loop live c => L (execS Γ L k c) (canonS k live)
  | .exit id => fun s => some (.exit id, s)
  | .ret => fun s => some (.ret, s)
  | .hint x c => fun s => hintS (execS Γ L k c) (runHS x s)

def resS (s : SS) : List ResV → Option (List V)
  | [] => some []
  | .tmp t :: r => match resS s r with | some l => some (get s.fr t :: l) | none => none
  | .cell t ag n :: r => match loadH s.h ag n (get s.fr t), resS s r with | some v, some l => some (v :: l) | _, _ => none

def finishS (k : Nat) (res : List ResV) (s : SS) : Option (V × Heap) :=
  match resS s res with
  | none => none
  | some vs => match rename s.h (keepOf s.h k vs) vs with
    | some (vs, h) => some (packRes vs, h)
    | none => none

def initS : Nat → List V → AL
  | _, [] => []
  | i, v :: t => (i, v) :: initS (i + 1) t

def endS (k : Nat) (res : List ResV) (x : Option (Out × SS)) : Option (V × Heap) :=
  match x with
  | none => none
  | some (o, s) => match o with
    | .exit _ => none
    | _ => finishS k res s

noncomputable def callOS (Γ : CallF) (L : LoopF) (A : AFun) (args : List V) (h : Heap) : Option (V × Heap) :=
  endS h.length A.res (execS Γ L h.length A.body ⟨initS 0 args, h⟩)

noncomputable def callAS (Γ : CallF) (L : LoopF) (A : AFun) (args : List V) (h : Heap) : Option (V × Heap) :=
  match A.amb with
  | false => callOS Γ L A args h
  | true => match splitNil args with
    | none => callOS Γ L A args h
    | some (a, b) => agree (callOS Γ L A a h) (callOS Γ L A b h)

/-- Calls by fuel; the table T's calls are known. -/
noncomputable def callNS (F : Nat → Option AFun) (T : List Ent) : Nat → CallF
  | 0 => fun _ _ _ => none
  | n + 1 => fun f args h => match tabF T f args h with
    | some r => some r
    | none => match F f with
      | none => none
      | some A => callAS (callNS F T n) (fun d hd => loopNS d hd n) A args h

/-! ### it answers as the evaluator does -/
def FrEq (al : AL) (fr : List V) : Prop := ∀ i, get al i = nthV fr i

def dstOps (m : Nat) (l : List AOper) : Bool := l.all fun o => match o.dst with | some d => decide (d < m) | none => true
def dstOk (m : Nat) : ACode → Bool
  | .region _ ops => dstOps m ops
  | .seq a b => dstOk m a && dstOk m b
  | .cond _ a b => dstOk m a && dstOk m b
  | .block _ c => dstOk m c
  | .loop _ c => dstOk m c
  | .hint x c => (match x with | .freeze t => decide (t < m) | .own t _ => decide (t < m)) && dstOk m c
  | _ => true

theorem FrEq.ev {al : AL} {fr : List V} (h : FrEq al fr) : evS al = ev fr := by
  funext x; cases x with
  | t n => exact h n
  | c x => rfl

theorem get_cons (p : Nat × V) (t : AL) (i : Nat) : get (p :: t) i = if p.1 = i then p.2 else get t i := rfl

theorem nthV_set {fr : List V} {d i : Nat} {v : V} (hd : d < fr.length) : nthV (fr.set d v) i = if d = i then v else nthV fr i := by
  rw [nthV_eq, nthV_eq, List.getD, List.getD, List.getElem?_set]
  by_cases h : d = i
  · subst h; simp [hd]
  · simp [h]

theorem FrEq.put {al : AL} {fr : List V} (h : FrEq al fr) {d : Option Nat} {v : V} (hd : ∀ x, d = some x → x < fr.length) : FrEq (putS d v al) (putF fr d v) := by
  cases d with
  | none => exact h
  | some d =>
    intro i
    simp only [putS, putF]
    rw [get_cons, nthV_set (hd d rfl)]
    simp only
    rw [h i]

def toR (s : RS) (fr : List V) : RSt := ⟨fr, s.h, s.segs, s.lds, s.nws⟩

theorem runOpS_sim {Γ : CallF} {op : AOp} {s s1 : RS} {v : V} {fr : List V} (hf : FrEq s.fr fr) (hr : runOpS Γ op s = some (v, s1)) : runOp Γ op (toR s fr) = some (v, toR s1 fr) ∧ s1.fr = s.fr := by
  have he := hf.ev
  cases op <;> simp only [runOpS, he, runCU_eq] at hr <;> simp only [runOp, toR]
  case p op xs =>
    cases h1 : runP op (xs.map (ev fr)) with
    | none => rw [h1] at hr; cases hr
    | some v1 => rw [h1] at hr; cases hr; exact ⟨rfl, rfl⟩
  case ld ag n x lo hi =>
    cases h1 : loadH s.h ag n (ev fr x) with
    | none => rw [h1] at hr; cases hr
    | some v1 =>
      rw [h1] at hr
      by_cases hl : lo < hi
      · simp only [hl, if_true] at hr ⊢; cases hr; exact ⟨rfl, rfl⟩
      · simp only [hl, if_false] at hr ⊢; cases hr; exact ⟨rfl, rfl⟩
  case b2s x =>
    cases h1 : elemsS s.h (ev fr x) with
    | none => rw [h1] at hr; cases hr
    | some xs =>
      rw [h1] at hr
      cases h2 : u8s xs with
      | none => simp only [h2] at hr; cases hr
      | some l => simp only [h2] at hr ⊢; cases hr; exact ⟨rfl, rfl⟩
  case n op xs lo hi =>
    cases h1 : runN op (xs.map (ev fr)) with
    | none => rw [h1] at hr; cases hr
    | some v1 => rw [h1] at hr; cases hr; exact ⟨rfl, rfl⟩
  case c op xs =>
    cases h1 : runC Γ op (xs.map (ev fr)) s.h with
    | none => rw [h1] at hr; cases hr
    | some v1 => rw [h1] at hr; cases hr; exact ⟨rfl, rfl⟩
  case bad => cases hr

def KSim (m : Nat) (k : RK) (k' : RDen) : Prop := ∀ (s s' : RS) (fr : List V), FrEq s.fr fr → m ≤ fr.length → k s = some s' → ∃ fr', k' (toR s fr) = some (toR s' fr') ∧ FrEq s'.fr fr' ∧ fr'.length = fr.length

theorem stepS_sim {Γ : CallF} {m : Nat} {o : AOper} {k : RK} {k' : RDen} (hd : ∀ x, o.dst = some x → x < m) (hk : KSim m k k') : KSim m (stepS Γ o k) (stepOp Γ o k') := by
  obtain ⟨ix, d, op, after, gd⟩ := o
  simp only at hd
  have yes : ∀ (s s' : RS) (fr : List V), FrEq s.fr fr → m ≤ fr.length → runK d k (runOpS Γ op s) = some s' → ∃ fr', afterOp d k' (runOp Γ op (toR s fr)) = some (toR s' fr') ∧ FrEq s'.fr fr' ∧ fr'.length = fr.length := fun s s' fr hf hm hr => by
    unfold runK at hr
    split at hr
    · cases hr
    · rename_i v s1 hrun
      obtain ⟨h1, h2⟩ := runOpS_sim hf hrun
      obtain ⟨fr', h3, h4, h5⟩ := hk ⟨putS d v s1.fr, s1.h, s1.segs, s1.lds, s1.nws⟩ s' (putF fr d v) (by simp only; rw [h2]; exact hf.put fun x hx => Nat.lt_of_lt_of_le (hd x hx) hm) (by rw [putF_len]; exact hm) hr
      refine ⟨fr', ?_, h4, by rw [h5, putF_len]⟩
      unfold afterOp
      rw [h1]
      simp only [withV_eq, withH_eq, putK_eq, toR]
      exact h3
  have no : ∀ (s s' : RS) (fr : List V), FrEq s.fr fr → m ≤ fr.length → skipK op.isC d k s = some s' → ∃ fr', skipOp op.isC d k' (toR s fr) = some (toR s' fr') ∧ FrEq s'.fr fr' ∧ fr'.length = fr.length := fun s s' fr hf hm hr => by
    unfold skipK at hr
    obtain ⟨fr', h3, h4, h5⟩ := hk _ s' (putF fr d (.tup [])) (hf.put fun x hx => Nat.lt_of_lt_of_le (hd x hx) hm) (by rw [putF_len]; exact hm) hr
    refine ⟨fr', ?_, h4, by rw [h5, putF_len]⟩
    unfold skipOp
    rw [putK_eq]
    exact h3
  intro s s' fr hf hm h
  unfold stepS at h
  unfold stepOp
  simp only at h ⊢
  cases gd with
  | none => exact yes s s' fr hf hm h
  | some p =>
    obtain ⟨g, w⟩ := p
    simp only at h ⊢
    have hg : nthV (toR s fr).fr g = get s.fr g := (hf g).symm
    rw [hg]
    generalize get s.fr g = vg at *
    unfold guardK at h
    unfold guardOp
    split at h
    · rename_i b
      simp only
      cases hb : b == w with
      | true => rw [hb] at h; exact yes s s' fr hf hm h
      | false => rw [hb] at h; exact no s s' fr hf hm h
    · exact no s s' fr hf hm h
    · cases h

theorem runOpsS_sim {Γ : CallF} {m : Nat} : ∀ (l : List AOper), dstOps m l = true → KSim m (runOpsS Γ l) (runOps Γ l)
  | [], _ => fun s s' fr hf hm h => by cases h; exact ⟨fr, rfl, hf, rfl⟩
  | o :: l, hd => by
    simp only [dstOps, List.all_cons, Bool.and_eq_true] at hd
    rw [runOps_cons]
    refine stepS_sim (fun x hx => ?_) (runOpsS_sim l hd.2)
    have := hd.1
    rw [hx] at this
    simpa using this

def DSim (m : Nat) (d : SDen) (d' : Den) : Prop := ∀ (s s' : SS) (o : Out) (fr : List V), FrEq s.fr fr → m ≤ fr.length → d s = some (o, s') → ∃ fr', d' ⟨fr, s.h⟩ = some (o, ⟨fr', s'.h⟩) ∧ FrEq s'.fr fr' ∧ fr'.length = fr.length

theorem idsL_junk : ∀ (l : List V), V.idsL (l.map fun _ => V.junk) = []
  | [] => rfl
  | _ :: t => by simp [V.idsL, V.ids, idsL_junk t]
theorem trL_junk (σ : Nat → Option Nat) : ∀ (l : List V), V.trL σ (l.map fun _ => V.junk) = some (l.map fun _ => V.junk)
  | [] => rfl
  | _ :: t => by simp [V.trL, V.tr, trL_junk σ t]
theorem nthV_junk (l : List V) (i : Nat) : nthV (l.map fun _ => V.junk) i = .junk := by
  rw [nthV_eq, List.getD, List.getElem?_map]
  cases l[i]? <;> rfl
theorem nthV_nil (i : Nat) : nthV [] i = .junk := rfl

theorem mask_ids {f : Nat → V} : ∀ (live : List Bool) (fr : List V) (i : Nat), (∀ j, f (i + j) = nthV fr j) → V.idsL ((liveIdx i live).map f) = V.idsL (maskF live fr)
  | [], fr, i, hf => by cases fr <;> simp [liveIdx, maskF, V.idsL, V.ids, idsL_junk]
  | true :: m, [], i, hf => by
    have h0 := hf 0
    rw [nthV_nil] at h0
    have := mask_ids (f := f) m [] (i + 1) fun j => by rw [show i + 1 + j = i + (j + 1) by omega, hf, nthV_nil, nthV_nil]
    simp only [liveIdx, List.map_cons, V.idsL]
    rw [show f i = .junk from h0, this]
    cases m <;> simp [maskF, V.ids, V.idsL]
  | false :: m, [], i, hf => by
    have := mask_ids (f := f) m [] (i + 1) fun j => by rw [show i + 1 + j = i + (j + 1) by omega, hf, nthV_nil, nthV_nil]
    simp only [liveIdx]
    rw [this]
    cases m <;> simp [maskF]
  | true :: m, v :: t, i, hf => by
    have h0 : f i = v := hf 0
    have := mask_ids (f := f) m t (i + 1) fun j => by rw [show i + 1 + j = i + (j + 1) by omega, hf]; rfl
    simp only [liveIdx, List.map_cons, V.idsL, maskF]
    rw [h0, this]
  | false :: m, v :: t, i, hf => by
    have := mask_ids (f := f) m t (i + 1) fun j => by rw [show i + 1 + j = i + (j + 1) by omega, hf]; rfl
    simp only [liveIdx, maskF, V.idsL]
    rw [this]; rfl

theorem get_lt : ∀ (live : List Bool) (i : Nat) (vs : List V) (x : Nat), x < i → get ((liveIdx i live).zip vs) x = .junk
  | [], i, vs, x, h => rfl
  | true :: m, i, [], x, h => rfl
  | true :: m, i, v :: vs, x, h => by
    simp only [liveIdx, List.zip_cons_cons, get_cons]
    rw [if_neg (by omega)]
    exact get_lt m (i + 1) vs x (by omega)
  | false :: m, i, vs, x, h => get_lt m (i + 1) vs x (by omega)

theorem get_nojunk : ∀ (l : List Nat) (vs : List V) (x : Nat), (∀ v ∈ vs, v = .junk) → get (l.zip vs) x = .junk
  | [], vs, x, h => rfl
  | _ :: _, [], x, h => rfl
  | i :: l, v :: vs, x, h => by
    simp only [List.zip_cons_cons, get_cons]
    split
    · exact h v (List.mem_cons_self ..)
    · exact get_nojunk l vs x fun u hu => h u (List.mem_cons_of_mem _ hu)

theorem trL_all_junk {σ : Nat → Option Nat} : ∀ (l vs : List V), (∀ v ∈ l, v = .junk) → V.trL σ l = some vs → ∀ v ∈ vs, v = .junk
  | [], vs, _, h => by cases h; intro v hv; cases hv
  | x :: l, vs, hl, h => by
    have hx := hl x (List.mem_cons_self ..)
    subst hx
    simp only [V.trL, V.tr] at h
    cases ht : V.trL σ l with
    | none => rw [ht] at h; cases h
    | some t =>
      rw [ht] at h
      cases h
      intro v hv
      cases hv with
      | head => rfl
      | tail _ hv => exact trL_all_junk l t (fun u hu => hl u (List.mem_cons_of_mem _ hu)) ht v hv

theorem mask_tr {σ : Nat → Option Nat} {f : Nat → V} : ∀ (live : List Bool) (fr : List V) (i : Nat) (vs : List V), (∀ j, f (i + j) = nthV fr j) → V.trL σ ((liveIdx i live).map f) = some vs →
    ∃ fr', V.trL σ (maskF live fr) = some fr' ∧ fr'.length = fr.length ∧ ∀ j, get ((liveIdx i live).zip vs) (i + j) = nthV fr' j
  | [], fr, i, vs, hf, h => by
    refine ⟨fr.map fun _ => .junk, ?_, by simp, fun j => ?_⟩
    · have : maskF [] fr = fr.map fun _ => .junk := by cases fr <;> rfl
      rw [this]; exact trL_junk σ fr
    · rw [nthV_junk]; rfl
  | b :: m, [], i, vs, hf, h => by
    refine ⟨[], by cases b <;> simp [maskF, V.trL], rfl, fun j => ?_⟩
    rw [nthV_nil]
    refine get_nojunk _ _ _ (trL_all_junk _ _ (fun v hv => ?_) h)
    obtain ⟨x, hx, rfl⟩ := List.mem_map.1 hv
    have hge : i ≤ x := by
      have : ∀ (l : List Bool) (i x : Nat), x ∈ liveIdx i l → i ≤ x := by
        intro l
        induction l with
        | nil => intro i x hx; cases hx
        | cons b l ih =>
          intro i x hx
          cases b with
          | true =>
            simp only [liveIdx, List.mem_cons] at hx
            rcases hx with rfl | hx
            · exact Nat.le_refl _
            · have := ih _ _ hx; omega
          | false => have := ih _ _ hx; omega
      exact this _ _ _ hx
    have := hf (x - i)
    rw [show i + (x - i) = x by omega, nthV_nil] at this
    exact this
  | true :: m, v :: t, i, vs, hf, h => by
    have h0 : f i = v := hf 0
    simp only [liveIdx, List.map_cons, V.trL] at h
    rw [h0] at h
    split at h <;> try cases h
    rename_i v' vs' hv hvs
    obtain ⟨fr', k1, k2, k3⟩ := mask_tr m t (i + 1) vs' (fun j => by rw [show i + 1 + j = i + (j + 1) by omega, hf]; rfl) hvs
    refine ⟨v' :: fr', by simp only [maskF, V.trL, hv, k1], by simp [k2], fun j => ?_⟩
    simp only [liveIdx, List.zip_cons_cons, get_cons]
    cases j with
    | zero => simp; rfl
    | succ j => rw [if_neg (by omega), show i + (j + 1) = i + 1 + j by omega, k3]; rfl
  | false :: m, v :: t, i, vs, hf, h => by
    simp only [liveIdx] at h ⊢
    obtain ⟨fr', k1, k2, k3⟩ := mask_tr m t (i + 1) vs (fun j => by rw [show i + 1 + j = i + (j + 1) by omega, hf]; rfl) h
    refine ⟨.junk :: fr', by simp only [maskF, V.trL, V.tr, k1], by simp [k2], fun j => ?_⟩
    cases j with
    | zero => exact get_lt m (i + 1) vs i (by omega)
    | succ j => rw [show i + (j + 1) = i + 1 + j by omega, k3]; rfl

theorem canonS_sim {k : Nat} {live : List Bool} {s s1 : SS} {fr : List V} (hf : FrEq s.fr fr) (h : canonS k live s = some s1) : ∃ fr1, canon k live ⟨fr, s.h⟩ = some ⟨fr1, s1.h⟩ ∧ FrEq s1.fr fr1 ∧ fr1.length = fr.length := by
  unfold canonS at h
  split at h <;> cases h
  rename_i vs h' hr
  have hk : keepOf s.h k ((liveIdx 0 live).map (get s.fr)) = keepOf s.h k (maskF live fr) := by
    unfold keepOf
    rw [mask_ids (f := get s.fr) live fr 0 fun j => by rw [Nat.zero_add]; exact hf j]
  rw [hk] at hr
  unfold rename at hr
  split at hr <;> try cases hr
  rename_i vs2 l h1 h2
  split at hr <;> cases hr
  rename_i l' h3
  obtain ⟨fr', k1, k2, k3⟩ := mask_tr live fr 0 vs (fun j => by rw [Nat.zero_add]; exact hf j) h1
  refine ⟨fr', ?_, fun i => by have := k3 i; rwa [Nat.zero_add] at this, k2⟩
  unfold canon rename
  simp only [k1, h2, h3, withVL_eq, withH_eq]

theorem loopNS_sim {m : Nat} {d : SDen} {d' : Den} {hd : SS → Option SS} {hd' : St → Option St} (h : DSim m d d')
    (hh : ∀ (s s1 : SS) (fr : List V), FrEq s.fr fr → hd s = some s1 → ∃ fr1, hd' ⟨fr, s.h⟩ = some ⟨fr1, s1.h⟩ ∧ FrEq s1.fr fr1 ∧ fr1.length = fr.length) : ∀ n, DSim m (loopNS d hd n) (loopN d' hd' n)
  | 0 => fun s s' o fr _ _ hr => by cases hr
  | n + 1 => fun s s' o fr hf hm hr => by
    simp only [loopNS] at hr
    simp only [loopN]
    split at hr <;> try cases hr
    rename_i s1 h1
    obtain ⟨fr1, k1, k2, k3⟩ := hh s s1 fr hf h1
    rw [k1]
    simp only
    unfold seqS at hr
    unfold loopK
    split at hr <;> try cases hr
    rename_i o2 s2 h2
    obtain ⟨fr2, l1, l2, l3⟩ := h s1 s2 o2 fr1 k2 (by omega) h2
    rw [l1]
    simp only
    split at hr
    · obtain ⟨fr3, m1, m2, m3⟩ := loopNS_sim h hh n s2 s' o fr2 l2 (by omega) hr
      exact ⟨fr3, m1, m2, by omega⟩
    · cases hr; exact ⟨fr2, rfl, l2, by omega⟩
    · cases hr; exact ⟨fr2, rfl, l2, by omega⟩

theorem execS_sim {Γ : CallF} {m n k : Nat} : ∀ (c : ACode), dstOk m c = true → DSim m (execS Γ (fun d hd => loopNS d hd n) k c) (exec Γ n k c)
  | .skip, _ => fun s s' o fr hf hm h => by cases h; exact ⟨fr, rfl, hf, rfl⟩
  | .region draw ops, hd => fun s s' o fr hf hm h => by
    have h : regionS Γ draw ops s = some (o, s') := h
    show ∃ fr', dRegion Γ draw ops ⟨fr, s.h⟩ = some (o, ⟨fr', s'.h⟩) ∧ _
    unfold regionS at h
    split at h <;> try cases h
    rename_i r hr
    obtain ⟨fr', k1, k2, k3⟩ := runOpsS_sim ops hd ⟨s.fr, s.h, [], [], []⟩ r fr hf hm hr
    unfold dRegion
    rw [show runOps Γ ops ⟨fr, s.h, [], [], []⟩ = some (toR r fr') from k1]
    simp only [toR]
    cases draw with
    | false => simp only at h ⊢; cases h; exact ⟨fr', rfl, k2, k3⟩
    | true =>
      simp only at h ⊢
      cases hb : ldsOk (r.segs ++ [r.h]) r.lds && nwsOk (r.segs ++ [r.h]) r.nws with
      | true => rw [hb] at h; cases h; exact ⟨fr', rfl, k2, k3⟩
      | false => rw [hb] at h; cases h
  | .seq a b, hd => fun s s' o fr hf hm h => by
    simp only [dstOk, Bool.and_eq_true] at hd
    have h : seqS (execS Γ _ k b) (execS Γ _ k a s) = some (o, s') := h
    show ∃ fr', dSeqK (exec Γ n k b) (exec Γ n k a ⟨fr, s.h⟩) = some (o, ⟨fr', s'.h⟩) ∧ _
    unfold seqS at h
    split at h <;> try cases h
    rename_i o1 s1 h1
    obtain ⟨fr1, k1, k2, k3⟩ := execS_sim a hd.1 s s1 o1 fr hf hm h1
    rw [k1]
    unfold dSeqK
    simp only
    split at h
    · obtain ⟨fr2, l1, l2, l3⟩ := execS_sim b hd.2 s1 s' o fr1 k2 (by omega) h
      exact ⟨fr2, l1, l2, by omega⟩
    · cases h; exact ⟨fr1, rfl, k2, k3⟩
    · cases h; exact ⟨fr1, rfl, k2, k3⟩
  | .cond c a b, hd => fun s s' o fr hf hm h => by
    simp only [dstOk, Bool.and_eq_true] at hd
    have h : condS (execS Γ _ k a) (execS Γ _ k b) s (evS s.fr c) = some (o, s') := h
    show ∃ fr', dCondK (exec Γ n k a) (exec Γ n k b) ⟨fr, s.h⟩ (ev fr c) = some (o, ⟨fr', s'.h⟩) ∧ _
    rw [hf.ev] at h
    generalize ev fr c = v at *
    unfold condS at h
    unfold dCondK
    split at h
    · simp only
      split at h
      · exact execS_sim a hd.1 s s' o fr hf hm h
      · exact execS_sim b hd.2 s s' o fr hf hm h
    · cases h
  | .block id c, hd => fun s s' o fr hf hm h => by
    have h : blockS id (execS Γ _ k c s) = some (o, s') := h
    show ∃ fr', dBlockK id (exec Γ n k c ⟨fr, s.h⟩) = some (o, ⟨fr', s'.h⟩) ∧ _
    unfold blockS at h
    split at h <;> try cases h
    rename_i o1 s1 h1
    obtain ⟨fr1, k1, k2, k3⟩ := execS_sim c hd s s1 o1 fr hf hm h1
    rw [k1]
    unfold dBlockK
    simp only
    split at h
    · cases h; exact ⟨fr1, rfl, k2, k3⟩
    · split at h
      · rename_i hi; cases h; exact ⟨fr1, if_pos hi, k2, k3⟩
      · rename_i hi; cases h; exact ⟨fr1, if_neg hi, k2, k3⟩
    · cases h; exact ⟨fr1, rfl, k2, k3⟩
  | .loop live c, hd => loopNS_sim (execS_sim c hd) (fun s s1 fr hf h => canonS_sim hf h) n
  | .exit id, _ => fun s s' o fr hf hm h => by cases h; exact ⟨fr, rfl, hf, rfl⟩
  | .ret, _ => fun s s' o fr hf hm h => by cases h; exact ⟨fr, rfl, hf, rfl⟩
  | .hint x c, hd => fun s s' o fr hf hm h => by
    simp only [dstOk, Bool.and_eq_true] at hd
    have h : hintS (execS Γ _ k c) (runHS x s) = some (o, s') := h
    show ∃ fr', dHint x (exec Γ n k c) ⟨fr, s.h⟩ = some (o, ⟨fr', s'.h⟩) ∧ _
    cases x with
    | freeze t =>
      have ht : t < m := by simpa using hd.1
      simp only [runHS, hf t] at h
      unfold dHint
      simp only [runH]
      cases h1 : freezeV s.h (nthV fr t) with
      | none => rw [h1] at h; cases h
      | some p =>
        rw [h1] at h
        simp only [withV_eq, withH_eq, setK_eq]
        obtain ⟨fr', k1, k2, k3⟩ := execS_sim c hd.2 ⟨(t, p.1) :: s.fr, p.2⟩ s' o (fr.set t p.1) (hf.put (d := some t) fun x hx => by cases hx; omega) (by simpa using hm) h
        exact ⟨fr', k1, k2, by rw [k3]; simp⟩
    | own t sz =>
      have ht : t < m := by simpa using hd.1
      simp only [runHS, hf t] at h
      unfold dHint
      simp only [runH, setK_eq]
      obtain ⟨fr', k1, k2, k3⟩ := execS_sim c hd.2 ⟨(t, (ownV s.h sz (nthV fr t)).1) :: s.fr, (ownV s.h sz (nthV fr t)).2⟩ s' o (fr.set t (ownV s.h sz (nthV fr t)).1) (hf.put (d := some t) fun x hx => by cases hx; omega) (by simpa using hm) h
      exact ⟨fr', k1, k2, by rw [k3]; simp⟩

theorem resS_sim {s : SS} {fr : List V} (hf : FrEq s.fr fr) : ∀ (res : List ResV), resOf ⟨fr, s.h⟩ res = resS s res
  | [] => rfl
  | .tmp t :: r => by simp only [resOf, resS, resS_sim hf r, hf t, nthV_eq]; cases resS s r <;> rfl
  | .cell t ag n :: r => by simp only [resOf, resS, resS_sim hf r, hf t, nthV_eq]; cases loadH s.h ag n (fr.getD t V.junk) <;> cases resS s r <;> rfl

theorem finishS_sim {k : Nat} {res : List ResV} {s : SS} {fr : List V} (hf : FrEq s.fr fr) : finish k res ⟨fr, s.h⟩ = finishS k res s := by
  unfold finish finishS
  rw [resS_sim hf]
  simp only [withVL_eq, withH_eq]
  cases resS s res with
  | none => rfl
  | some vs => simp only; cases rename s.h (keepOf s.h k vs) vs <;> rfl

theorem get_init : ∀ (args : List V) (i j : Nat), get (initS i args) (i + j) = nthV args j
  | [], i, j => rfl
  | v :: t, i, 0 => by simp [initS, get_cons]; rfl
  | v :: t, i, j + 1 => by
    simp only [initS, get_cons]
    rw [if_neg (by omega), show i + (j + 1) = i + 1 + j by omega, get_init t (i + 1) j]; rfl

theorem init_eq (args : List V) (n : Nat) : FrEq (initS 0 args) (args ++ List.replicate n .junk) := by
  intro i
  have := get_init args 0 i
  rw [Nat.zero_add] at this
  rw [this, nthV_eq, nthV_eq, List.getD, List.getD]
  by_cases hi : i < args.length
  · rw [List.getElem?_append_left hi]
  · rw [List.getElem?_append_right (by omega), List.getElem?_eq_none (by omega), List.getElem?_replicate]
    split <;> rfl

theorem callOS_sim {Γ : CallF} {n : Nat} {A : AFun} (hA : dstOk A.ntmps A.body = true) {args : List V} {h : Heap} {r : V × Heap} (hr : callOS Γ (fun d hd => loopNS d hd n) A args h = some r) : callO Γ n A args h = some r := by
  unfold callOS endS at hr
  split at hr <;> try cases hr
  rename_i o s hx
  obtain ⟨fr', k1, k2, k3⟩ := execS_sim A.body hA ⟨initS 0 args, h⟩ s o _ (init_eq args (A.ntmps - args.length)) (by simp; omega) hx
  unfold callO
  rw [k1]
  cases o with
  | exit _ => cases hr
  | normal => simp only at hr ⊢; rw [finishS_sim k2]; exact hr
  | ret => simp only at hr ⊢; rw [finishS_sim k2]; exact hr

theorem callAS_sim {Γ : CallF} {n : Nat} {A : AFun} (hA : dstOk A.ntmps A.body = true) {args : List V} {h : Heap} {r : V × Heap} (hr : callAS Γ (fun d hd => loopNS d hd n) A args h = some r) : callA Γ n A args h = some r := by
  unfold callAS at hr
  unfold callA
  cases hb : A.amb with
  | false => rw [hb] at hr; exact callOS_sim hA hr
  | true =>
    rw [hb] at hr
    simp only at hr ⊢
    cases hs : splitNil args with
    | none => rw [hs] at hr; exact callOS_sim hA hr
    | some p =>
      obtain ⟨a, b⟩ := p
      rw [hs] at hr
      simp only at hr ⊢
      cases h1 : callOS Γ (fun d hd => loopNS d hd n) A a h with
      | none => rw [h1] at hr; simp [agree] at hr
      | some r1 =>
        cases h2 : callOS Γ (fun d hd => loopNS d hd n) A b h with
        | none => rw [h1, h2] at hr; simp [agree] at hr
        | some r2 =>
          rw [h1, h2] at hr
          rw [callOS_sim hA h1, callOS_sim hA h2]
          exact hr

theorem callNS_sim {F : Nat → Option AFun} {T : List Ent} {N : Nat} (hF : ∀ f A, F f = some A → dstOk A.ntmps A.body = true) (hT : Le (tabF T) (callN F N)) : ∀ n, Le (callNS F T n) (callN F (n + N))
  | 0 => fun f a h r hr => by cases hr
  | n + 1 => fun f a h r hr => by
    simp only [callNS] at hr
    cases h0 : tabF T f a h with
    | some r0 => rw [h0] at hr; cases hr; exact callN_mono (by omega) _ _ _ _ (hT _ _ _ _ h0)
    | none =>
      rw [h0] at hr
      rw [show n + 1 + N = (n + N) + 1 by omega]
      simp only [callN]
      cases hA : F f with
      | none => rw [hA] at hr; cases hr
      | some A =>
        rw [hA] at hr
        exact callA_mono (callNS_sim hF hT n) (Nat.le_add_right n N) (callAS_sim (hF f A hA) hr)
end Go.PV
