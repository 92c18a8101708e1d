/- Regions that draw: every order. -/
import Derived.Test.YtdaalannljjkjaaGreatDraw3
set_option linter.unusedVariables false
set_option linter.unusedSimpArgs false
namespace Go.PV
variable {P : Program} {Γ : CallF}

/-- An operation that must have run before another. -/
inductive Anc (ops : Array Oper) : Nat → Nat → Prop
  | edge {j : Nat} {o : Oper} {e : Edge} (h : ops[j]? = some o) (he : e ∈ o.after) (hb : Region.binds .any e = true) : Anc ops e.on j
  | far {i j : Nat} {o : Oper} {e : Edge} (h : ops[j]? = some o) (he : e ∈ o.after) (hb : Region.binds .any e = true) (hi : Anc ops i e.on) : Anc ops i j

def sharesT (u t : AOper) : Bool :=
  (match u.dst with
  | some d => t.reads.contains d || t.dst == some d
  | none => false) ||
  (match t.dst with
  | some d => u.reads.contains d
  | none => false)
def needs (u : AOper) (c : Nat) (t : AOper) : Bool :=
  sharesT u t || (u.op.isC && !t.op.isP) || (t.op.isC && hiOk u.op c)

def ccO : List AOper → Nat
  | [] => 0
  | t :: T => (match t.op.isC with | true => 1 | false => 0) + ccO T

structure DrawOk (P : Program) (ops : Array Oper) (l : List AOper) : Prop where
  all : ∀ i, i < ops.size → ∃ o ∈ l, o.ix = i
  nodup : l.Pairwise fun u t => u.ix ≠ t.ix
  back : ∀ A t B, l = A ++ t :: B → ∀ o, ops[t.ix]? = some o → ∀ e ∈ o.after, Region.binds .any e = true → ∃ u ∈ A, u.ix = e.on
  oper : ∀ o ∈ l, chkOper P ops o = true
  pair : ∀ A u B t C, l = A ++ u :: B ++ t :: C → needs u (ccO (A ++ u :: B)) t = true → Anc ops u.ix t.ix
  lo : ∀ A t B, l = A ++ t :: B → loOk t.op (ccO A) = true

def inS (listed : Array Bool) (i : Nat) : Bool := listed.getD i false
def Closed (ops : Array Oper) (S : Nat → Bool) : Prop := ∀ j o, S j = true → ops[j]? = some o → ∀ e ∈ o.after, Region.binds .any e = true → S e.on = true

theorem Closed.anc {ops : Array Oper} {S : Nat → Bool} (h : Closed ops S) {i j : Nat} (a : Anc ops i j) : S j = true → S i = true := by
  induction a with
  | edge h1 he hb => exact fun hj => h _ _ hj h1 _ he hb
  | far h1 he hb _ ih => exact fun hj => ih (h _ _ hj h1 _ he hb)

theorem ready_anc {ops : Array Oper} {S : Nat → Bool} (h : Closed ops S) {i j : Nat} (a : Anc ops i j) (hr : ∀ o, ops[j]? = some o → ∀ e ∈ o.after, Region.binds .any e = true → S e.on = true) : S i = true := by
  cases a with
  | edge h1 he hb => exact hr _ h1 _ he hb
  | far h1 he hb hi => exact h.anc hi (hr _ h1 _ he hb)

theorem ccO_map : ∀ (T : List TI), ccO (T.map (·.o)) = cc T
  | [] => rfl
  | t :: T => by simp only [List.map_cons, ccO, cc, ccO_map T]; cases t.o.op.isC <;> rfl

theorem map_split {T : List TI} {t : TI} {A B : List TI} (h : T = A ++ t :: B) : T.map (·.o) = A.map (·.o) ++ t.o :: B.map (·.o) := by rw [h]; simp

theorem rdy_of {ops : Array Oper} {l : List AOper} (D : DrawOk P ops l) {T A B : List TI} {t : TI} (hl : T.map (·.o) = l) (hT : T = A ++ t :: B) {S : Nat → Bool} (hS : Closed ops S) (hout : S t.o.ix = false)
    (hr : ∀ o, ops[t.o.ix]? = some o → ∀ e ∈ o.after, Region.binds .any e = true → S e.on = true) : Rdy T A t B S := by
  have hm := map_split hT
  rw [hl] at hm
  have nd := D.nodup
  rw [hm, List.pairwise_append] at nd
  obtain ⟨_, n2, n3⟩ := nd
  rw [List.pairwise_cons] at n2
  have bef : ∀ u ∈ A, needs u.o (cc A) t.o = true → S u.o.ix = true := fun u hu hn => by
    obtain ⟨A1, A2, h1⟩ := List.append_of_mem hu
    refine ready_anc hS (D.pair (A1.map (·.o)) u.o (A2.map (·.o)) t.o (B.map (·.o)) (by rw [hm, h1]; simp) ?_) hr
    have : ccO (A1.map (·.o) ++ u.o :: A2.map (·.o)) = cc A := by rw [← ccO_map, h1]; simp
    rw [this]; exact hn
  have aft : ∀ B1 u B2, B = B1 ++ u :: B2 → needs t.o (cc (A ++ t :: B1)) u.o = true → S u.o.ix = false := fun B1 u B2 h1 hn => by
    have ha := D.pair (A.map (·.o)) t.o (B1.map (·.o)) u.o (B2.map (·.o)) (by rw [hm, h1]; simp) (by
      have : ccO (A.map (·.o) ++ t.o :: B1.map (·.o)) = cc (A ++ t :: B1) := by rw [← ccO_map]; simp
      rw [this]; exact hn)
    cases hu : S u.o.ix with
    | false => rfl
    | true => have := hS.anc ha hu; rw [hout] at this; cases this
  have aft' : ∀ u ∈ B, sharesT t.o u.o = true → S u.o.ix = false := fun u hu hn => by
    obtain ⟨B1, B2, h1⟩ := List.append_of_mem hu
    exact aft B1 u B2 h1 (by simp [needs, hn])
  refine ⟨hT, hout, fun u hu => n3 u.o (List.mem_map_of_mem hu) t.o (List.mem_cons_self ..), fun u hu => Ne.symm (n2.1 u.o (List.mem_map_of_mem hu)), fun u hu x h1 h2 => ?_, fun u hu x h1 h2 => ?_, fun u hu x h1 h2 => ?_, fun h1 u hu h2 => ?_, fun B1 u B2 h1 h2 h3 => ?_, ?_⟩
  · refine bef u hu ?_
    have : sharesT u.o t.o = true := by simp [sharesT, h1, h2]
    simp [needs, this]
  · refine aft' u hu ?_
    simp [sharesT, h1, h2]
  · refine aft' u hu ?_
    simp [sharesT, h1, h2]
  · exact bef u hu (by simp [needs, h1, h2])
  · exact aft B1 u B2 h1 (by simp [needs, h2, h3])
  · have := D.lo (A.map (·.o)) t.o (B.map (·.o)) hm
    rw [ccO_map] at this
    exact this

theorem inS_set {listed : Array Bool} {i : Nat} (hi : i < listed.size) : inS (listed.setIfInBounds i true) = withI (inS listed) i := by
  funext x
  unfold inS withI
  by_cases hx : i = x
  · subst hx; simp [hi]
  · rw [getD_set_ne false hx]
    have : (x == i) = false := by simp; exact fun h => hx h.symm
    simp [this]

def unl (listed : Array Bool) : Nat := listed.toList.count false

theorem unl_set {listed : Array Bool} {i : Nat} (h : listed.getD i true = false) : unl (listed.setIfInBounds i true) + 1 = unl listed := by
  have hi : i < listed.size := by
    rcases Nat.lt_or_ge i listed.size with h' | h'
    · exact h'
    · simp [Array.getElem?_eq_none h'] at h
  have hv : listed[i] = false := by simpa [hi] using h
  unfold unl
  rw [Array.toList_setIfInBounds, List.count_set (by simpa using hi)]
  have h1 : listed.toList[i]'(by simpa using hi) = false := by simpa using hv
  rw [h1]
  have : 0 < listed.toList.count false := List.count_pos_iff.2 (by rw [← h1]; exact List.getElem_mem _)
  simp only [beq_self_eq_true, if_true, show (true == false) = false from rfl, Bool.false_eq_true, if_false]
  omega

theorem unl_zero {listed : Array Bool} (h : unl listed = 0) {i : Nat} (hi : i < listed.size) : inS listed i = true := by
  have := List.count_eq_zero.1 h
  unfold inS
  rw [show listed.getD i false = listed[i] by simp [hi]]
  cases hv : listed[i] with
  | true => rfl
  | false => exact absurd (by rw [← hv]; simp) this

theorem first_out : ∀ {T : List TI} {S : Nat → Bool}, (∃ t ∈ T, S t.o.ix = false) → ∃ A t B, T = A ++ t :: B ∧ S t.o.ix = false ∧ ∀ u ∈ A, S u.o.ix = true
  | [], S, h => by obtain ⟨t, h, _⟩ := h; cases h
  | t :: T, S, h => by
    cases ht : S t.o.ix with
    | false => exact ⟨[], t, T, rfl, ht, by simp⟩
    | true =>
      obtain ⟨A, u, B, h1, h2, h3⟩ := first_out (T := T) (S := S) (by
        obtain ⟨u, hu, hs⟩ := h
        cases hu with
        | head => rw [ht] at hs; cases hs
        | tail _ hu => exact ⟨u, hu, hs⟩)
      refine ⟨t :: A, u, B, by rw [h1]; rfl, h2, fun x hx => ?_⟩
      cases hx with
      | head => exact ht
      | tail _ hx => exact h3 x hx

theorem fs_all {S : Nat → Bool} : ∀ {T : List TI} {fr : List V}, (∀ t ∈ T, S t.o.ix = true) → fs S fr T = frAll fr T
  | [], fr, _ => rfl
  | t :: T, fr, h => by
    simp only [fs, frAll]
    rw [h t (List.mem_cons_self ..)]
    exact fs_all fun u hu => h u (List.mem_cons_of_mem _ hu)

section
variable {k : Nat} {F : Nat → Prop} {μ0 : Mu} {a0 : Act} {w0 : World} {T : List TI} {s s' : RSt}

theorem any_sound (hΓ : Sound P Γ) {ops : Array Oper} {l : List AOper} (D : DrawOk P ops l) (hl : T.map (·.o) = l) (h0 : s.segs = []) (hT : Tr Γ s T s')
    (hld : ldsOk (s'.segs ++ [s'.h]) s'.lds = true) (hnw : nwsOk (s'.segs ++ [s'.h]) s'.nws = true) (hk0 : k ≤ s.h.length) {Q : Exit → Act → World → Prop}
    (hQ : ∀ μ' a' w', SR F μ' s'.fr s'.h a' w' → Goes k F μ0 s.h a0 w0 μ' s'.h a' w' → Q .normal a' w') :
    ∀ (fuel : Nat) (listed : Array Bool) (j : Nat) (μ : Mu) (a : Act) (w : World), listed.size = ops.size → unl listed = fuel → Closed ops (inS listed) → Inv k F μ0 a0 w0 T s s' (inS listed) j μ a w → wpAny P .any ops Q fuel listed a w := by
  have done : ∀ (listed : Array Bool) (j : Nat) (μ : Mu) (a : Act) (w : World), (∀ t ∈ T, inS listed t.o.ix = true) → Inv k F μ0 a0 w0 T s s' (inS listed) j μ a w → Q .normal a w := fun listed j μ a w hall I => by
    have hj : j = cc T := by
      refine Nat.le_antisymm I.jle (Nat.le_of_not_lt fun hlt => ?_)
      obtain ⟨A, u, B, h1, h2, h3⟩ := exists_chain hlt
      have := (I.cnt A u B h1 h2).1 (hall u (by rw [h1]; simp))
      omega
    have hh : hp s' (cc T) = s'.h := by
      obtain ⟨more, h1, h2, _⟩ := hT.segs
      rw [hp, List.getElem?_append_right (by rw [h1, h0]; simp; omega)]
      simp [h1, h0, h2]
    have hS := I.sr
    have hG := I.goes
    rw [fs_all hall, ← hT.fr, hj, hh] at hS
    rw [hj, hh] at hG
    exact hQ μ a w hS hG
  have full : ∀ (listed : Array Bool), listed.size = ops.size → Closed ops (inS listed) → Region.ready .any ops listed = [] → ∀ t ∈ T, inS listed t.o.ix = true := fun listed hsz hcl hr t ht => by
    cases hb : inS listed t.o.ix with
    | true => rfl
    | false =>
      exfalso
      obtain ⟨A, u, B, h1, h2, h3⟩ := first_out ⟨t, ht, hb⟩
      have hm := map_split h1
      rw [hl] at hm
      have hop := D.oper u.o (by rw [hm]; simp)
      unfold chkOper at hop
      split at hop <;> try cases hop
      rename_i q hq
      have hi : u.o.ix < listed.size := by rw [hsz]; exact (Array.getElem?_eq_some_iff.1 hq).1
      have : u.o.ix ∈ Region.ready .any ops listed := by
        rw [mem_ready]
        refine ⟨?_, q, hq, fun e he hbd => ?_⟩
        · unfold inS at h2
          simp only [Array.getD, hi, dif_pos] at h2 ⊢
          exact h2
        · obtain ⟨x, hx, hxe⟩ := D.back _ _ _ hm q hq e he hbd
          obtain ⟨y, hy, rfl⟩ := List.mem_map.1 hx
          rw [← hxe]
          exact h3 y hy
      rw [hr] at this
      cases this
  have hin : ∀ (listed : Array Bool), listed.size = ops.size → unl listed = 0 → ∀ t ∈ T, inS listed t.o.ix = true := fun listed hsz hu t ht => by
    have hop := D.oper t.o (by rw [← hl]; exact List.mem_map_of_mem ht)
    unfold chkOper at hop
    split at hop <;> try cases hop
    rename_i q hq
    exact unl_zero hu (by rw [hsz]; exact (Array.getElem?_eq_some_iff.1 hq).1)
  intro fuel
  induction fuel with
  | zero =>
    intro listed j μ a w hsz hu hcl I
    refine ⟨?_, done listed j μ a w (hin listed hsz hu) I⟩
    cases hr : Region.ready .any ops listed with
    | nil => rfl
    | cons x xs =>
      have hx : x ∈ Region.ready .any ops listed := by rw [hr]; simp
      obtain ⟨h1, o, h2, _⟩ := mem_ready.1 hx
      have hi : x < listed.size := by rw [hsz]; exact (Array.getElem?_eq_some_iff.1 h2).1
      have := unl_zero hu hi
      unfold inS at this
      simp only [Array.getD, hi, dif_pos] at h1 this
      rw [h1] at this; cases this
  | succ fuel ih =>
    intro listed j μ a w hsz hu hcl I
    refine ⟨fun hr => done listed j μ a w (full listed hsz hcl hr) I, fun i hi => ?_⟩
    obtain ⟨h1, q, hq, hrdy⟩ := mem_ready.1 hi
    have hlt : i < ops.size := (Array.getElem?_eq_some_iff.1 hq).1
    have hilt : i < listed.size := by rw [hsz]; exact hlt
    obtain ⟨o, ho, rfl⟩ := D.all i hlt
    rw [← hl] at ho
    obtain ⟨t, ht, rfl⟩ := List.mem_map.1 ho
    obtain ⟨A, B, hAB⟩ := List.append_of_mem ht
    have hout : inS listed t.o.ix = false := by
      unfold inS
      simp only [Array.getD, hilt, dif_pos] at h1 ⊢
      exact h1
    have hr' : ∀ o, ops[t.o.ix]? = some o → ∀ e ∈ o.after, Region.binds .any e = true → inS listed e.on = true := fun o ho e he hb => by
      rw [hq] at ho; cases ho; exact hrdy e he hb
    refine ready_step hΓ (l := l) (D.oper t.o (by rw [← hl]; exact List.mem_map_of_mem ht)) h0 hT hld hnw hk0 I (rdy_of D hl hAB hcl hout hr') fun j' μ' a' w' I' => ?_
    have he := inS_set (listed := listed) (i := t.o.ix) hilt
    refine ih _ j' μ' a' w' (by simp [hsz]) (by have := unl_set h1; omega) ?_ (by rw [he]; exact I')
    rw [he]
    intro j2 o2 hj2 ho2 e he2 hb2
    simp only [withI, Bool.or_eq_true, beq_iff_eq] at hj2 ⊢
    rcases hj2 with hj2 | rfl
    · exact .inl (hcl j2 o2 hj2 ho2 e he2 hb2)
    · exact .inl (hr' o2 ho2 e he2 hb2)
end
end Go.PV
