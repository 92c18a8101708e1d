/- Regions that draw: one step, whichever operation comes next. -/
import Derived.Test.YtdaalannljjkjaaGreatDraw2
set_option linter.unusedVariables false
set_option linter.unusedSimpArgs false
namespace Go.PV
variable {P : Program} {Γ : CallF}

structure Inv (k : Nat) (F : Nat → Prop) (μ0 : Mu) (a0 : Act) (w0 : World) (T : List TI) (s s' : RSt) (inS : Nat → Bool) (j : Nat) (μ : Mu) (a : Act) (w : World) : Prop where
  jle : j ≤ cc T
  cnt : ∀ A t B, T = A ++ t :: B → t.o.op.isC = true → (inS t.o.ix = true ↔ cc A < j)
  sr : SR F μ (fs inS s.fr T) (hp s' j) a w
  nw : ∀ A t B, T = A ++ t :: B → (∃ op xs lo hi, t.o.op = .n op xs lo hi) → guardB t.s.fr t.o.guard = some true → inS t.o.ix = false → μ t.s.h.length = none
  goes : Goes k F μ0 s.h a0 w0 μ (hp s' j) a w

section
variable {k : Nat} {F : Nat → Prop} {μ0 : Mu} {a0 : Act} {w0 : World} {T A B : List TI} {t : TI} {s s' : RSt} {inS : Nat → Bool} {j : Nat} {μ : Mu} {a : Act} {w : World}

theorem Inv.j_ge (I : Inv k F μ0 a0 w0 T s s' inS j μ a w) (R : Rdy T A t B inS) (hp : t.o.op.isP = false) : cc A ≤ j := by
  refine Nat.le_of_not_lt fun hlt => ?_
  obtain ⟨A1, u, A2, h1, h2, h3⟩ := exists_chain hlt
  have hin := R.chainA hp u (by rw [h1]; simp) h2
  have := (I.cnt A1 u (A2 ++ t :: B) (by rw [R.eq, h1]; simp) h2).1 hin
  omega

theorem Inv.j_le (I : Inv k F μ0 a0 w0 T s s' inS j μ a w) (R : Rdy T A t B inS) (hC : t.o.op.isC = false) {m : Nat} (hm : cc A ≤ m) (hh : ∀ c, m ≤ c → hiOk t.o.op c = true) : j ≤ m := by
  refine Nat.le_of_not_lt fun hlt => ?_
  have hT : cc T = cc A + cc B := by rw [R.eq, cc_append]; simp [cc, hC]
  obtain ⟨B1, u, B2, h1, h2, h3⟩ := exists_chain (T := B) (j := m - cc A) (by have := I.jle; omega)
  have hc : cc (A ++ t :: B1) = m := by rw [cc_append]; simp [cc, hC]; omega
  have hout := R.hiB B1 u B2 h1 h2 (hh _ (by omega))
  have := (I.cnt (A ++ t :: B1) u B2 (by rw [R.eq, h1]; simp) h2).2 (by omega)
  rw [hout] at this
  cases this

theorem Inv.j_chain (I : Inv k F μ0 a0 w0 T s s' inS j μ a w) (R : Rdy T A t B inS) (hC : t.o.op.isC = true) : j = cc A := by
  have h1 := I.j_ge R (by cases h : t.o.op <;> simp [h, AOp.isC] at hC; rfl)
  refine Nat.le_antisymm (Nat.le_of_not_lt fun hlt => ?_) h1
  have := (I.cnt A t B R.eq hC).2 hlt
  rw [R.out] at this
  cases this

theorem cc_le (h : T = A ++ t :: B) : cc A + (match t.o.op.isC with | true => 1 | false => 0) ≤ cc T := by
  rw [h, cc_append]; simp only [cc]; cases t.o.op.isC <;> simp only <;> omega

/-- The invariant, one operation further. -/
theorem Inv.next (I : Inv k F μ0 a0 w0 T s s' inS j μ a w) (R : Rdy T A t B inS) {h2 : Heap} {μ' : Mu} {w' : World} {cv : Value}
    (E : Evo All F μ (lk (hp s' j)) w μ' (lk h2) w') (H : HRel F μ' (lk h2) w') (hv : VRel (fbOf F μ' (lk h2)) μ' (lk h2) w' t.v cv)
    (hk : k ≤ h2.length) (hkeep : ∀ b, b < k → μ' b = μ b) (hnone : ∀ b, h2.length ≤ b → μ' b = none)
    (hh : ∃ e, hp s' (j + (match t.o.op.isC with | true => 1 | false => 0)) = h2 ++ e)
    (hnw : ∀ A2 u B2, T = A2 ++ u :: B2 → (∃ op xs lo hi, u.o.op = .n op xs lo hi) → guardB u.s.fr u.o.guard = some true → u.o.ix ≠ t.o.ix → inS u.o.ix = false → μ' u.s.h.length = none) :
    Inv k F μ0 a0 w0 T s s' (withI inS t.o.ix) (j + (match t.o.op.isC with | true => 1 | false => 0)) μ' (a.put t.o.dst cv) w' := by
  obtain ⟨e, he⟩ := hh
  have S1 : SR F μ' (putF (fs inS s.fr T) t.o.dst t.v) h2 (a.put t.o.dst cv) w' := ⟨H, (I.sr.frel.evo E).put hv, hnone⟩
  have G1 : Goes k F μ (hp s' j) a w μ' h2 (a.put t.o.dst cv) w' := ⟨E.weaken fun _ _ => trivial, hkeep, hk, by cases t.o.dst <;> rfl⟩
  refine ⟨?_, fun A2 u B2 hu huC => ?_, ?_, fun A2 u B2 hu h1 h2 h3 => ?_, ?_⟩
  · cases hC : t.o.op.isC with
    | false => simp only; have := I.jle; omega
    | true =>
      have h1 := I.j_chain R hC
      have h2 := cc_le R.eq
      rw [hC] at h2
      simp only at h2 ⊢
      omega
  · have h0 := I.cnt A2 u B2 hu huC
    rcases split_cases (R.eq.symm.trans hu) with ⟨C, h1⟩ | ⟨h1, h2, h3⟩ | ⟨C, h1, h2⟩
    · have hne := R.ixA u (by rw [h1]; simp)
      have : withI inS t.o.ix u.o.ix = inS u.o.ix := by simp [withI, hne]
      rw [this, h0]
      cases hC : t.o.op.isC with
      | false => simp
      | true =>
        have hj := I.j_chain R hC
        have : cc A2 < cc A := by rw [h1, cc_append]; simp [cc, huC]; omega
        simp only; omega
    · subst h1 h2
      have hj := I.j_chain R huC
      simp only [withI, huC, beq_self_eq_true, Bool.or_true, true_iff]
      omega
    · have hne := R.ixB u (by rw [h1]; simp)
      have : withI inS t.o.ix u.o.ix = inS u.o.ix := by simp [withI, hne]
      rw [this, h0]
      cases hC : t.o.op.isC with
      | false => simp
      | true =>
        have hj := I.j_chain R hC
        have : cc A < cc A2 := by rw [h2, cc_append]; simp [cc, hC]; omega
        simp only; omega
  · rw [R.put, he]
    exact S1.app
  · simp only [withI, Bool.or_eq_false_iff, beq_eq_false_iff_ne] at h3
    exact hnw A2 u B2 hu h1 h2 h3.2 h3.1
  · rw [he]
    exact (I.goes.trans G1).trans (Goes.app hk hnone)

theorem win {α : Type} {l : List α} {lo hi j : Nat} {x : α} (h1 : lo ≤ j) (h2 : j ≤ hi) (h3 : l[j]? = some x) : x ∈ (l.drop lo).take (hi + 1 - lo) := by
  refine List.mem_of_getElem? (i := j - lo) ?_
  rw [List.getElem?_take, if_pos (by omega), List.getElem?_drop, show lo + (j - lo) = j by omega, h3]

theorem hp_get (hT : Tr Γ s T s') (h0 : s.segs = []) (hj : j ≤ cc T) : (s'.segs ++ [s'.h])[j]? = some (hp s' j) := by
  obtain ⟨more, h1, h2, _⟩ := hT.segs
  have hl : s'.segs.length = cc T := by rw [h1, h0]; simpa using h2
  have : j < (s'.segs ++ [s'.h]).length := by simp; omega
  rw [hp, List.getElem?_eq_getElem this]; rfl

theorem lds_at (hT : Tr Γ s T s') (h0 : s.segs = []) (hld : ldsOk (s'.segs ++ [s'.h]) s'.lds = true) {l : Ld} (hl : l ∈ s'.lds) (h1 : l.lo ≤ j) (h2 : j ≤ l.hi) (hj : j ≤ cc T) : segOk l (hp s' j) = true := by
  have := List.all_eq_true.1 hld l hl
  exact List.all_eq_true.1 this _ (win h1 h2 (hp_get hT h0 hj))

theorem nws_at (hT : Tr Γ s T s') (h0 : s.segs = []) (hnw : nwsOk (s'.segs ++ [s'.h]) s'.nws = true) {l : Nw} (hl : l ∈ s'.nws) (h1 : l.lo ≤ j) (h2 : j ≤ l.hi) (hj : j ≤ cc T) : nwOk l (hp s' j) = true := by
  have := List.all_eq_true.1 hnw l hl
  exact List.all_eq_true.1 this _ (win h1 h2 (hp_get hT h0 hj))

/-- Two new blocks' numbers differ. -/
theorem new_apart (hT : Tr Γ s T s') (h0 : s.segs = []) (hTe : T = A ++ t :: B) {s1 : RSt} (hs1 : Stp Γ t.o t.s t.v s1) (hB : Tr Γ s1 B s') {A2 B2 : List TI} {u : TI} (hu : T = A2 ++ u :: B2)
    (hop : ∃ op xs lo hi, u.o.op = .n op xs lo hi) (hg : guardB u.s.fr u.o.guard = some true) (hne : u.o.ix ≠ t.o.ix) : u.s.h.length < t.s.h.length ∨ s1.h.length ≤ u.s.h.length := by
  rcases split_cases (hTe.symm.trans hu) with ⟨C, h1⟩ | ⟨h1, h2, h3⟩ | ⟨C, h1, h2⟩
  · left
    subst hTe
    obtain ⟨hA, _⟩ := hT.split
    rw [h1] at hA
    obtain ⟨_, hu2⟩ := hA.split
    obtain ⟨uo, uv, us⟩ := u
    cases hu2 with
    | cons h3 h4 =>
      have hl := h4.len
      cases h3 with
      | run hg' hr =>
        obtain ⟨op, xs, lo, hi, hop⟩ := hop
        simp only at hop
        rw [hop] at hr
        simp only [runOp] at hr
        split at hr <;> cases hr
        simp at hl ⊢
        omega
      | skip hg' =>
        simp only at hg
        rw [hg] at hg'; cases hg'
  · subst h2; exact absurd rfl hne
  · right
    rw [h1] at hB
    exact hB.split.1.len

theorem load_win {fb : Nat → Prop} {h h' : Heap} {ag : Bool} {n lo hi : Nat} {x v : V} {cv : Value} (hv : VRel fb μ (lk h') w x cv) (hs : segOk ⟨x, ag, n, v, lo, hi⟩ h' = true) (hl : loadH h ag n x = some v) : loadH h' ag n x = some v := by
  cases x with
  | ptr b k f =>
    simp only [segOk] at hs
    split at hs
    · rename_i hlen
      exfalso
      cases hv with
      | ptr _ _ _ sz B lo hl' hm => obtain ⟨blk, h1, _⟩ := hl'; have := lk_lt h1; omega
      | ptrD _ _ _ _ hd => have := lk_lt hd; omega
    · split at hs
      · rename_i v' hv'
        rw [hv', V.beq_eq _ _ hs]
      · cases hs
  | r x => cases x <;> exact hl
  | _ => exact hl

theorem ready_step {Γ : CallF} (hΓ : Sound P Γ) {ops : Array Oper} {l : List AOper} (hc : chkOper P ops t.o = true) (h0 : s.segs = []) (hT : Tr Γ s T s')
    (hld : ldsOk (s'.segs ++ [s'.h]) s'.lds = true) (hnw : nwsOk (s'.segs ++ [s'.h]) s'.nws = true) (hk0 : k ≤ s.h.length)
    (I : Inv k F μ0 a0 w0 T s s' inS j μ a w) (R : Rdy T A t B inS) {K : Act → World → Prop} {Q : Exit → Act → World → Prop}
    (hK : ∀ j' μ' a' w', Inv k F μ0 a0 w0 T s s' (withI inS t.o.ix) j' μ' a' w' → K a' w') : wpOp P ops Q t.o.ix K a w := by
  have hTe := R.eq
  obtain ⟨o, v, st⟩ := t
  obtain ⟨s1, at_⟩ := Tr.at h0 (hTe ▸ hT)
  simp only at hc hK
  have hrd : ∀ x ∈ o.reads, nthV (fs inS s.fr T) x = nthV st.fr x := fun x hx => (R.reads s.fr x hx).trans (by rw [← at_.fr])
  have hgd : guardB (fs inS s.fr T) o.guard = guardB st.fr o.guard := guard_reads hrd
  have hod : o.op.oprds.map (ev (fs inS s.fr T)) = o.op.oprds.map (ev st.fr) := oprd_reads hrd
  have hkj : k ≤ (hp s' j).length := I.goes.len
  have hkst : k ≤ st.h.length := Nat.le_trans hk0 at_.lenA
  unfold chkOper at hc
  split at hc <;> try cases hc
  rename_i q hq
  simp only [Bool.and_eq_true] at hc
  obtain ⟨⟨hd, hop⟩, hg⟩ := hc
  have hd : q.dst = o.dst := by simpa using hd
  have same : ∀ cv, VRel (fbOf F μ (lk (hp s' j))) μ (lk (hp s' j)) w v cv → (∃ e, hp s' (j + (match o.op.isC with | true => 1 | false => 0)) = hp s' j ++ e) → K (a.put q.dst cv) w := fun cv hv hh => by
    rw [hd]
    exact hK _ μ _ w (I.next R (h2 := hp s' j) (ends_same I.sr.hrel I.sr.none hv).evo I.sr.hrel hv hkj (fun _ _ => rfl) I.sr.none hh fun A2 u B2 h1 h2 h3 _ h5 => I.nw A2 u B2 h1 h2 h3 h5)
  have stp := at_.stp
  simp only at stp
  cases stp with
  | skip hg' =>
    have hw := guard_sound I.sr.frel hg (hgd.trans hg')
    refine wpOp_not hq hw (same undef skip_rel ?_)
    cases hC : o.op.isC with
    | false => exact ⟨[], by simp⟩
    | true =>
      have hj := I.j_chain R hC
      obtain ⟨e, he⟩ := at_.post
      have hch := at_.chain hC
      simp only [hC] at he
      simp only
      exact ⟨e, by rw [hj, he, hch]⟩
  | @run _ s2 hg' hr =>
    have hw := guard_sound I.sr.frel hg (hgd.trans hg')
    refine wpOp_some hq hw ?_
    cases hopv : o.op with
    | bad => rw [hopv] at hr; cases hr
    | p op xs =>
      rw [hopv] at hr hop
      rw [hopv] at hod
      simp only [runOp] at hr
      split at hr <;> cases hr
      rename_i hp'
      obtain ⟨cv, h1, h2⟩ := pure_sound I.sr.frel hop (by rw [show xs.map (ev (fs inS s.fr T)) = xs.map (ev st.fr) from hod]; exact hp')
      exact upon_next h1 (.inl rfl) (same cv h2 ⟨[], by simp [hopv, AOp.isC]⟩)
    | ld ag n x lo hi =>
      rw [hopv] at hr hop
      rw [hopv] at hod
      have hx : ev (fs inS s.fr T) x = ev st.fr x := by simpa [AOp.oprds] using hod
      have hlo : lo = cc A := by have := R.lo; simpa [hopv, loOk] using this
      have hge := I.j_ge R (by simp [hopv, AOp.isP])
      have hCf : o.op.isC = false := by simp [hopv, AOp.isC]
      simp only [runOp] at hr
      split at hr <;> cases hr
      rename_i hld'
      have hload : loadH (hp s' j) ag n (ev (fs inS s.fr T) x) = some v := by
        by_cases hlt : lo < hi
        · have hle := I.j_le R hCf (m := hi) (by omega) fun c hc => by simp [hopv, hiOk, hc]
          have hseg := lds_at hT h0 hld (l := ⟨ev st.fr x, ag, n, v, lo, hi⟩) (at_.lds _ (by simp [hlt])) (by simp only; omega) hle I.jle
          obtain ⟨cvx, hvx⟩ : ∃ cvx, VRel (fbOf F μ (lk (hp s' j))) μ (lk (hp s' j)) w (ev (fs inS s.fr T) x) cvx := by
            unfold chkA chkL at hop
            simp only at hop
            split at hop <;> try cases hop
            rename_i y _
            simp only [Bool.and_eq_true] at hop
            exact ⟨_, ev_rel I.sr.frel hop.1.1⟩
          rw [← hx] at hseg hld'
          generalize ev (fs inS s.fr T) x = vx at *
          exact load_win hvx hseg hld'
        · have hle := I.j_le R hCf (m := cc A) (Nat.le_refl _) fun c hc => by simp only [hopv, hiOk, decide_eq_true_eq]; omega
          obtain ⟨e, he⟩ := at_.pre
          rw [show j = cc A by omega, he, hx]
          exact loadH_app hld'
      obtain ⟨cv, h1, h2⟩ := load_op I.sr.hrel I.sr.frel hop hload
      exact upon_next h1 (.inl rfl) (same cv h2 ⟨[], by simp [hopv, AOp.isC]⟩)
    | b2s x =>
      rw [hopv] at hr hop
      rw [hopv] at hod
      have hx : ev (fs inS s.fr T) x = ev st.fr x := by simpa [AOp.oprds] using hod
      have hge := I.j_ge R (by simp [hopv, AOp.isP])
      have hCf : o.op.isC = false := by simp [hopv, AOp.isC]
      have hle := I.j_le R hCf (m := cc A) (Nat.le_refl _) fun c hc => by simp only [hopv, hiOk]
      obtain ⟨e, he⟩ := at_.pre
      have hj : j = cc A := by omega
      simp only [runOp] at hr
      split at hr <;> try cases hr
      rename_i xs hxs
      split at hr <;> cases hr
      rename_i l hl
      have hel : elemsS (hp s' j) (ev (fs inS s.fr T) x) = some xs := by rw [hj, he, hx]; exact elemsS_app hxs
      obtain ⟨cv, h1, h2⟩ := b2s_op I.sr.hrel I.sr.frel hop hel hl
      exact upon_next h1 (.inl rfl) (same cv h2 ⟨[], by simp [hopv, AOp.isC]⟩)
    | n op xs lo hi =>
      rw [hopv] at hr hop
      rw [hopv] at hod
      have hlo : lo = cc A := by have := R.lo; simpa [hopv, loOk] using this
      have hge := I.j_ge R (by simp [hopv, AOp.isP])
      have hCf : o.op.isC = false := by simp [hopv, AOp.isC]
      simp only [runOp] at hr
      split at hr <;> cases hr
      rename_i blk mkv hn
      have hblk : lk (hp s' j) st.h.length = some blk := by
        by_cases hlt : lo < hi
        · have hle := I.j_le R hCf (m := hi) (by omega) fun c hc => by simp [hopv, hiOk, hc]
          have := nws_at hT h0 hnw (l := ⟨st.h.length, blk, lo, hi⟩) (at_.nws _ (by simp [hlt])) (by simp only; omega) hle I.jle
          unfold nwOk at this
          simp only at this
          split at this
          · rename_i b hb
            rw [lk, hb, Blk.beq_eq _ _ this]
          · cases this
        · have hle := I.j_le R hCf (m := cc A) (Nat.le_refl _) fun c hc => by simp only [hopv, hiOk, decide_eq_true_eq]; omega
          obtain ⟨e, he⟩ := at_.post
          simp only [hCf, Nat.add_zero] at he
          rw [show j = cc A by omega, he]
          exact lk_app (by simp [lk])
      have hμ0 := I.nw A _ B hTe ⟨op, xs, lo, hi, hopv⟩ hg' R.out
      simp only at hμ0
      obtain ⟨cv, w', h1, E, H, hv⟩ := new_sound I.sr.hrel I.sr.frel hop (by rw [show xs.map (ev (fs inS s.fr T)) = xs.map (ev st.fr) from hod]; exact hn) (.inr hblk) hμ0
      have hset : setLk (lk (hp s' j)) st.h.length blk = lk (hp s' j) := by
        funext b
        by_cases hb : b = st.h.length
        · subst hb; simp [setLk, hblk]
        · simp [setLk, hb]
      rw [hset] at E H hv
      refine upon_next h1 (.inl rfl) ?_
      rw [hd]
      refine hK _ _ _ w' (I.next R (h2 := hp s' j) E H hv hkj (fun b hb => ?_) (fun b hb => ?_) ⟨[], by simp [hopv, AOp.isC]⟩ fun A2 u B2 h1 h2 h3 h4 h5 => ?_)
      · simp [setMu, show b ≠ st.h.length by omega]
      · have := lk_lt hblk
        simp [setMu, show b ≠ st.h.length by omega, I.sr.none b hb]
      · have hu := I.nw A2 u B2 h1 h2 h3 h5
        have := new_apart hT h0 hTe at_.stp at_.rest h1 h2 h3 h4
        simp at this
        simp [setMu, show u.s.h.length ≠ st.h.length by omega, hu]
    | c op xs =>
      rw [hopv] at hr hop
      rw [hopv] at hod
      have hC : o.op.isC = true := by simp [hopv, AOp.isC]
      have hj := I.j_chain R hC
      have hch := at_.chain hC
      simp only at hch
      have hh : hp s' j = st.h := by rw [hj]; exact hch
      have hS : SR F μ (fs inS s.fr T) st.h a w := by rw [← hh]; exact I.sr
      have hr' : runOp Γ (.c op xs) { st with fr := fs inS s.fr T } = some (v, { s2 with fr := fs inS s.fr T }) := by
        simp only [runOp] at hr ⊢
        rw [show xs.map (ev (fs inS s.fr T)) = xs.map (ev st.fr) from hod]
        split at hr <;> cases hr
        rfl
      obtain ⟨_, hwp⟩ := runOp_sound (s := { st with fr := fs inS s.fr T }) hΓ hS hop hr' (K := K) (Q := Q) fun μ' cv w' E => by
        rw [hd]
        obtain ⟨e, he⟩ := at_.post
        simp only [hC] at he
        refine hK _ μ' _ w' (I.next R (h2 := s2.h) (by rw [hh]; exact E.evo) E.hrel E.val (Nat.le_trans hkst E.len) (fun b hb => E.keep b (by simp only; omega)) E.none ⟨e, by simp only [hC]; rw [hj, he]⟩ fun A2 u B2 h1 h2 h3 h4 h5 => ?_)
        have hu := I.nw A2 u B2 h1 h2 h3 h5
        have := new_apart hT h0 hTe at_.stp at_.rest h1 h2 h3 h4
        simp only at this
        rcases this with h6 | h6
        · rw [E.keep _ h6]; exact hu
        · exact E.none _ h6
      exact hwp
end
end Go.PV
