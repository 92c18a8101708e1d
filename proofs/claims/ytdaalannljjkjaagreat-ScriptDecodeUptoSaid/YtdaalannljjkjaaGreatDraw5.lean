/- Regions that draw: the check by computation; the whole. -/
import Derived.Test.YtdaalannljjkjaaGreatDraw4
set_option linter.unusedVariables false
set_option linter.unusedSimpArgs false
namespace Go.PV
variable {P : Program} {Γ : CallF}

def edgeM (n M : Nat) : List Edge → Nat
  | [] => 0
  | e :: t => (match Region.binds .any e with | true => (1 <<< e.on) ||| ((M >>> (n * e.on)) % 2 ^ n) | false => 0) ||| edgeM n M t

theorem edgeM_bit {n M b : Nat} : ∀ {l : List Edge}, (edgeM n M l).testBit b = true → ∃ e ∈ l, Region.binds .any e = true ∧ (b = e.on ∨ (b < n ∧ M.testBit (n * e.on + b) = true))
  | [], h => by simp [edgeM] at h
  | e :: t, h => by
    simp only [edgeM, Nat.testBit_or, Bool.or_eq_true] at h
    rcases h with h | h
    · cases hb : Region.binds .any e with
      | false => rw [hb] at h; simp at h
      | true =>
        rw [hb] at h
        simp only [Nat.testBit_or, Bool.or_eq_true] at h
        refine ⟨e, List.mem_cons_self .., hb, ?_⟩
        rcases h with h | h
        · left
          rw [Nat.one_shiftLeft, Nat.testBit_two_pow] at h
          simpa using Eq.symm (by simpa using h)
        · right
          simp only [Nat.testBit_mod_two_pow, Nat.testBit_shiftRight, Bool.and_eq_true, decide_eq_true_eq] at h
          exact h
    · obtain ⟨e', h1, h2⟩ := edgeM_bit h
      exact ⟨e', List.mem_cons_of_mem _ h1, h2⟩

def drawGo (P : Program) (ops : Array Oper) (n : Nat) : List AOper → Nat → Nat → Nat → List AOper → Bool
  | _, _, seen, _, [] => seen + 1 == 2 ^ n
  | prev, c, seen, M, t :: rest =>
    match ops[t.ix]? with
    | none => false
    | some q => (q.after.toList.all fun e => !Region.binds .any e || seen.testBit e.on) && !seen.testBit t.ix && chkOper P ops t && loOk t.op c &&
      withNat (edgeM n M q.after.toList) fun m =>
        prev.all (fun u => !needs u c t || m.testBit u.ix) &&
        withNat (seen ||| 1 <<< t.ix) fun seen => withNat (M ||| m <<< (n * t.ix)) fun M =>
          match t.op.isC with
          | true => drawGo P ops n (t :: prev) (c + 1) seen M rest
          | false => drawGo P ops n (t :: prev) c seen M rest

structure Pre (P : Program) (ops : Array Oper) (A : List AOper) (c seen M : Nat) : Prop where
  cc : c = ccO A
  seen : ∀ i, seen.testBit i = true ↔ ∃ u ∈ A, u.ix = i
  lt : ∀ u ∈ A, u.ix < ops.size
  mask : ∀ i k, k < ops.size → M.testBit (ops.size * i + k) = true → Anc ops k i
  nodup : A.Pairwise fun u t => u.ix ≠ t.ix
  back : ∀ A1 t B, A = A1 ++ t :: B → ∀ o, ops[t.ix]? = some o → ∀ e ∈ o.after, Region.binds .any e = true → ∃ u ∈ A1, u.ix = e.on
  oper : ∀ o ∈ A, chkOper P ops o = true
  pair : ∀ A1 u B t C, A = A1 ++ u :: B ++ t :: C → needs u (ccO (A1 ++ u :: B)) t = true → Anc ops u.ix t.ix
  lo : ∀ A1 t B, A = A1 ++ t :: B → loOk t.op (ccO A1) = true

theorem snoc_split {α : Type} {A A1 B1 : List α} {t x : α} (h : A ++ [t] = A1 ++ x :: B1) : (A1 = A ∧ x = t ∧ B1 = []) ∨ ∃ B', B1 = B' ++ [t] ∧ A = A1 ++ x :: B' := by
  rcases B1.eq_nil_or_concat with rfl | ⟨B', y, rfl⟩
  · left
    have := List.append_inj' h rfl
    exact ⟨this.1.symm, by simpa using this.2.symm, rfl⟩
  · right
    rw [List.concat_eq_append, ← List.cons_append, ← List.append_assoc] at h
    have := List.append_inj' h rfl
    have h2 : t = y := by simpa using this.2
    exact ⟨B', by rw [h2, List.concat_eq_append], this.1⟩

theorem ccO_append : ∀ (A B : List AOper), ccO (A ++ B) = ccO A + ccO B
  | [], B => by simp [ccO]
  | t :: A, B => by simp only [List.cons_append, ccO, ccO_append A B]; omega

theorem Pre.snoc {ops : Array Oper} {A : List AOper} {c seen M : Nat} (I : Pre P ops A c seen M) {t : AOper} {q : Oper} (hq : ops[t.ix]? = some q)
    (h1 : ∀ e ∈ q.after, Region.binds .any e = true → seen.testBit e.on = true) (h2 : seen.testBit t.ix = false) (h3 : chkOper P ops t = true) (h4 : loOk t.op c = true)
    (h5 : ∀ u ∈ A, needs u c t = true → (edgeM ops.size M q.after.toList).testBit u.ix = true) :
    Pre P ops (A ++ [t]) (c + (match t.op.isC with | true => 1 | false => 0)) (seen ||| 1 <<< t.ix) (M ||| edgeM ops.size M q.after.toList <<< (ops.size * t.ix)) := by
  have hlt : t.ix < ops.size := (Array.getElem?_eq_some_iff.1 hq).1
  have hout : ∀ u ∈ A, u.ix ≠ t.ix := fun u hu he => by
    have := (I.seen t.ix).2 ⟨u, hu, he⟩
    rw [h2] at this; cases this
  have eanc : ∀ b, (edgeM ops.size M q.after.toList).testBit b = true → b < ops.size ∧ Anc ops b t.ix := fun b hb => by
    obtain ⟨e, e1, e2, e3⟩ := edgeM_bit hb
    have e1 : e ∈ q.after := by simpa using e1
    rcases e3 with rfl | ⟨e3, e4⟩
    · obtain ⟨u, hu, hue⟩ := (I.seen e.on).1 (h1 e e1 e2)
      exact ⟨hue ▸ I.lt u hu, .edge hq e1 e2⟩
    · exact ⟨e3, .far hq e1 e2 (I.mask _ _ e3 e4)⟩
  refine ⟨?_, fun i => ?_, fun u hu => ?_, fun i k hk hm => ?_, ?_, fun A1 x B h o ho e he hb => ?_, fun o ho => ?_, fun A1 u B x C h hn => ?_, fun A1 x B h => ?_⟩
  · rw [ccO_append, I.cc]; simp only [ccO]; cases t.op.isC <;> rfl
  · rw [Nat.testBit_or, Bool.or_eq_true, I.seen, Nat.one_shiftLeft, Nat.testBit_two_pow]
    simp only [List.mem_append, List.mem_singleton, decide_eq_true_eq]
    constructor
    · rintro (⟨u, hu, h⟩ | h)
      · exact ⟨u, .inl hu, h⟩
      · exact ⟨t, .inr rfl, h⟩
    · rintro ⟨u, hu | rfl, h⟩
      · exact .inl ⟨u, hu, h⟩
      · exact .inr h
  · rcases List.mem_append.1 hu with hu | hu
    · exact I.lt u hu
    · rw [List.mem_singleton] at hu; subst hu; exact hlt
  · rw [Nat.testBit_or, Bool.or_eq_true] at hm
    rcases hm with hm | hm
    · exact I.mask i k hk hm
    · rw [Nat.testBit_shiftLeft, Bool.and_eq_true, decide_eq_true_eq] at hm
      obtain ⟨hge, hm⟩ := hm
      obtain ⟨hb, ha⟩ := eanc _ hm
      have hi : i = t.ix := by
        rcases Nat.lt_trichotomy i t.ix with h | h | h
        · exfalso
          have : ops.size * (i + 1) ≤ ops.size * t.ix := Nat.mul_le_mul_left _ h
          rw [Nat.mul_add, Nat.mul_one] at this
          omega
        · exact h
        · exfalso
          have : ops.size * (t.ix + 1) ≤ ops.size * i := Nat.mul_le_mul_left _ h
          rw [Nat.mul_add, Nat.mul_one] at this
          omega
      subst hi
      rw [show ops.size * t.ix + k - ops.size * t.ix = k by omega] at ha
      exact ha
  · rw [List.pairwise_append]
    exact ⟨I.nodup, List.pairwise_singleton _ _, fun u hu x hx => by rw [List.mem_singleton] at hx; subst hx; exact hout u hu⟩
  · rcases snoc_split h with ⟨rfl, rfl, rfl⟩ | ⟨B', _, h'⟩
    · rw [hq] at ho; cases ho
      exact (I.seen e.on).1 (h1 e he hb)
    · exact I.back A1 x B' h' o ho e he hb
  · rcases List.mem_append.1 ho with ho | ho
    · exact I.oper o ho
    · rw [List.mem_singleton] at ho; subst ho; exact h3
  · rcases snoc_split h with ⟨h', rfl, rfl⟩ | ⟨B', _, h'⟩
    · rw [h', ← I.cc] at hn
      exact (eanc _ (h5 u (by rw [← h']; simp) hn)).2
    · exact I.pair A1 u B x B' h' hn
  · rcases snoc_split h with ⟨rfl, rfl, rfl⟩ | ⟨B', _, h'⟩
    · rw [← I.cc]; exact h4
    · exact I.lo A1 x B' h'

theorem drawGo_sound {ops : Array Oper} : ∀ (rest prev : List AOper) (c seen M : Nat), drawGo P ops ops.size prev c seen M rest = true → Pre P ops prev.reverse c seen M → DrawOk P ops (prev.reverse ++ rest)
  | [], prev, c, seen, M, h, I => by
    simp only [drawGo, beq_iff_eq] at h
    rw [List.append_nil]
    refine ⟨fun i hi => ?_, I.nodup, I.back, I.oper, I.pair, I.lo⟩
    have : seen = 2 ^ ops.size - 1 := by omega
    exact (I.seen i).1 (by rw [this, Nat.testBit_two_pow_sub_one]; simpa using hi)
  | t :: rest, prev, c, seen, M, h, I => by
    simp only [drawGo] at h
    split at h <;> try cases h
    rename_i q hq
    simp only [withNat_eq, Bool.and_eq_true, Bool.not_eq_true', List.all_eq_true, Bool.or_eq_true] at h
    obtain ⟨⟨⟨⟨h1, h2⟩, h3⟩, h4⟩, h5, h6⟩ := h
    have I' := I.snoc hq (fun e he hb => (h1 e (by simpa using he)).resolve_left (by simp [hb])) h2 h3 h4 fun u hu hn => (h5 u (by simpa using hu)).resolve_left (by simp [hn])
    have e : prev.reverse ++ t :: rest = (t :: prev).reverse ++ rest := by simp
    rw [e]
    have e2 : (t :: prev).reverse = prev.reverse ++ [t] := by simp
    cases hC : t.op.isC with
    | true =>
      rw [hC] at h6 I'
      exact drawGo_sound rest (t :: prev) _ _ _ h6 (by rw [e2]; exact I')
    | false =>
      rw [hC] at h6 I'
      exact drawGo_sound rest (t :: prev) _ _ _ h6 (by rw [e2]; exact I')

def drawOk (P : Program) (ops : Array Oper) (l : List AOper) : Bool := drawGo P ops ops.size [] 0 0 0 l

theorem drawOk_sound {ops : Array Oper} {l : List AOper} (h : drawOk P ops l = true) : DrawOk P ops l := by
  have := drawGo_sound l [] 0 0 0 h ⟨rfl, by simp, by simp, by simp, .nil, by simp, by simp, by simp, by simp⟩
  simpa using this

/-- REGIONS THAT DRAW, IN EVERY ORDER. -/
theorem drawSound (hm : P.follows .mixedOrders = true) : DrawSound P (drawOk P) := by
  intro Γ hΓ ops l id k F μ a w s s' o Q hc S hk hr hQ
  have D := drawOk_sound hc
  unfold dRegion at hr
  split at hr
  · cases hr
  rename_i r hrun
  simp only at hr
  split at hr
  · rename_i hok
    cases hr
    rw [Bool.and_eq_true] at hok
    obtain ⟨hld, hnw⟩ := hok
    obtain ⟨T, hl, hT⟩ := runOps_tr l _ _ hrun
    refine wp_region_any hm ?_
    have hw : SR F μ s.fr s.h a { w with drawn := w.drawn + 1 } := SR.drawn (w := w) rfl rfl rfl rfl S
    have hG : Goes k F μ s.h a w μ s.h a { w with drawn := w.drawn + 1 } := Goes.drawn (w := w) rfl rfl rfl rfl hk
    obtain ⟨e, he⟩ : ∃ e, hp r 0 = s.h ++ e := by
      obtain ⟨more, h1, h2, e, h3⟩ := hT.segs
      exact ⟨e, by rw [hp, h1]; simp only [List.nil_append]; rw [h3]; rfl⟩
    have hz : inS (Array.replicate ops.size false) = fun _ => false := by
      funext i
      unfold inS
      by_cases hi : i < ops.size <;> simp [hi]
    refine any_sound (k := k) (F := F) (μ0 := μ) (a0 := a) (w0 := w) (s := ⟨s.fr, s.h, [], [], []⟩) hΓ D hl rfl hT hld hnw hk (fun μ' a' w' S' G' => hQ μ' a' w' S' G') ops.size _ 0 μ a _ (by simp) (by simp [unl]) ?_ ?_
    · rw [hz]; intro j o hj; cases hj
    · rw [hz]
      refine ⟨Nat.zero_le _, fun A t B _ _ => by simp, ?_, fun A t B hAB hop hg _ => ?_, ?_⟩
      · have hfs : fs (fun _ => false) s.fr T = s.fr := by
          clear hl hT hrun he
          generalize s.fr = fr
          induction T with
          | nil => rfl
          | cons t T ih => simp only [fs]; exact ih
        simp only
        rw [hfs, he]
        exact hw.app
      · obtain ⟨s1, at_⟩ := Tr.at (s := ⟨s.fr, s.h, [], [], []⟩) rfl (hAB ▸ hT)
        exact S.none _ at_.lenA
      · rw [he]
        exact hG.trans (Goes.app hk S.none)
  · cases hr
end Go.PV
