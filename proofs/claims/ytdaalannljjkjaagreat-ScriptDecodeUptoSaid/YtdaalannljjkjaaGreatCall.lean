/- Calls on the heap that the arguments lead to. -/
import Derived.Test.YtdaalannljjkjaaGreatRen2
set_option linter.unusedVariables false
set_option linter.unusedSimpArgs false
namespace Go.PV
variable {P : Program}

/-- The end of a call. -/
structure Ends (F : Nat → Prop) (μ : Mu) (h : Heap) (w : World) (μ' : Mu) (h' : Heap) (w' : World) (v : V) (cv : Value) : Prop where
  evo : Evo All F μ (lk h) w μ' (lk h') w'
  hrel : HRel F μ' (lk h') w'
  val : VRel (fbOf F μ' (lk h')) μ' (lk h') w' v cv
  len : h.length ≤ h'.length
  keep : ∀ b, b < h.length → μ' b = μ b
  none : ∀ b, h'.length ≤ b → μ' b = none

/-- A function that is entered. -/
def entered (P : Program) (f : Nat) : Bool := match P.funcs[f]? with | some fn => fn.name != "runtime.NumGoroutine" && fn.body.isSome | none => false

/-- What the evaluator says of calls holds of the program. -/
def Sound (P : Program) (Γ : CallF) : Prop :=
  ∀ (f : Nat) (args : List V) (h : Heap) (v : V) (h' : Heap), Γ f args h = some (v, h') → entered P f = true ∧ ∀ (F : Nat → Prop) (μ : Mu) (w : World) (cargs : List Value), HRel F μ (lk h) w → (∀ b, h.length ≤ b → μ b = none) →
    args.length = cargs.length → (∀ (i : Nat) (c : V) (u : Value), args[i]? = some c → cargs[i]? = some u → VRel (fbOf F μ (lk h)) μ (lk h) w c u) →
    Calls P f cargs.toArray w fun e w' => ∃ cv μ', e = .returned cv ∧ Ends F μ h w μ' h' w' v cv

theorem putBlks_len : ∀ (ids : List Nat) (l : List Blk) (h : Heap), (putBlks h ids l).length = h.length
  | [], _, _ => by simp [putBlks]
  | _ :: _, [], _ => by simp [putBlks]
  | b :: t, k :: l, h => by rw [putBlks, putBlks_len t l]; simp

theorem putBlks_out : ∀ (ids : List Nat) (l : List Blk) (h : Heap) (b : Nat), b ∉ ids → (putBlks h ids l)[b]? = h[b]?
  | [], _, _, _, _ => by simp [putBlks]
  | _ :: _, [], _, _, _ => by simp [putBlks]
  | a :: t, k :: l, h, b, hb => by
    simp only [List.mem_cons, not_or] at hb
    rw [putBlks, putBlks_out t l _ b hb.2, List.getElem?_set_ne (Ne.symm hb.1)]

theorem putBlks_in : ∀ (ids : List Nat) (l : List Blk) (h : Heap) (i b : Nat) (x : Blk), ids.Nodup → ids[i]? = some b → l[i]? = some x → b < h.length → (putBlks h ids l)[b]? = some x
  | [], _, _, i, _, _, _, hi, _, _ => by simp at hi
  | _ :: _, [], _, i, _, _, _, _, hl, _ => by simp at hl
  | a :: t, k :: l, h, 0, b, x, hn, hi, hl, hb => by
    simp at hi hl; subst hi hl
    have hn := List.nodup_cons.1 hn
    rw [putBlks, putBlks_out t l _ a hn.1]
    simp [hb]
  | a :: t, k :: l, h, i + 1, b, x, hn, hi, hl, hb => by
    have hn := List.nodup_cons.1 hn
    rw [putBlks]
    exact putBlks_in t l _ i b x hn.2 (by simpa using hi) (by simpa using hl) (by simpa using hb)

theorem doCall_inv {Γ : CallF} {f : Nat} {args : List V} {h h' : Heap} {v : V} (hr : doCall Γ f args h = some (v, h')) :
    ∃ args' lh v1 lh1 lh2, rename h (reach h fuelR (V.idsL args) []) args = some (args', lh) ∧ Γ f args' lh = some (v1, lh1) ∧
      v1.trD (backσ (reach h fuelR (V.idsL args) []) h.length) = some v ∧ trBlks (backσ (reach h fuelR (V.idsL args) []) h.length) lh1 = some lh2 ∧ (reach h fuelR (V.idsL args) []).length ≤ lh2.length ∧
      h' = putBlks h (reach h fuelR (V.idsL args) []) (lh2.take (reach h fuelR (V.idsL args) []).length) ++ lh2.drop (reach h fuelR (V.idsL args) []).length := by
  unfold doCall at hr
  simp only at hr
  split at hr <;> try cases hr
  rename_i args' lh hren
  rw [withVL_eq, withH_eq] at hr
  split at hr <;> try cases hr
  rename_i v1 lh1 hΓ
  split at hr <;> try cases hr
  rename_i v2 lh2 hv hl
  split at hr <;> cases hr
  rename_i hle
  exact ⟨args', lh, v1, lh1, lh2, hren, hΓ, by rw [← tr_eq]; exact hv, hl, hle, rfl⟩

theorem doCall_sound {Γ : CallF} (hΓ : Sound P Γ) : Sound P (doCall Γ) := by
  intro f args h v h' hr
  obtain ⟨args', lh, v1, lh1, lh2, hren, hcall, hv1, hl2, hle, rfl⟩ := doCall_inv hr
  obtain ⟨hent, hC⟩ := hΓ f args' lh v1 lh1 hcall
  refine ⟨hent, fun F μ w cargs H hμ hal hargs => ?_⟩
  have hn : (reach h fuelR (V.idsL args) []).Nodup := reach_nodup h _ _ _ List.nodup_nil
  generalize reach h fuelR (V.idsL args) [] = ids at *
  have hR := rename_spec hren
  obtain ⟨t1, t2⟩ := trBlks_spec hl2
  have hidlt : ∀ (i b : Nat), ids[i]? = some b → b < h.length := fun i b hb => by
    obtain ⟨x, y, k1, _⟩ := hR.blk i b hb
    exact (List.getElem?_eq_some_iff.1 k1).1
  let Fc : Nat → Prop := fun B => F B ∨ ∃ b x lo, b ∉ ids ∧ lk h b = some x ∧ x.live = true ∧ μ b = some (B, lo)
  obtain ⟨Hc, hfbc⟩ := hR.hrel (F' := Fc) hn H (fun B hB => hB)
  have hlen : lh.length = ids.length := hR.len
  refine (hC Fc (muOf μ ids) w cargs Hc (fun b hb => by simp [muOf, List.getElem?_eq_none (show ids.length ≤ b by omega)]) (by rw [hR.vlen]; exact hal) (hR.vals hfbc hargs)).mono ?_
  rintro e w' ⟨cv, μc, rfl, hE⟩
  have hk : ids.length ≤ lh1.length := by rw [← hlen]; exact hE.len
  let μ2 : Mu := fun b => if b < h.length then μ b else μc (ids.length + (b - h.length))
  let h2 : Heap := putBlks h ids (lh2.take ids.length) ++ lh2.drop ids.length
  have hh2 : h2.length = h.length + (lh1.length - ids.length) := by simp [h2, putBlks_len, t1]
  -- what lies where
  have at_new : ∀ (i b : Nat) (x : Blk), backσ ids h.length i = some b → lk lh1 i = some x → ∃ y, lk h2 b = some y ∧ x.tr (backσ ids h.length) = some y := fun i b x hs hx => by
    obtain ⟨y, k1, k2⟩ := t2 i x hx
    refine ⟨y, ?_, k2⟩
    unfold backσ at hs
    split at hs
    · rename_i hi
      have hb := hidlt i b hs
      show h2[b]? = some y
      rw [List.getElem?_append_left (by rw [putBlks_len]; exact hb)]
      exact putBlks_in ids _ h i b y hn hs (by rw [List.getElem?_take, if_pos hi]; exact k1) hb
    · rename_i hi
      cases hs
      show h2[h.length + (i - ids.length)]? = some y
      rw [List.getElem?_append_right (by rw [putBlks_len]; omega), putBlks_len, List.getElem?_drop, ← k1]
      congr 1; omega
  have sort : ∀ (b : Nat) (y : Blk), lk h2 b = some y → (b < h.length ∧ b ∉ ids ∧ lk h b = some y) ∨ ∃ i x, backσ ids h.length i = some b ∧ lk lh1 i = some x ∧ x.tr (backσ ids h.length) = some y := fun b y hb => by
    have hlt : b < h.length + (lh1.length - ids.length) := by rw [← hh2]; exact lk_lt hb
    by_cases hbl : b < h.length
    · by_cases hbi : b ∈ ids
      · right
        obtain ⟨i, hi⟩ := List.getElem?_of_mem hbi
        have hil : i < ids.length := (List.getElem?_eq_some_iff.1 hi).1
        have hs : backσ ids h.length i = some b := by simp only [backσ, if_pos hil]; exact hi
        have hx : lk lh1 i = some (lh1[i]'(by omega)) := List.getElem?_eq_getElem _
        obtain ⟨y', k1, k2⟩ := at_new i b _ hs hx
        rw [hb] at k1; cases k1
        exact ⟨i, _, hs, hx, k2⟩
      · left
        refine ⟨hbl, hbi, ?_⟩
        have : h2[b]? = some y := hb
        rw [List.getElem?_append_left (by rw [putBlks_len]; exact hbl), putBlks_out _ _ _ _ hbi] at this
        exact this
    · right
      have hs : backσ ids h.length (ids.length + (b - h.length)) = some b := by
        simp only [backσ, if_neg (show ¬ ids.length + (b - h.length) < ids.length by omega)]
        congr 1; omega
      have hx : lk lh1 (ids.length + (b - h.length)) = some (lh1[ids.length + (b - h.length)]'(by omega)) := List.getElem?_eq_getElem _
      obtain ⟨y', k1, k2⟩ := at_new _ b _ hs hx
      rw [hb] at k1; cases k1
      exact ⟨_, _, hs, hx, k2⟩
  have hOk : RenOk (backσ ids h.length) μc μ2 (lk lh1) (lk h2) := by
    refine ⟨fun i b x hs hx => ?_, fun i b hs => ?_⟩
    · obtain ⟨y, k1, k2⟩ := at_new i b x hs hx
      obtain ⟨q1, q2, q3⟩ := blk_tr_spec k2
      exact ⟨y, k1, q1, q2, q3⟩
    · unfold backσ at hs
      split at hs
      · rename_i hi
        have hb := hidlt i b hs
        simp only [μ2, if_pos hb]
        rw [hE.keep i (by omega)]
        simp [muOf, hs]
      · rename_i hi
        cases hs
        simp only [μ2, if_neg (show ¬ h.length + (i - ids.length) < h.length by omega)]
        congr 1; omega
  have hown : ∀ B, own μ2 (lk h2) B → Fc B ∨ own μc (lk lh1) B := fun B ⟨b, y, lo, h1, h2', h3⟩ => by
    rcases sort b y h1 with ⟨k1, k2, k3⟩ | ⟨i, x, k1, k2, k3⟩
    · have h3 : μ b = some (B, lo) := by simpa [μ2, k1] using h3
      exact .inl (.inr ⟨b, y, lo, k2, k3, h2', h3⟩)
    · obtain ⟨q1, _⟩ := blk_tr_spec k3
      exact .inr ⟨i, x, lo, k2, by rw [← q1]; exact h2', by rw [← hOk.mu i b k1]; exact h3⟩
  have hfb2 : ∀ B, fbOf F μ2 (lk h2) B → fbOf Fc μc (lk lh1) B := fun B hB => by
    rcases hB with hB | hB
    · exact .inl (.inl hB)
    · exact hown B hB
  have hcown : ∀ B, own (muOf μ ids) (lk lh) B → own μ (lk h) B := fun B hB => by
    obtain ⟨b, x, lo, _, h1, h2, h3⟩ := hR.own hn hB
    exact ⟨b, x, lo, h1, h2, h3⟩
  have hE2 : Evo All F μ (lk h) w μ2 (lk h2) w' := by
    refine ⟨hE.evo.os, hE.evo.tape, hE.evo.output, hE.evo.size, fun B hB hno => hE.evo.same B hB fun ho => hno (hcown B ho), hE.evo.arr, fun b _ x hx => ?_, fun b _ p hp => ?_, fun B hB ho => ?_⟩
    · have hbl : b < h.length := lk_lt hx
      by_cases hbi : b ∈ ids
      · obtain ⟨i, hi⟩ := List.getElem?_of_mem hbi
        have hil : i < ids.length := (List.getElem?_eq_some_iff.1 hi).1
        obtain ⟨x', y, k1, k2, k3⟩ := hR.blk i b hi
        have hx' : h[b]? = some x := hx
        rw [hx'] at k1; cases k1
        obtain ⟨q1, q2, q3⟩ := blk_tr_spec k3
        obtain ⟨z, m1, m2⟩ := hE.evo.turn i trivial y k2
        obtain ⟨z', n1, n2⟩ := at_new i b z (by simp only [backσ, if_pos hil]; exact hi) m1
        obtain ⟨r1, r2, r3⟩ := blk_tr_spec n2
        refine ⟨z', n1, ?_⟩
        rcases m2 with rfl | ⟨l1, l2, s1, c1⟩
        · left; cases z' <;> first | rfl | cases r1
        · exact .inr ⟨by rw [← q1]; exact l1, by rw [r1]; exact l2, by rw [r2, s1, q2], by omega⟩
      · have hx2 : lk h2 b = some x := by
          show h2[b]? = some x
          rw [List.getElem?_append_left (by rw [putBlks_len]; exact hbl), putBlks_out _ _ _ _ hbi]
          exact hx
        obtain ⟨x', h1, h2'⟩ := turns.refl (some x) x rfl
        cases h1
        exact ⟨x, hx2, h2'⟩
    · have hb : b < h.length := Nat.lt_of_not_le fun hle => by rw [hμ b hle] at hp; cases hp
      simp [μ2, hb, hp]
    · rcases hown B ho with (hF | ⟨b, x, lo, _, h1, h2, h3⟩) | ho
      · exfalso
        -- what is owned is not forbidden
        obtain ⟨b, y, lo, h1, h2', h3⟩ := ho
        rcases sort b y h1 with ⟨k1, k2, k3⟩ | ⟨i, x, k1, k2, k3⟩
        · exact H.apart b y B lo k3 h2' (by simpa [μ2, k1] using h3) hF
        · obtain ⟨q1, _⟩ := blk_tr_spec k3
          exact hE.hrel.apart i x B lo k2 (by rw [← q1]; exact h2') (by rw [← hOk.mu i b k1]; exact h3) (.inl hF)
      · exact ⟨b, x, lo, h1, h2, h3⟩
      · exact hcown B (hE.evo.own B hB ho)
  refine ⟨cv, μ2, rfl, hE2, ?_, hE.val.ren hOk hfb2 hv1, by rw [hh2]; omega, fun b hb => by simp [μ2, hb], fun b hb => ?_⟩
  · -- the memory of what was not handed over is as it was
    have stay : ∀ (b : Nat) (x : Blk) (B lo : Nat), b ∉ ids → lk h b = some x → x.live = true → μ b = some (B, lo) → w'.heap[B]? = w.heap[B]? := fun b x B lo hb h1 h2 h3 => by
      refine hE.evo.same B (H.lt ⟨b, x, lo, h1, h2, h3⟩) fun ho => ?_
      obtain ⟨b', x', lo', m1, m2, m3, m4⟩ := hR.own hn ho
      have := H.inj b b' x x' B lo lo' h1 h2 m2 m3 h3 m4
      subst this
      exact hb m1
    refine ⟨fun B hB => hE.hrel.wf B (.inl hB), fun b y B lo h1 h2' h3 hF => ?_, fun b y B lo h1 h2' h3 => ?_, fun b y B lo h1 h2' h3 => ?_, fun b b' y y' B lo lo' h1 h2' h3 h4 h5 h6 => ?_⟩
    · rcases sort b y h1 with ⟨k1, k2, k3⟩ | ⟨i, x, k1, k2, k3⟩
      · exact H.apart b y B lo k3 h2' (by simpa [μ2, k1] using h3) hF
      · obtain ⟨q1, _⟩ := blk_tr_spec k3
        exact hE.hrel.apart i x B lo k2 (by rw [← q1]; exact h2') (by rw [← hOk.mu i b k1]; exact h3) (.inl hF)
    · rcases sort b y h1 with ⟨k1, k2, k3⟩ | ⟨i, x, k1, k2, k3⟩
      · have h3 : μ b = some (B, lo) := by simpa [μ2, k1] using h3
        rw [stay b y B lo k2 k3 h2' h3]
        exact H.cells b y B lo k3 h2' h3
      · obtain ⟨q1, _⟩ := blk_tr_spec k3
        exact hE.hrel.cells i x B lo k2 (by rw [← q1]; exact h2') (by rw [← hOk.mu i b k1]; exact h3)
    · rcases sort b y h1 with ⟨k1, k2, k3⟩ | ⟨i, x, k1, k2, k3⟩
      · have h3 : μ b = some (B, lo) := by simpa [μ2, k1] using h3
        exact (H.rel b y B lo k3 h2' h3).evo hE2 (stay b y B lo k2 k3 h2' h3)
      · obtain ⟨q1, _⟩ := blk_tr_spec k3
        exact (hE.hrel.rel i x B lo k2 (by rw [← q1]; exact h2') (by rw [← hOk.mu i b k1]; exact h3)).ren hOk hfb2 k3
    · rcases sort b y h1 with ⟨k1, k2, k3⟩ | ⟨i, x, k1, k2, k3⟩ <;> rcases sort b' y' h3 with ⟨m1, m2, m3⟩ | ⟨j, z, m1, m2, m3⟩
      · exact H.inj b b' y y' B lo lo' k3 h2' m3 h4 (by simpa [μ2, k1] using h5) (by simpa [μ2, m1] using h6)
      · exfalso
        obtain ⟨q1, _⟩ := blk_tr_spec m3
        exact hE.hrel.apart j z B lo' m2 (by rw [← q1]; exact h4) (by rw [← hOk.mu j b' m1]; exact h6) (.inr ⟨b, y, lo, k2, k3, h2', by simpa [μ2, k1] using h5⟩)
      · exfalso
        obtain ⟨q1, _⟩ := blk_tr_spec k3
        exact hE.hrel.apart i x B lo k2 (by rw [← q1]; exact h2') (by rw [← hOk.mu i b k1]; exact h5) (.inr ⟨b', y', lo', m2, m3, h4, by simpa [μ2, m1] using h6⟩)
      · obtain ⟨q1, _⟩ := blk_tr_spec k3
        obtain ⟨q2, _⟩ := blk_tr_spec m3
        have := hE.hrel.inj i j x z B lo lo' k2 (by rw [← q1]; exact h2') m2 (by rw [← q2]; exact h4) (by rw [← hOk.mu i b k1]; exact h5) (by rw [← hOk.mu j b' m1]; exact h6)
        subst this
        rw [k1] at m1
        exact Option.some.inj m1
  · have hb : h2.length ≤ b := hb
    rw [hh2] at hb
    simp only [μ2, if_neg (show ¬ b < h.length by omega)]
    exact hE.none _ (by omega)
end Go.PV
