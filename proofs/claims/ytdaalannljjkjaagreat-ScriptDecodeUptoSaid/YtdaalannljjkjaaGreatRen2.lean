/- Renaming by a list of numbers: calls, loop heads, ends of calls. -/
import Derived.Test.YtdaalannljjkjaaGreatRen
set_option linter.unusedVariables false
set_option linter.unusedSimpArgs false
namespace Go.PV

theorem idxIn_get : ∀ {ids : List Nat} {b i : Nat}, idxIn ids b = some i → ids[i]? = some b
  | [], b, i, h => by simp [idxIn] at h
  | a :: t, b, i, h => by
    simp only [idxIn] at h
    split at h
    · rename_i hab; cases h; simp [hab]
    · split at h <;> cases h
      rename_i j hj
      simpa using idxIn_get hj

theorem get_idxIn : ∀ {ids : List Nat} {b i : Nat}, ids.Nodup → ids[i]? = some b → idxIn ids b = some i
  | [], b, i, _, h => by simp at h
  | a :: t, b, 0, _, h => by simp at h; subst h; simp [idxIn]
  | a :: t, b, i + 1, hn, h => by
    have hn := List.nodup_cons.1 hn
    have h' : t[i]? = some b := by simpa using h
    have hne : a ≠ b := fun e => hn.1 (e ▸ List.mem_of_getElem? h')
    simp [idxIn, hne, get_idxIn hn.2 h']

theorem reach_nodup (h : Heap) : ∀ (n : Nat) (todo seen : List Nat), seen.Nodup → (reach h n todo seen).Nodup
  | 0, todo, seen, hs => by cases todo <;> exact hs
  | n + 1, [], seen, hs => hs
  | n + 1, b :: todo, seen, hs => by
    rw [reach]
    split
    · exact reach_nodup h n todo seen hs
    · rename_i hc
      refine reach_nodup h n _ _ ?_
      rw [List.nodup_append]
      refine ⟨hs, by simp, fun a ha b' hb' => ?_⟩
      simp at hb'; subst hb'
      intro e; subst e
      exact hc (by simpa using ha)

theorem keepOf_nodup (h : Heap) (k : Nat) (vs : List V) : (keepOf h k vs).Nodup := by
  unfold keepOf
  rw [List.nodup_append]
  refine ⟨List.nodup_range, (reach_nodup h _ _ _ List.nodup_nil).sublist List.filter_sublist, fun a ha b hb => ?_⟩
  have := List.mem_range.1 ha
  have := (List.mem_filter.1 hb).2
  simp at this
  omega

theorem keepOf_get {h : Heap} {k : Nat} {vs : List V} {b : Nat} (hb : b < k) : (keepOf h k vs)[b]? = some b := by
  unfold keepOf
  rw [List.getElem?_append_left (by simpa using hb)]
  simp [hb]

theorem pickBlks_spec {h : Heap} : ∀ {ids : List Nat} {l : List Blk}, pickBlks h ids = some l → l.length = ids.length ∧ ∀ (i b : Nat), ids[i]? = some b → ∃ x, h[b]? = some x ∧ l[i]? = some x
  | [], l, hp => by simp [pickBlks] at hp; subst hp; simp
  | a :: t, l, hp => by
    rw [pickBlks] at hp
    split at hp <;> cases hp
    rename_i x l' hx hl
    obtain ⟨h1, h2⟩ := pickBlks_spec hl
    refine ⟨by simp [h1], fun i b hb => ?_⟩
    cases i with
    | zero => simp at hb; subst hb; exact ⟨x, hx, rfl⟩
    | succ i => simpa using h2 i b (by simpa using hb)

theorem trBlks_spec {σ : Nat → Option Nat} : ∀ {l l' : List Blk}, trBlks σ l = some l' → l'.length = l.length ∧ ∀ (i : Nat) (x : Blk), l[i]? = some x → ∃ y, l'[i]? = some y ∧ x.tr σ = some y
  | [], l', h => by simp [trBlks] at h; subst h; simp
  | a :: t, l', h => by
    rw [trBlks] at h
    split at h <;> cases h
    rename_i x l2 hx hl
    obtain ⟨h1, h2⟩ := trBlks_spec hl
    refine ⟨by simp [h1], fun i b hb => ?_⟩
    cases i with
    | zero => simp at hb; subst hb; exact ⟨x, rfl, hx⟩
    | succ i => simpa using h2 i b (by simpa using hb)

/-- What 'rename' yields. -/
structure Renamed (h : Heap) (ids : List Nat) (vs : List V) (vs' : List V) (h' : Heap) : Prop where
  len : h'.length = ids.length
  vlen : vs'.length = vs.length
  val : ∀ (i : Nat) (c : V), vs[i]? = some c → ∃ c', vs'[i]? = some c' ∧ c.trD (idxIn ids) = some c'
  blk : ∀ (i b : Nat), ids[i]? = some b → ∃ x y, h[b]? = some x ∧ h'[i]? = some y ∧ x.tr (idxIn ids) = some y

theorem rename_spec {h h' : Heap} {ids : List Nat} {vs vs' : List V} (hr : rename h ids vs = some (vs', h')) : Renamed h ids vs vs' h' := by
  unfold rename at hr
  split at hr <;> try cases hr
  rename_i vs2 l hvs hl
  split at hr <;> cases hr
  rename_i hl2
  obtain ⟨h1, h2⟩ := trL_spec hvs
  obtain ⟨h3, h4⟩ := pickBlks_spec hl
  obtain ⟨h5, h6⟩ := trBlks_spec hl2
  refine ⟨by rw [h5, h3], h1, h2, fun i b hb => ?_⟩
  obtain ⟨x, k1, k2⟩ := h4 i b hb
  obtain ⟨y, k3, k4⟩ := h6 i x k2
  exact ⟨x, y, k1, k3, k4⟩

def muOf (μ : Mu) (ids : List Nat) : Mu := fun i => (ids[i]?).bind μ

section
variable {F F' : Nat → Prop} {μ : Mu} {h h' : Heap} {ids : List Nat} {vs vs' : List V} {w : World}

theorem Renamed.ok (hR : Renamed h ids vs vs' h') : RenOk (idxIn ids) μ (muOf μ ids) (lk h) (lk h') where
  blk b i x hs hb := by
    obtain ⟨x', y, k1, k2, k3⟩ := hR.blk i b (idxIn_get hs)
    have : h[b]? = some x := hb
    rw [this] at k1; cases k1
    obtain ⟨q1, q2, q3⟩ := blk_tr_spec k3
    exact ⟨y, k2, q1, q2, q3⟩
  mu b i hs := by simp [muOf, idxIn_get hs]

theorem Renamed.back (hR : Renamed h ids vs vs' h') (hn : ids.Nodup) {i : Nat} {y : Blk} (hi : lk h' i = some y) : ∃ b x, ids[i]? = some b ∧ idxIn ids b = some i ∧ lk h b = some x ∧ x.tr (idxIn ids) = some y := by
  have hlt : i < ids.length := by rw [← hR.len]; exact lk_lt hi
  obtain ⟨x, y', k1, k2, k3⟩ := hR.blk i _ (List.getElem?_eq_getElem hlt)
  have : h'[i]? = some y := hi
  rw [this] at k2; cases k2
  exact ⟨_, x, List.getElem?_eq_getElem hlt, get_idxIn hn (List.getElem?_eq_getElem hlt), k1, k3⟩

theorem Renamed.own (hR : Renamed h ids vs vs' h') (hn : ids.Nodup) {B : Nat} (ho : own (muOf μ ids) (lk h') B) : ∃ b x lo, b ∈ ids ∧ lk h b = some x ∧ x.live = true ∧ μ b = some (B, lo) := by
  obtain ⟨i, y, lo, h1, h2, h3⟩ := ho
  obtain ⟨b, x, k1, k2, k3, k4⟩ := hR.back hn h1
  obtain ⟨q1, _⟩ := blk_tr_spec k4
  refine ⟨b, x, lo, List.mem_of_getElem? k1, k3, by rw [← q1]; exact h2, ?_⟩
  simpa [muOf, k1] using h3

/-- The heap under the new numbers; F' holds what was forbidden, and maybe more. -/
theorem Renamed.hrel (hR : Renamed h ids vs vs' h') (hn : ids.Nodup) (H : HRel F μ (lk h) w) (hF : ∀ B, F' B → F B ∨ ∃ b x lo, b ∉ ids ∧ lk h b = some x ∧ x.live = true ∧ μ b = some (B, lo)) : HRel F' (muOf μ ids) (lk h') w ∧ ∀ B, fbOf F' (muOf μ ids) (lk h') B → fbOf F μ (lk h) B := by
  have hfb : ∀ B, fbOf F' (muOf μ ids) (lk h') B → fbOf F μ (lk h) B := fun B hB => by
    rcases hB with hB | hB
    · rcases hF B hB with hB | ⟨b, x, lo, _, h1, h2, h3⟩
      · exact .inl hB
      · exact .inr ⟨b, x, lo, h1, h2, h3⟩
    · obtain ⟨b, x, lo, _, h1, h2, h3⟩ := hR.own hn hB
      exact .inr ⟨b, x, lo, h1, h2, h3⟩
  refine ⟨H.ren hR.ok hfb (fun B hB => ?_) (fun i y hi hl p hp => ?_) fun i y B lo hi hl hm hB => ?_, hfb⟩
  · rcases hF B hB with hB | ⟨b, x, lo, _, h1, h2, h3⟩
    · exact H.wf B hB
    · exact H.lt ⟨b, x, lo, h1, h2, h3⟩
  · obtain ⟨b, x, _, k2, k3, k4⟩ := hR.back hn hi
    exact ⟨b, x, k2, k3, k4⟩
  · obtain ⟨b, x, k1, k2, k3, k4⟩ := hR.back hn hi
    obtain ⟨q1, _⟩ := blk_tr_spec k4
    have hm' : μ b = some (B, lo) := by simpa [muOf, k1] using hm
    have hlx : x.live = true := by rw [← q1]; exact hl
    rcases hF B hB with hB | ⟨b', x', lo', hni, h1, h2, h3⟩
    · exact H.apart b x B lo k3 hlx hm' hB
    · have := H.inj b b' x x' B lo lo' k3 hlx h1 h2 hm' h3
      subst this
      exact hni (List.mem_of_getElem? k1)

theorem Renamed.vals (hR : Renamed h ids vs vs' h') {fb : Nat → Prop} {fb' : Nat → Prop} {cvs : List Value} (hfb : ∀ B, fb' B → fb B)
    (hv : ∀ (i : Nat) (c : V) (v : Value), vs[i]? = some c → cvs[i]? = some v → VRel fb μ (lk h) w c v) :
    ∀ (i : Nat) (c : V) (v : Value), vs'[i]? = some c → cvs[i]? = some v → VRel fb' (muOf μ ids) (lk h') w c v := by
  intro i c v h1 h2
  have hlt : i < vs.length := by rw [← hR.vlen]; exact (List.getElem?_eq_some_iff.1 h1).1
  obtain ⟨c', k1, k2⟩ := hR.val i _ (List.getElem?_eq_getElem hlt)
  rw [h1] at k1; cases k1
  exact (hv i _ v (List.getElem?_eq_getElem hlt) h2).ren hR.ok hfb k2

/-- Blocks below k keep their numbers: the run goes on. -/
theorem Renamed.evo {k : Nat} (hR : Renamed h ids vs vs' h') (hn : ids.Nodup) (hk : ∀ b, b < k → ids[b]? = some b) : Evo (fun b => b < k) F μ (lk h) w (muOf μ ids) (lk h') w where
  os := rfl
  tape := rfl
  output := rfl
  size := Nat.le_refl _
  same _ _ _ := rfl
  arr B arr e fr hB := ⟨arr, hB, rfl⟩
  turn b hb x hx := by
    obtain ⟨x', y, k1, k2, k3⟩ := hR.blk b b (hk b hb)
    have : h[b]? = some x := hx
    rw [this] at k1; cases k1
    obtain ⟨q1, q2, q3⟩ := blk_tr_spec k3
    refine ⟨y, k2, ?_⟩
    cases hxl : x.live with
    | true => exact .inr ⟨rfl, by rw [q1, hxl], q2, by omega⟩
    | false =>
      left
      rw [hxl] at q1
      cases y <;> first | rfl | cases q1
  mu b hb p hp := by simp [muOf, hk b hb, hp]
  own B hB ho := by
    obtain ⟨b, x, lo, _, h1, h2, h3⟩ := hR.own hn ho
    exact ⟨b, x, lo, h1, h2, h3⟩
end
end Go.PV
