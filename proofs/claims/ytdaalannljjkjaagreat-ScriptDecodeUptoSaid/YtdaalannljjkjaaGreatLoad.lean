/- Reading memory. -/
import Derived.Test.YtdaalannljjkjaaGreatMor
set_option linter.unusedVariables false
set_option linter.unusedSimpArgs false
namespace Go.PV
variable {P : Program}
section
variable {F : Nat → Prop} {μ : Mu} {w : World} {fr : List V} {a : Act}

def lk (h : Heap) : Lk := fun b => h[b]?

theorem gather {α : Type} {Rl : α → Value → Prop} {w : World} {B : Nat} : ∀ {l : List α} {o : Nat}, (∀ (i : Nat) (c : α), l[i]? = some c → ∃ v, cellIs w ⟨B, o + i, none⟩ v ∧ Rl c v) →
    ∃ vs : List Value, Ones l.length vs ∧ w.rangeAt B o vs ∧ ∀ (i : Nat) (c : α) (v : Value), l[i]? = some c → vs[i]? = some v → Rl c v
  | [], o, _ => ⟨[], ⟨rfl, by simp⟩, fun j v h => by simp at h, fun i c v h => by simp at h⟩
  | c :: l, o, h => by
    obtain ⟨v, hv, hr⟩ := h 0 c rfl
    obtain ⟨vs, h1, h2, h3⟩ := gather (l := l) (o := o + 1) (fun i c hc => by
      have := h (i + 1) c (by simpa using hc)
      rwa [show o + (i + 1) = o + 1 + i by omega] at this)
    refine ⟨v :: vs, ⟨by simp [h1.1], fun u hu => ?_⟩, fun j u hj => ?_, fun i c' u hi hu => ?_⟩
    · rcases List.mem_cons.1 hu with rfl | hu
      · exact hv.2
      · exact h1.2 u hu
    · cases j with
      | zero => simp at hj; subst hj; exact hv.1
      | succ j =>
        have := h2 j u (by simpa using hj)
        rwa [show o + 1 + j = o + (j + 1) by omega] at this
    · cases i with
      | zero => simp at hi hu; subst hi hu; exact hr
      | succ i => exact h3 i c' u (by simpa using hi) (by simpa using hu)

theorem sub_get {α : Type} {l : List α} {f n i : Nat} {c : α} (h : ((l.drop f).take n)[i]? = some c) : l[f + i]? = some c := by
  rw [List.getElem?_take] at h
  split at h
  · simpa using h
  · cases h

theorem run_load_row {t : TypeId} {d : TypeDesc} {n : Nat} (hd : P.underlying t = some d) (hrow : d.isRow = true) (hs : szIs P t n = true) {B o : Nat} {vs : List Value} (hl : vs.length = n) (hv : w.rangeAt B o vs) :
    (Instr.loadAt t (.pointer (some ⟨B, o, none⟩))).run P w = .ok (.agg vs.toArray) w := by
  obtain ⟨inf, hinf, hs⟩ := szIs_info hs
  exact run_loadAt_mid w B o t vs d hv hd (by cases d <;> simp_all) (by rw [hinf]; simp [hs, hl])

theorem run_load_cell {t : TypeId} {d : TypeDesc} (hd : P.underlying t = some d) (hrow : d.isRow = false) {B o : Nat} {v : Value} (hv : w.cell? ⟨B, o, none⟩ = some v) :
    (Instr.loadAt t (.pointer (some ⟨B, o, none⟩))).run P w = .ok v w := by
  simp [Instr.loadAt, Instr.sureAddr, loadVar, run_isAgg hd, hrow, hv]

/-- A load from cells that are known one by one, read-only or not. -/
theorem load_R {fb : Nat → Prop} {g : Lk} {t : TypeId} {d : TypeDesc} {ag : Bool} {n : Nat} (hd : P.underlying t = some d) (hrow : d.isRow = ag) (hs : szIs P t n = true) {cs : List R} {B o f : Nat} {x : R}
    (hc : ∀ (i : Nat) (c : R), cs[i]? = some c → ∃ v, cellIs w ⟨B, o + i, none⟩ v ∧ RRel fb w c v) (hp : partR ag n cs f = some x) :
    ∃ cv, (Instr.loadAt t (.pointer (some ⟨B, o + f, none⟩))).run P w = .ok cv w ∧ RRel fb w x cv := by
  unfold partR at hp
  cases ag with
  | true =>
    simp only at hp
    split at hp <;> cases hp
    rename_i hle
    obtain ⟨vs, h1, h2, h3⟩ := gather (l := (cs.drop f).take n) (o := o + f) (B := B) (w := w) (Rl := RRel fb w) (fun i c h => by
      have := hc (f + i) c (sub_get h)
      rwa [← Nat.add_assoc] at this)
    exact ⟨_, run_load_row hd hrow hs (by rw [← h1.1]; simp; omega) h2, .agg _ _ h1 h3⟩
  | false =>
    simp only at hp
    obtain ⟨v, h1, h2⟩ := hc f x hp
    exact ⟨v, run_load_cell hd hrow h1.1, h2⟩

theorem load_V {fb : Nat → Prop} {g : Lk} {t : TypeId} {d : TypeDesc} {ag : Bool} {n : Nat} (hd : P.underlying t = some d) (hrow : d.isRow = ag) (hs : szIs P t n = true) {cs : List V} {B o f : Nat} {x : V}
    (hc : ∀ (i : Nat) (c : V), cs[i]? = some c → ∃ v, cellIs w ⟨B, o + i, none⟩ v ∧ VRel fb μ g w c v) (hp : partV ag n cs f = some x) :
    ∃ cv, (Instr.loadAt t (.pointer (some ⟨B, o + f, none⟩))).run P w = .ok cv w ∧ VRel fb μ g w x cv := by
  unfold partV at hp
  cases ag with
  | true =>
    simp only at hp
    split at hp <;> cases hp
    rename_i hle
    obtain ⟨vs, h1, h2, h3⟩ := gather (l := (cs.drop f).take n) (o := o + f) (B := B) (w := w) (Rl := VRel fb μ g w) (fun i c h => by
      have := hc (f + i) c (sub_get h)
      rwa [← Nat.add_assoc] at this)
    exact ⟨_, run_load_row hd hrow hs (by rw [← h1.1]; simp; omega) h2, mkAgg_rel h1 h3⟩
  | false =>
    simp only at hp
    obtain ⟨v, h1, h2⟩ := hc f x hp
    exact ⟨v, run_load_cell hd hrow h1.1, h2⟩

theorem load_sound {h : Heap} (H : HRel F μ (lk h) w) {t : TypeId} {d : TypeDesc} {ag : Bool} {n : Nat} (hd : P.underlying t = some d) (hrow : d.isRow = ag) (hs : szIs P t n = true)
    {p v : V} {cp : Value} (hp : VRel (fbOf F μ (lk h)) μ (lk h) w p cp) (hr : loadH h ag n p = some v) :
    ∃ cv, (Instr.loadAt t cp).run P w = .ok cv w ∧ VRel (fbOf F μ (lk h)) μ (lk h) w v cv := by
  unfold loadH at hr
  split at hr
  · rename_i b k f
    split at hr <;> try cases hr
    · rename_i sz els hb
      split at hr <;> try cases hr
      rename_i el hel
      split at hr <;> cases hr
      rename_i x hx
      cases hp with
      | ptr _ _ _ s B lo hl hm =>
        obtain ⟨blk, hb', hlive, hsz⟩ := hl
        have : blk = .rows sz els := by
          have : h[b]? = some blk := hb'
          rw [hb] at this; exact (Option.some.inj this).symm
        subst this
        have hsz : sz = s := hsz
        subst hsz
        have := H.rel b _ B lo hb' hlive hm
        cases this with
        | rows _ _ hsz hc =>
          obtain ⟨cv, h1, h2⟩ := load_R (g := lk h) hd hrow hs (B := B) (o := lo + k * sz) (fun i c hi => hc k el i c hel hi) hx
          exact ⟨cv, h1, .r _ _ h2⟩
      | ptrD _ _ _ _ hdead =>
        have : h[b]? = some .dead := hdead
        rw [hb] at this; cases this
    · rename_i sz cs hb
      cases hp with
      | ptr _ _ _ s B lo hl hm =>
        obtain ⟨blk, hb', hlive, hsz⟩ := hl
        have : blk = .mix sz cs := by
          have : h[b]? = some blk := hb'
          rw [hb] at this; exact (Option.some.inj this).symm
        subst this
        have hsz : sz = s := hsz
        subst hsz
        have := H.rel b _ B lo hb' hlive hm
        cases this with
        | mix _ _ hc =>
          obtain ⟨cv, h1, h2⟩ := load_V (g := lk h) hd hrow hs (B := B) (o := lo) hc hr
          exact ⟨cv, by rwa [← Nat.add_assoc] at h1, h2⟩
      | ptrD _ _ _ _ hdead =>
        have : h[b]? = some .dead := hdead
        rw [hb] at this; cases this
  · rename_i cs
    split at hr <;> cases hr
    rename_i x hx
    have r := hp.r_inv
    cases r with
    | rptr _ B o cv hf hc hr' =>
      obtain ⟨cv', h1, h2⟩ := load_R (fb := fbOf F μ (lk h)) (g := lk h) hd hrow hs (B := B) (o := o) (f := 0) (fun i c hi => ⟨cv i, hc i c hi, hr' i c hi⟩) hx
      exact ⟨cv', h1, .r _ _ h2⟩
  · cases hr
end
end Go.PV
