/- Steps that turn the heap. -/
import Derived.Test.YtdaalannljjkjaaGreatElems
set_option linter.unusedVariables false
set_option linter.unusedSimpArgs false
namespace Go.PV
variable {P : Program}
section
variable {F : Nat → Prop} {μ μ' : Mu} {g g' : Lk} {w w' : World}

abbrev All : Nat → Prop := fun _ => True

theorem RRel.evo {D : Nat → Prop} (E : Evo D F μ g w μ' g' w') {x : R} {v : Value} (h : RRel (fbOf F μ g) w x v) : RRel (fbOf F μ' g') w' x v := h.mono E.stay

theorem BRel.evo (E : Evo All F μ g w μ' g' w') {B lo : Nat} {blk : Blk} (hs : w'.heap[B]? = w.heap[B]?) (h : BRel (fbOf F μ g) μ g w B lo blk) : BRel (fbOf F μ' g') μ' g' w' B lo blk := by
  cases h with
  | rows sz els hsz hc =>
    refine .rows sz els hsz fun k x f c h1 h2 => ?_
    obtain ⟨v, h3, h4⟩ := hc k x f c h1 h2
    exact ⟨v, by rw [cellIs_same hs]; exact h3, h4.evo E⟩
  | mix sz cs hc =>
    refine .mix sz cs fun i c h1 => ?_
    obtain ⟨v, h3, h4⟩ := hc i c h1
    exact ⟨v, by rw [cellIs_same hs]; exact h3, h4.evo E fun _ _ => trivial⟩

theorem HRel.of_evo (E : Evo All F μ g w μ' g' w') (H : HRel F μ g w)
    (hT : ∀ (b : Nat) (blk : Blk) (B lo : Nat), g' b = some blk → blk.live = true → μ' b = some (B, lo) →
      (g b = some blk ∧ μ b = some (B, lo) ∧ w'.heap[B]? = w.heap[B]?) ∨
      (¬ F B ∧ (∃ (arr : Array Value) (e : TypeId) (fr : Nat × Nat), w'.heap[B]? = some (Obj.cells arr e fr) ∧ ∀ i : Nat, i < arr.size → ¬ (fr.1 ≤ i ∧ i < fr.2)) ∧ BRel (fbOf F μ' g') μ' g' w' B lo blk))
    (hinj : ∀ (b b' : Nat) (blk blk' : Blk) (B lo lo' : Nat), g' b = some blk → blk.live = true → g' b' = some blk' → blk'.live = true → μ' b = some (B, lo) → μ' b' = some (B, lo') → b = b') :
    HRel F μ' g' w' where
  wf B hB := Nat.lt_of_lt_of_le (H.wf B hB) E.size
  apart b blk B lo hb hl hm := by
    rcases hT b blk B lo hb hl hm with ⟨h1, h2, _⟩ | ⟨h1, _⟩
    · exact H.apart b blk B lo h1 hl h2
    · exact h1
  cells b blk B lo hb hl hm := by
    rcases hT b blk B lo hb hl hm with ⟨h1, h2, h3⟩ | ⟨_, h2, _⟩
    · rw [h3]; exact H.cells b blk B lo h1 hl h2
    · exact h2
  rel b blk B lo hb hl hm := by
    rcases hT b blk B lo hb hl hm with ⟨h1, h2, h3⟩ | ⟨_, _, h2⟩
    · exact (H.rel b blk B lo h1 hl h2).evo E h3
    · exact h2
  inj := hinj

/-- The heap's list, one block more. -/
theorem lk_push {h : Heap} {x : Blk} (b : Nat) : lk (h ++ [x]) b = if b = h.length then some x else lk h b := by
  unfold lk
  by_cases hb : b = h.length
  · subst hb; simp
  · rw [if_neg hb]
    by_cases hlt : b < h.length
    · rw [List.getElem?_append_left hlt]
    · rw [List.getElem?_eq_none (by simp; omega), List.getElem?_eq_none (by omega)]

theorem lk_set {h : Heap} {x : Blk} {i : Nat} (hi : i < h.length) (b : Nat) : lk (h.set i x) b = if b = i then some x else lk h b := by
  unfold lk
  rw [List.getElem?_set]
  by_cases hb : i = b
  · subst hb; simp [hi]
  · rw [if_neg hb, if_neg (fun h => hb h.symm)]

theorem lk_lt {h : Heap} {b : Nat} {x : Blk} (hb : lk h b = some x) : b < h.length := (List.getElem?_eq_some_iff.1 hb).1

/-- A block is left: nothing more is known of it. -/
theorem HRel.kill {b0 : Nat} {blk0 : Blk} (H : HRel F μ g w) (hb0 : g b0 = some blk0) : 
    Evo All F μ g w μ (fun b => if b = b0 then some .dead else g b) w ∧ HRel F μ (fun b => if b = b0 then some .dead else g b) w := by
  have E : Evo All F μ g w μ (fun b => if b = b0 then some .dead else g b) w := by
    refine ⟨rfl, rfl, rfl, Nat.le_refl _, fun _ _ _ => rfl, fun B arr e fr h => ⟨arr, h, rfl⟩, fun b _ blk hb => ?_, fun _ _ _ h => h, fun B hB ho => ?_⟩
    · by_cases hbb : b = b0
      · exact ⟨.dead, by simp [hbb], .inl rfl⟩
      · obtain ⟨blk', h1, h2⟩ := turns.refl (g b) blk hb
        exact ⟨blk', by simp [hbb, h1], h2⟩
    · obtain ⟨b, blk, lo, h1, h2, h3⟩ := ho
      by_cases hbb : b = b0
      · simp [hbb] at h1; subst h1; cases h2
      · simp [hbb] at h1; exact ⟨b, blk, lo, h1, h2, h3⟩
  refine ⟨E, H.of_evo E (fun b blk B lo h1 h2 h3 => ?_) fun b b' blk blk' B lo lo' h1 h2 h3 h4 h5 h6 => ?_⟩
  · by_cases hbb : b = b0
    · simp [hbb] at h1; subst h1; cases h2
    · simp [hbb] at h1; exact .inl ⟨h1, h3, rfl⟩
  · have h1' : g b = some blk := by
      by_cases hbb : b = b0
      · simp [hbb] at h1; subst h1; cases h2
      · simpa [hbb] using h1
    have h3' : g b' = some blk' := by
      by_cases hbb : b' = b0
      · simp [hbb] at h3; subst h3; cases h4
      · simpa [hbb] using h3
    exact H.inj b b' blk blk' B lo lo' h1' h2 h3' h4 h5 h6

/-- A new block: number b0 (of which nothing lay in memory), the concrete block B0 behind all that was there. -/
theorem HRel.newBlk {b0 B0 : Nat} {blk : Blk} (H : HRel F μ g w) (hos : w'.os = w.os) (htape : w'.tape = w.tape) (hout : w'.output = w.output) (hsize : w.heap.size ≤ w'.heap.size)
    (hsame : ∀ B, B < w.heap.size → w'.heap[B]? = w.heap[B]?) (hB0 : w.heap.size ≤ B0) {arr : Array Value} {e : TypeId} {fr : Nat × Nat} (hcells : w'.heap[B0]? = some (Obj.cells arr e fr))
    (hfr : ∀ i : Nat, i < arr.size → ¬ (fr.1 ≤ i ∧ i < fr.2)) (hlive : blk.live = true) (hold : g b0 = none ∨ g b0 = some blk) (hμ : μ b0 = none)
    (hbrel : ∀ {fb : Nat → Prop} {μ2 : Mu} {g2 : Lk}, (∀ {x : V} {v : Value}, VRel (fbOf F μ g) μ g w x v → VRel fb μ2 g2 w' x v) → (∀ {x : R} {v : Value}, RRel (fbOf F μ g) w x v → RRel fb w' x v) → BRel fb μ2 g2 w' B0 0 blk) :
    Evo All F μ g w (fun b => if b = b0 then some (B0, 0) else μ b) (fun b => if b = b0 then some blk else g b) w' ∧
    HRel F (fun b => if b = b0 then some (B0, 0) else μ b) (fun b => if b = b0 then some blk else g b) w' := by
  have hne : ∀ {b : Nat} {B lo : Nat}, μ b = some (B, lo) → b ≠ b0 := fun {b B lo} h hb => by subst hb; rw [hμ] at h; cases h
  have E : Evo All F μ g w (fun b => if b = b0 then some (B0, 0) else μ b) (fun b => if b = b0 then some blk else g b) w' := by
    refine ⟨hos, htape, hout, hsize, fun B hB _ => hsame B hB, fun B arr e fr h => ?_, fun b _ blk1 hb => ?_, fun b _ p hp => ?_, fun B hB ho => ?_⟩
    · have hB : B < w.heap.size := (Array.getElem?_eq_some_iff.1 h).1
      exact ⟨arr, by rw [hsame B hB]; exact h, rfl⟩
    · by_cases hbb : b = b0
      · subst hbb
        rcases hold with h0 | h0
        · rw [h0] at hb; cases hb
        · rw [h0] at hb; cases hb; exact ⟨blk, by simp, .inr ⟨hlive, hlive, rfl, Nat.le_refl _⟩⟩
      · obtain ⟨blk', h1, h2⟩ := turns.refl (g b) blk1 hb
        exact ⟨blk', by simp [hbb, h1], h2⟩
    · obtain ⟨B, lo⟩ := p
      simp [hne hp, hp]
    · obtain ⟨b, blk1, lo, h1, h2, h3⟩ := ho
      by_cases hbb : b = b0
      · simp [hbb] at h3; omega
      · simp [hbb] at h1 h3; exact ⟨b, blk1, lo, h1, h2, h3⟩
  refine ⟨E, H.of_evo E (fun b blk1 B lo h1 h2 h3 => ?_) fun b b' blk1 blk2 B lo lo' h1 h2 h3 h4 h5 h6 => ?_⟩
  · by_cases hbb : b = b0
    · simp [hbb] at h1 h3
      obtain ⟨rfl, rfl⟩ := h3
      subst h1
      exact .inr ⟨fun hF => by have := H.wf _ hF; omega, ⟨arr, e, fr, hcells, hfr⟩, hbrel (fun h => h.evo E fun _ _ => trivial) fun h => h.evo E⟩
    · simp [hbb] at h1 h3
      have hB := H.lt ⟨b, blk1, lo, h1, h2, h3⟩
      exact .inl ⟨h1, h3, hsame B hB⟩
  · have out : ∀ {b : Nat} {blk : Blk} {lo : Nat}, b ≠ b0 → (if b = b0 then some (B0, 0) else μ b) = some (B0, lo) → (if b = b0 then some blk1 else g b) = some blk → blk.live = true → False := fun {b blk lo} hb hm hg hl => by
      simp [hb] at hm hg
      have := H.lt ⟨b, blk, lo, hg, hl, hm⟩
      omega
    by_cases hb : b = b0
    · by_cases hb' : b' = b0
      · rw [hb, hb']
      · simp [hb] at h5
        obtain ⟨rfl, rfl⟩ := h5
        simp [hb'] at h6 h3
        have := H.lt ⟨b', blk2, lo', h3, h4, h6⟩
        omega
    · by_cases hb' : b' = b0
      · simp [hb'] at h6
        obtain ⟨rfl, rfl⟩ := h6
        simp [hb] at h5 h1
        have := H.lt ⟨b, blk1, lo, h1, h2, h5⟩
        omega
      · simp [hb] at h1 h5
        simp [hb'] at h3 h6
        exact H.inj b b' blk1 blk2 B lo lo' h1 h2 h3 h4 h5 h6

/-- Cells of a live block are written: the block turns, its concrete block keeps its size. -/
theorem HRel.upd {b0 B0 lo0 : Nat} {blk0 blk : Blk} (H : HRel F μ g w) (hb0 : g b0 = some blk0) (hl0 : blk0.live = true) (hm0 : μ b0 = some (B0, lo0))
    (hos : w'.os = w.os) (htape : w'.tape = w.tape) (hout : w'.output = w.output) (hsize : w'.heap.size = w.heap.size)
    (hsame : ∀ B, B ≠ B0 → w'.heap[B]? = w.heap[B]?)
    (harr : ∀ (arr : Array Value) (e : TypeId) (fr : Nat × Nat), w.heap[B0]? = some (Obj.cells arr e fr) → ∃ arr' : Array Value, w'.heap[B0]? = some (Obj.cells arr' e fr) ∧ arr'.size = arr.size)
    (hlive : blk.live = true) (hsz : blk.sz = blk0.sz) (hcnt : cntB blk ≤ cntB blk0)
    (hbrel : ∀ {fb : Nat → Prop} {μ2 : Mu} {g2 : Lk}, (∀ {x : V} {v : Value}, VRel (fbOf F μ g) μ g w x v → VRel fb μ2 g2 w' x v) → (∀ {x : R} {v : Value}, RRel (fbOf F μ g) w x v → RRel fb w' x v) → BRel fb μ2 g2 w' B0 lo0 blk) :
    Evo All F μ g w μ (fun b => if b = b0 then some blk else g b) w' ∧ HRel F μ (fun b => if b = b0 then some blk else g b) w' := by
  have hown : own μ g B0 := ⟨b0, blk0, lo0, hb0, hl0, hm0⟩
  have E : Evo All F μ g w μ (fun b => if b = b0 then some blk else g b) w' := by
    refine ⟨hos, htape, hout, by omega, fun B hB hn => hsame B fun h => hn (h ▸ hown), fun B arr e fr h => ?_, fun b _ blk1 hb => ?_, fun b _ p hp => hp, fun B hB ho => ?_⟩
    · by_cases hB : B = B0
      · subst hB; exact harr arr e fr h
      · exact ⟨arr, by rw [hsame B hB]; exact h, rfl⟩
    · by_cases hbb : b = b0
      · subst hbb
        rw [hb0] at hb; cases hb
        exact ⟨blk, by simp, .inr ⟨hl0, hlive, hsz, hcnt⟩⟩
      · obtain ⟨blk', h1, h2⟩ := turns.refl (g b) blk1 hb
        exact ⟨blk', by simp [hbb, h1], h2⟩
    · obtain ⟨b, blk1, lo, h1, h2, h3⟩ := ho
      by_cases hbb : b = b0
      · subst hbb; exact ⟨b, blk0, lo, hb0, hl0, h3⟩
      · simp [hbb] at h1; exact ⟨b, blk1, lo, h1, h2, h3⟩
  have back : ∀ {b : Nat} {blk1 : Blk}, (if b = b0 then some blk else g b) = some blk1 → blk1.live = true → ∃ blk2, g b = some blk2 ∧ blk2.live = true := fun {b blk1} h hl => by
    by_cases hbb : b = b0
    · subst hbb; exact ⟨blk0, hb0, hl0⟩
    · simp [hbb] at h; exact ⟨blk1, h, hl⟩
  refine ⟨E, H.of_evo E (fun b blk1 B lo h1 h2 h3 => ?_) fun b b' blk1 blk2 B lo lo' h1 h2 h3 h4 h5 h6 => ?_⟩
  · by_cases hbb : b = b0
    · subst hbb
      rw [hm0] at h3; cases h3
      simp at h1; subst h1
      obtain ⟨arr, e, fr, h4, h5⟩ := H.cells b blk0 B0 lo0 hb0 hl0 hm0
      obtain ⟨arr', h6, h7⟩ := harr arr e fr h4
      exact .inr ⟨H.apart b blk0 B0 lo0 hb0 hl0 hm0, ⟨arr', e, fr, h6, by rw [h7]; exact h5⟩, hbrel (fun h => h.evo E fun _ _ => trivial) fun h => h.evo E⟩
    · simp [hbb] at h1
      exact .inl ⟨h1, h3, hsame B fun hB => by subst hB; exact hbb (H.inj b b0 blk1 blk0 B lo lo0 h1 h2 hb0 hl0 h3 hm0)⟩
  · obtain ⟨c1, hc1, hl1⟩ := back h1 h2
    obtain ⟨c2, hc2, hl2⟩ := back h3 h4
    exact H.inj b b' c1 c2 B lo lo' hc1 hl1 hc2 hl2 h5 h6

/-- A block is left, and a new number takes over its concrete block, whose cells may have been written. -/
theorem HRel.move {b0 b1 B0 lo0 lo1 : Nat} {blk0 blk : Blk} (H : HRel F μ g w) (hb0 : g b0 = some blk0) (hl0 : blk0.live = true) (hm0 : μ b0 = some (B0, lo0))
    (hg1 : g b1 = none) (hm1 : μ b1 = none)
    (hos : w'.os = w.os) (htape : w'.tape = w.tape) (hout : w'.output = w.output) (hsize : w'.heap.size = w.heap.size)
    (hsame : ∀ B, B ≠ B0 → w'.heap[B]? = w.heap[B]?)
    (harr : ∀ (arr : Array Value) (e : TypeId) (fr : Nat × Nat), w.heap[B0]? = some (Obj.cells arr e fr) → ∃ arr' : Array Value, w'.heap[B0]? = some (Obj.cells arr' e fr) ∧ arr'.size = arr.size)
    (hlive : blk.live = true)
    (hbrel : ∀ {fb : Nat → Prop} {μ2 : Mu} {g2 : Lk}, (∀ {x : V} {v : Value}, VRel (fbOf F μ g) μ g w x v → VRel fb μ2 g2 w' x v) → (∀ {x : R} {v : Value}, RRel (fbOf F μ g) w x v → RRel fb w' x v) → BRel fb μ2 g2 w' B0 lo1 blk) :
    Evo All F μ g w (fun b => if b = b1 then some (B0, lo1) else μ b) (fun b => if b = b1 then some blk else if b = b0 then some .dead else g b) w' ∧
    HRel F (fun b => if b = b1 then some (B0, lo1) else μ b) (fun b => if b = b1 then some blk else if b = b0 then some .dead else g b) w' := by
  have hown : own μ g B0 := ⟨b0, blk0, lo0, hb0, hl0, hm0⟩
  have h01 : b0 ≠ b1 := fun h => by subst h; rw [hb0] at hg1; cases hg1
  have back : ∀ {b : Nat} {blk1 : Blk}, b ≠ b1 → (if b = b1 then some blk else if b = b0 then some Blk.dead else g b) = some blk1 → blk1.live = true → g b = some blk1 ∧ b ≠ b0 := fun {b blk1} hb h hl => by
    simp [hb] at h
    by_cases hbb : b = b0
    · simp [hbb] at h; subst h; cases hl
    · simp [hbb] at h; exact ⟨h, hbb⟩
  have E : Evo All F μ g w (fun b => if b = b1 then some (B0, lo1) else μ b) (fun b => if b = b1 then some blk else if b = b0 then some .dead else g b) w' := by
    refine ⟨hos, htape, hout, by omega, fun B hB hn => hsame B fun h => hn (h ▸ hown), fun B arr e fr h => ?_, fun b _ blk1 hb => ?_, fun b _ p hp => ?_, fun B hB ho => ?_⟩
    · by_cases hB : B = B0
      · subst hB; exact harr arr e fr h
      · exact ⟨arr, by rw [hsame B hB]; exact h, rfl⟩
    · have hbb : b ≠ b1 := fun h => by subst h; rw [hg1] at hb; cases hb
      by_cases hb0' : b = b0
      · exact ⟨.dead, by simp [hbb, hb0', h01], .inl rfl⟩
      · obtain ⟨blk', h1, h2⟩ := turns.refl (g b) blk1 hb
        exact ⟨blk', by simp [hbb, hb0', h1], h2⟩
    · have hbb : b ≠ b1 := fun h => by subst h; rw [hm1] at hp; cases hp
      simp [hbb, hp]
    · obtain ⟨b, blk1, lo, h1, h2, h3⟩ := ho
      by_cases hbb : b = b1
      · simp [hbb] at h3; exact h3.1 ▸ hown
      · obtain ⟨h4, _⟩ := back hbb h1 h2
        simp [hbb] at h3
        exact ⟨b, blk1, lo, h4, h2, h3⟩
  refine ⟨E, H.of_evo E (fun b blk1 B lo h1 h2 h3 => ?_) fun b b' blk1 blk2 B lo lo' h1 h2 h3 h4 h5 h6 => ?_⟩
  · by_cases hbb : b = b1
    · simp [hbb] at h1 h3
      obtain ⟨rfl, rfl⟩ := h3
      subst h1
      obtain ⟨arr, e, fr, h4, h5⟩ := H.cells b0 blk0 B0 lo0 hb0 hl0 hm0
      obtain ⟨arr', h6, h7⟩ := harr arr e fr h4
      exact .inr ⟨H.apart b0 blk0 B0 lo0 hb0 hl0 hm0, ⟨arr', e, fr, h6, by rw [h7]; exact h5⟩, hbrel (fun h => h.evo E fun _ _ => trivial) fun h => h.evo E⟩
    · obtain ⟨h4, h5⟩ := back hbb h1 h2
      simp [hbb] at h3
      exact .inl ⟨h4, h3, hsame B fun hB => by subst hB; exact h5 (H.inj b b0 blk1 blk0 B lo lo0 h4 h2 hb0 hl0 h3 hm0)⟩
  · by_cases hb : b = b1
    · by_cases hb' : b' = b1
      · rw [hb, hb']
      · obtain ⟨h7, h8⟩ := back hb' h3 h4
        simp [hb] at h5
        obtain ⟨rfl, rfl⟩ := h5
        simp [hb'] at h6
        exact absurd (H.inj b' b0 blk2 blk0 B0 lo' lo0 h7 h4 hb0 hl0 h6 hm0) h8
    · by_cases hb' : b' = b1
      · obtain ⟨h7, h8⟩ := back hb h1 h2
        simp [hb'] at h6
        obtain ⟨rfl, rfl⟩ := h6
        simp [hb] at h5
        exact absurd (H.inj b b0 blk1 blk0 B0 lo lo0 h7 h2 hb0 hl0 h5 hm0) h8
      · obtain ⟨h7, _⟩ := back hb h1 h2
        obtain ⟨h8, _⟩ := back hb' h3 h4
        simp [hb] at h5
        simp [hb'] at h6
        exact H.inj b b' blk1 blk2 B lo lo' h7 h2 h8 h4 h5 h6
end
end Go.PV
