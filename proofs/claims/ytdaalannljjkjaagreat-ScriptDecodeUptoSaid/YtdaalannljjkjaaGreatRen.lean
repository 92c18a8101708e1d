/- Renaming of blocks. -/
import Derived.Test.YtdaalannljjkjaaGreatFrm
set_option linter.unusedVariables false
set_option linter.unusedSimpArgs false
namespace Go.PV

theorem trDL_spec {σ : Nat → Option Nat} : ∀ {l l' : List V}, V.trDL σ l = some l' → l'.length = l.length ∧ ∀ (i : Nat) (c : V), l[i]? = some c → ∃ c', l'[i]? = some c' ∧ c.trD σ = some c'
  | [], l', h => by simp [V.trDL] at h; subst h; simp
  | v :: t, l', h => by
    rw [V.trDL] at h
    split at h <;> cases h
    rename_i v' t' hv ht
    obtain ⟨h1, h2⟩ := trDL_spec ht
    refine ⟨by simp [h1], fun i c hc => ?_⟩
    cases i with
    | zero => simp at hc; subst hc; exact ⟨v', rfl, hv⟩
    | succ i => exact h2 i c (by simpa using hc)

theorem tr_eq (σ : Nat → Option Nat) (v : V) : v.tr σ = v.trD σ := by
  cases v <;> simp [V.tr, V.trD]

theorem trL_spec {σ : Nat → Option Nat} : ∀ {l l' : List V}, V.trL σ l = some l' → l'.length = l.length ∧ ∀ (i : Nat) (c : V), l[i]? = some c → ∃ c', l'[i]? = some c' ∧ c.trD σ = some c'
  | [], l', h => by simp [V.trL] at h; subst h; simp
  | v :: t, l', h => by
    rw [V.trL] at h
    split at h <;> cases h
    rename_i v' t' hv ht
    obtain ⟨h1, h2⟩ := trL_spec ht
    refine ⟨by simp [h1], fun i c hc => ?_⟩
    cases i with
    | zero => simp at hc; subst hc; exact ⟨v', rfl, by rw [← tr_eq]; exact hv⟩
    | succ i => exact h2 i c (by simpa using hc)

/-- Each block that is renamed is there under its new number. -/
structure RenOk (σ : Nat → Option Nat) (μ μ' : Mu) (g g' : Lk) : Prop where
  blk : ∀ (b i : Nat) (x : Blk), σ b = some i → g b = some x → ∃ y, g' i = some y ∧ y.live = x.live ∧ y.sz = x.sz ∧ cntB y = cntB x
  mu : ∀ (b i : Nat), σ b = some i → μ' i = μ b

section
variable {σ : Nat → Option Nat} {fb fb' : Nat → Prop} {μ μ' : Mu} {g g' : Lk} {w : World}

theorem liveAt.ren (hR : RenOk σ μ μ' g g') {b i sz : Nat} (hs : σ b = some i) (h : liveAt g b sz) : liveAt g' i sz := by
  obtain ⟨x, h1, h2, h3⟩ := h
  obtain ⟨y, k1, k2, k3, _⟩ := hR.blk b i x hs h1
  exact ⟨y, k1, by rw [k2]; exact h2, by rw [k3]; exact h3⟩
theorem deadAt.ren (hR : RenOk σ μ μ' g g') {b i : Nat} (hs : σ b = some i) (h : deadAt g b) : deadAt g' i := by
  obtain ⟨y, k1, k2, _⟩ := hR.blk b i .dead hs h
  cases y with
  | dead => exact k1
  | rows => cases k2
  | mix => cases k2
theorem cntAt.ren (hR : RenOk σ μ μ' g g') {b i sz : Nat} (hs : σ b = some i) (h : liveAt g b sz) : cntAt g' i = cntAt g b := by
  obtain ⟨x, h1, _⟩ := h
  obtain ⟨y, k1, _, _, k4⟩ := hR.blk b i x hs h1
  simp [cntAt, h1, k1, k4]

theorem RRel.sub {x : R} {v : Value} (hfb : ∀ B, fb' B → fb B) (h : RRel fb w x v) : RRel fb' w x v := h.mono ⟨fun B _ hB => hfb B hB, fun _ _ _ => rfl⟩

theorem VRel.ren (hR : RenOk σ μ μ' g g') (hfb : ∀ B, fb' B → fb B) {v v' : V} {cv : Value} (h : VRel fb μ g w v cv) (ht : v.trD σ = some v') : VRel fb' μ' g' w v' cv := by
  induction h generalizing v' with
  | r x v hx => simp [V.trD] at ht; subst ht; exact .r _ _ (hx.sub hfb)
  | ptr b k f sz B lo hl hm =>
    rw [V.trD] at ht
    split at ht <;> cases ht
    rename_i i hi
    exact .ptr i k f sz B lo (hl.ren hR hi) (by rw [hR.mu b i hi]; exact hm)
  | ptrD b k f a hd =>
    rw [V.trD] at ht
    split at ht <;> cases ht
    rename_i i hi
    exact .ptrD i k f a (hd.ren hR hi)
  | sl sz b k n B lo cap hl hm hn hroom hcnt =>
    rw [V.trD] at ht
    split at ht <;> cases ht
    rename_i i hi
    exact .sl sz i k n B lo cap (hl.ren hR hi) (by rw [hR.mu b i hi]; exact hm) hn hroom (by rw [cntAt.ren hR hi hl]; exact hcnt)
  | sl0 sz b k a hl hcnt =>
    rw [V.trD] at ht
    split at ht <;> cases ht
    rename_i i hi
    exact .sl0 sz i k a (hl.ren hR hi) (by rw [cntAt.ren hR hi hl]; exact hcnt)
  | slD sz b k n a cap hd hna hn =>
    rw [V.trD] at ht
    split at ht <;> cases ht
    rename_i i hi
    exact .slD sz i k n a cap (hd.ren hR hi) hna hn
  | isl b k f sz ag n s B lo cap hl hm hn =>
    rw [V.trD] at ht
    split at ht <;> cases ht
    rename_i i hi
    exact .isl i k f sz ag n s B lo cap (hl.ren hR hi) (by rw [hR.mu b i hi]; exact hm) hn
  | islD b k f sz ag n a cap hd hn =>
    rw [V.trD] at ht
    split at ht <;> cases ht
    rename_i i hi
    exact .islD i k f sz ag n a cap (hd.ren hR hi) hn
  | isl0 b k f sz ag a cap =>
    rw [V.trD] at ht
    split at ht <;> cases ht
    rename_i i hi
    exact .isl0 i k f sz ag a cap
  | agg cs vs hl hr ih =>
    rw [V.trD] at ht
    split at ht <;> cases ht
    rename_i cs' hcs
    obtain ⟨h1, h2⟩ := trDL_spec hcs
    refine .agg cs' vs (by rw [h1]; exact hl) fun i c v hc hv => ?_
    have hlt : i < cs.length := by rw [← h1]; exact (List.getElem?_eq_some_iff.1 hc).1
    obtain ⟨c', k1, k2⟩ := h2 i _ (List.getElem?_eq_getElem hlt)
    rw [hc] at k1; cases k1
    exact ih i _ v (List.getElem?_eq_getElem hlt) hv k2
  | tup cs vs hl hr ih =>
    rw [V.trD] at ht
    split at ht <;> cases ht
    rename_i cs' hcs
    obtain ⟨h1, h2⟩ := trDL_spec hcs
    refine .tup cs' vs (by rw [h1]; exact hl) fun i c v hc hv => ?_
    have hlt : i < cs.length := by rw [← h1]; exact (List.getElem?_eq_some_iff.1 hc).1
    obtain ⟨c', k1, k2⟩ := h2 i _ (List.getElem?_eq_getElem hlt)
    rw [hc] at k1; cases k1
    exact ih i _ v (List.getElem?_eq_getElem hlt) hv k2
  | fn f a c va vc ha hc hra hrc iha ihc =>
    rw [V.trD] at ht
    split at ht <;> cases ht
    rename_i a' c' hta htc
    obtain ⟨h1, h2⟩ := trDL_spec hta
    obtain ⟨h3, h4⟩ := trDL_spec htc
    refine .fn f a' c' va vc (by rw [h1]; exact ha) (by rw [h3]; exact hc) (fun i x v hx hv => ?_) fun i x v hx hv => ?_
    · have hlt : i < a.length := by rw [← h1]; exact (List.getElem?_eq_some_iff.1 hx).1
      obtain ⟨x', k1, k2⟩ := h2 i _ (List.getElem?_eq_getElem hlt)
      rw [hx] at k1; cases k1
      exact iha i _ v (List.getElem?_eq_getElem hlt) hv k2
    · have hlt : i < c.length := by rw [← h3]; exact (List.getElem?_eq_some_iff.1 hx).1
      obtain ⟨x', k1, k2⟩ := h4 i _ (List.getElem?_eq_getElem hlt)
      rw [hx] at k1; cases k1
      exact ihc i _ v (List.getElem?_eq_getElem hlt) hv k2
  | iface t x v hx ih =>
    rw [V.trD] at ht
    split at ht <;> cases ht
    rename_i x' hx'
    exact .iface t x' v (ih hx')
  | junk v => simp [V.trD] at ht; subst ht; exact .junk v

theorem blk_tr_spec {x y : Blk} (h : x.tr σ = some y) : y.live = x.live ∧ y.sz = x.sz ∧ cntB y = cntB x := by
  unfold Blk.tr at h
  split at h
  · split at h <;> cases h
    rename_i cs hcs
    obtain ⟨h1, _⟩ := trL_spec hcs
    exact ⟨rfl, rfl, by simp [cntB, h1]⟩
  · cases h; exact ⟨rfl, rfl, rfl⟩

theorem BRel.ren (hR : RenOk σ μ μ' g g') (hfb : ∀ B, fb' B → fb B) {B lo : Nat} {x y : Blk} (h : BRel fb μ g w B lo x) (ht : x.tr σ = some y) : BRel fb' μ' g' w B lo y := by
  cases h with
  | rows sz els hsz hc =>
    simp [Blk.tr] at ht; subst ht
    refine .rows sz els hsz fun k x f c h1 h2 => ?_
    obtain ⟨v, h3, h4⟩ := hc k x f c h1 h2
    exact ⟨v, h3, h4.sub hfb⟩
  | mix sz cs hc =>
    simp only [Blk.tr] at ht
    split at ht <;> cases ht
    rename_i cs' hcs
    obtain ⟨h1, h2⟩ := trL_spec hcs
    refine .mix sz cs' fun i c hci => ?_
    have hlt : i < cs.length := by rw [← h1]; exact (List.getElem?_eq_some_iff.1 hci).1
    obtain ⟨c', k1, k2⟩ := h2 i _ (List.getElem?_eq_getElem hlt)
    rw [hci] at k1; cases k1
    obtain ⟨v, h3, h4⟩ := hc i _ (List.getElem?_eq_getElem hlt)
    exact ⟨v, h3, h4.ren hR hfb k2⟩

/-- A heap of which only some blocks are kept, under new numbers. -/
theorem HRel.ren {F F' : Nat → Prop} (H : HRel F μ g w) (hR : RenOk σ μ μ' g g') (hfb : ∀ B, fbOf F' μ' g' B → fbOf F μ g B) (hwf : ∀ B, F' B → B < w.heap.size)
    (hback : ∀ (i : Nat) (y : Blk), g' i = some y → y.live = true → ∀ p, μ' i = some p → ∃ b x, σ b = some i ∧ g b = some x ∧ x.tr σ = some y)
    (hap : ∀ (i : Nat) (y : Blk) (B lo : Nat), g' i = some y → y.live = true → μ' i = some (B, lo) → ¬ F' B) : HRel F' μ' g' w where
  wf := hwf
  apart := hap
  cells i y B lo hi hl hm := by
    obtain ⟨b, x, h1, h2, h3⟩ := hback i y hi hl _ hm
    obtain ⟨k1, _⟩ := blk_tr_spec h3
    exact H.cells b x B lo h2 (by rw [← k1]; exact hl) (by rw [← hR.mu b i h1]; exact hm)
  rel i y B lo hi hl hm := by
    obtain ⟨b, x, h1, h2, h3⟩ := hback i y hi hl _ hm
    obtain ⟨k1, _⟩ := blk_tr_spec h3
    exact (H.rel b x B lo h2 (by rw [← k1]; exact hl) (by rw [← hR.mu b i h1]; exact hm)).ren hR hfb h3
  inj i j y z B lo lo' hi hli hj hlj hmi hmj := by
    obtain ⟨b, x, h1, h2, h3⟩ := hback i y hi hli _ hmi
    obtain ⟨b', x', h1', h2', h3'⟩ := hback j z hj hlj _ hmj
    obtain ⟨k1, _⟩ := blk_tr_spec h3
    obtain ⟨k1', _⟩ := blk_tr_spec h3'
    have := H.inj b b' x x' B lo lo' h2 (by rw [← k1]; exact hli) h2' (by rw [← k1']; exact hlj) (by rw [← hR.mu b i h1]; exact hmi) (by rw [← hR.mu b' j h1']; exact hmj)
    subst this
    rw [h1] at h1'
    exact Option.some.inj h1'
end
end Go.PV
