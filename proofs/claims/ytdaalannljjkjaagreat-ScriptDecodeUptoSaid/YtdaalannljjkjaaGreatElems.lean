/- The elements of slices, as they lie in memory. -/
import Derived.Test.YtdaalannljjkjaaGreatLoad
set_option linter.unusedVariables false
set_option linter.unusedSimpArgs false
namespace Go.PV
variable {P : Program}
section
variable {F : Nat → Prop} {μ : Mu} {w : World}

theorem flat_spec {sz : Nat} : ∀ {xs : List R}, (∀ (i : Nat) (x : R), xs[i]? = some x → x.cells.length = sz) →
    (xs.flatMap R.cells).length = xs.length * sz ∧ ∀ (i : Nat) (x : R) (f : Nat), xs[i]? = some x → f < sz → (xs.flatMap R.cells)[i * sz + f]? = x.cells[f]?
  | [], _ => by simp
  | y :: ys, h => by
    obtain ⟨h1, h2⟩ := flat_spec (xs := ys) (fun i x hx => h (i + 1) x (by simpa using hx))
    have hy := h 0 y rfl
    refine ⟨by simp [hy, h1, Nat.add_mul]; omega, fun i x f hx hf => ?_⟩
    rw [List.flatMap_cons]
    cases i with
    | zero =>
      simp at hx; subst hx
      rw [Nat.zero_mul, Nat.zero_add, List.getElem?_append_left (by omega)]
    | succ i =>
      rw [List.getElem?_append_right (by rw [hy, Nat.add_mul]; omega), hy, show (i + 1) * sz + f - sz = i * sz + f by rw [Nat.add_mul]; omega]
      exact h2 i x f (by simpa using hx) hf

theorem flat_inv {sz : Nat} {xs : List R} (h : ∀ (i : Nat) (x : R), xs[i]? = some x → x.cells.length = sz) {j : Nat} {c : R} (hj : (xs.flatMap R.cells)[j]? = some c) :
    ∃ (i : Nat) (x : R) (f : Nat), xs[i]? = some x ∧ x.cells[f]? = some c ∧ j = i * sz + f := by
  obtain ⟨h1, h2⟩ := flat_spec h
  have hlt := (List.getElem?_eq_some_iff.1 hj).1
  rw [h1] at hlt
  have hsz : 0 < sz := Nat.pos_of_ne_zero fun h0 => by subst h0; simp at hlt
  have hi : j / sz < xs.length := Nat.div_lt_of_lt_mul (by rwa [Nat.mul_comm] at hlt)
  have hf : j % sz < sz := Nat.mod_lt _ hsz
  have he : j = j / sz * sz + j % sz := by have := Nat.div_add_mod j sz; rw [Nat.mul_comm] at this; omega
  refine ⟨j / sz, xs[j / sz], j % sz, List.getElem?_eq_getElem hi, ?_, he⟩
  rw [← h2 (j / sz) _ (j % sz) (List.getElem?_eq_getElem hi) hf, ← he]; exact hj

/-- Elements in a row, from an address on. -/
def SlR (fb : Nat → Prop) (w : World) (sz : Nat) (xs : List R) (ad : Option Addr) : Prop :=
  ∃ B o, (0 < xs.length → ad = some ⟨B, o, none⟩) ∧ (∀ (i : Nat) (x : R), xs[i]? = some x → x.cells.length = sz) ∧
    ∀ (i : Nat) (x : R) (f : Nat) (c : R), xs[i]? = some x → x.cells[f]? = some c → ∃ v, cellIs w ⟨B, o + i * sz + f, none⟩ v ∧ RRel fb w c v

theorem SlR.nil {fb : Nat → Prop} {sz : Nat} {ad : Option Addr} : SlR fb w sz [] ad := ⟨0, 0, by simp, by simp, by simp⟩

theorem live_blk {h : Heap} {b sz : Nat} {blk : Blk} (hb : h[b]? = some blk) (hl : liveAt (lk h) b sz) : blk.live = true ∧ blk.sz = sz := by
  obtain ⟨blk', h1, h2, h3⟩ := hl
  have : h[b]? = some blk' := h1
  rw [hb] at this; cases this
  exact ⟨h2, h3⟩

theorem dead_blk {h : Heap} {b : Nat} {blk : Blk} (hb : h[b]? = some blk) (hl : deadAt (lk h) b) : blk = .dead := by
  have : h[b]? = some .dead := hl
  rw [hb] at this; exact Option.some.inj this

theorem chunks_SlR {fb : Nat → Prop} {ag : Bool} {sz n : Nat} {cs xs : List R} {B o : Nat} {ad : Option Addr} (hx : chunks ag sz n cs = some xs) (had : 0 < n → ad = some ⟨B, o, none⟩)
    (hc : ∀ (i : Nat) (c : R), cs[i]? = some c → ∃ v, cellIs w ⟨B, o + i, none⟩ v ∧ RRel fb w c v) : SlR fb w sz xs ad := by
  obtain ⟨h1, h2, h3⟩ := chunks_spec hx
  refine ⟨B, o, fun h0 => had (by omega), h2, fun i x f c h4 h5 => ?_⟩
  have := hc _ c (h3 i x f c h4 h5)
  rwa [← Nat.add_assoc] at this

theorem elemsR_sound {h : Heap} (H : HRel F μ (lk h) w) {x : V} {ad : Option Addr} {n cap sz : Nat} (hv : VRel (fbOf F μ (lk h)) μ (lk h) w x (.slice ad n cap)) {xs : List R} (hs : strideOf x = some sz) (he : elemsR h x = some xs) :
    xs.length = n ∧ SlR (fbOf F μ (lk h)) w sz xs ad := by
  unfold elemsR at he
  split at he
  · cases he
    simp [strideOf] at hs
    subst hs
    have r := hv.r_inv
    cases r with
    | sl _ _ _ _ _ B o cv ha hcap hnone hnil hfull hnn hf hsz hc hr =>
      exact ⟨rfl, B, o, ha, hsz, fun i x f c h1 h2 => ⟨cv i f, hc i x f c h1 h2, hr i x f c h1 h2⟩⟩
  · have r := hv.r_inv; cases r
  · rename_i sz' b k len
    simp [strideOf] at hs
    subst hs
    split at he <;> try cases he
    rename_i sz'' els hb
    split at he <;> cases he
    rename_i hle
    obtain ⟨rfl, hle⟩ := hle
    cases hv with
    | sl _ _ _ _ B lo _ hl hm hn hroom hcnt =>
      obtain ⟨hlive, hsz⟩ := live_blk hb hl
      have := H.rel b _ B lo hb hlive hm
      cases this with
      | rows _ _ hsz hc =>
        refine ⟨by simp; omega, B, lo + k * sz', fun _ => rfl, fun i x hx => hsz (k + i) x (sub_get hx), fun i x f c hx hf => ?_⟩
        have := hc (k + i) x f c (sub_get hx) hf
        rwa [show lo + (k + i) * sz' + f = lo + k * sz' + i * sz' + f by rw [Nat.add_mul]; omega] at this
    | sl0 => exact ⟨by simp, by simp; exact SlR.nil⟩
    | slD _ _ _ _ _ _ hd => cases dead_blk hb hd
  · rename_i b k f sz' ag len
    simp [strideOf] at hs
    subst hs
    split at he <;> try cases he
    · rename_i s els hb
      split at he <;> try cases he
      rename_i el hel
      refine ⟨?_, ?_⟩
      · have := (chunks_spec he).1
        cases hv <;> exact this
      · cases hv with
        | isl _ _ _ _ _ _ s' B lo _ hl hm hn =>
          obtain ⟨hlive, hsz⟩ := live_blk hb hl
          have hsz : s = s' := hsz
          subst hsz
          have := H.rel b _ B lo hb hlive hm
          cases this with
          | rows _ _ hsz hc =>
            refine chunks_SlR (B := B) (o := lo + k * s + f) he (fun _ => rfl) fun i c hi => ?_
            have := hc k el (f + i) c hel (by simpa using hi)
            rwa [show lo + k * s + (f + i) = lo + k * s + f + i by omega] at this
        | islD _ _ _ _ _ _ _ _ hd => cases dead_blk hb hd
        | isl0 => simp [chunks] at he; subst he; exact SlR.nil
    · rename_i s cs hb
      split at he <;> try cases he
      rename_i rs hrs
      refine ⟨?_, ?_⟩
      · have := (chunks_spec he).1
        cases hv <;> exact this
      · cases hv with
        | isl _ _ _ _ _ _ s' B lo _ hl hm hn =>
          obtain ⟨hlive, hsz⟩ := live_blk hb hl
          have hsz : s = s' := hsz
          subst hsz
          have := H.rel b _ B lo hb hlive hm
          cases this with
          | mix _ _ hc =>
            refine chunks_SlR (B := B) (o := lo + k * s + f) he (fun _ => rfl) fun i c hi => ?_
            have hmap := allR_map hrs
            have hi2 : ((cs.drop (k * s + f)).take (n * sz'))[i]? = some (.r c) := by rw [hmap]; simp [hi]
            obtain ⟨v, h1, h2⟩ := hc _ _ (sub_get hi2)
            exact ⟨v, by rwa [show lo + (k * s + f + i) = lo + k * s + f + i by omega] at h1, h2.r_inv⟩
        | islD _ _ _ _ _ _ _ _ hd => cases dead_blk hb hd
        | isl0 => simp [chunks] at he; subst he; exact SlR.nil
  · cases he

/-- The cells of elements of either kind. -/
def Els.cells : Els → List V
  | .rows xs => (xs.flatMap R.cells).map V.r
  | .mix cs => cs

def Els.ok (sz : Nat) : Els → Prop
  | .rows xs => ∀ (i : Nat) (x : R), xs[i]? = some x → x.cells.length = sz
  | .mix _ => True

theorem elsOf_sound {h : Heap} (H : HRel F μ (lk h) w) {x : V} {ad : Option Addr} {n cap sz : Nat} (hv : VRel (fbOf F μ (lk h)) μ (lk h) w x (.slice ad n cap)) {es : Els} (hs : strideOf x = some sz) (he : elsOf h x = some es) :
    es.ok sz ∧ ∃ vs : List Value, Ones es.cells.length vs ∧ vs.length = n * sz ∧ (0 < vs.length → ∃ B o, ad = some ⟨B, o, none⟩ ∧ w.rangeAt B o vs) ∧
      ∀ (i : Nat) (c : V) (v : Value), es.cells[i]? = some c → vs[i]? = some v → VRel (fbOf F μ (lk h)) μ (lk h) w c v := by
  unfold elsOf at he
  split at he
  · rename_i xs hxs
    cases he
    obtain ⟨hlen, B, o, ha, hsz, hc⟩ := elemsR_sound H hv hs hxs
    refine ⟨hsz, ?_⟩
    obtain ⟨vs, h1, h2, h3⟩ := gather (l := (xs.flatMap R.cells).map V.r) (o := o) (B := B) (w := w) (Rl := VRel (fbOf F μ (lk h)) μ (lk h) w) (fun j c hj => by
      rw [List.getElem?_map] at hj
      cases hq : (xs.flatMap R.cells)[j]? with
      | none => rw [hq] at hj; cases hj
      | some c' =>
        rw [hq] at hj; cases hj
        obtain ⟨i, x, f, hx, hf, rfl⟩ := flat_inv hsz hq
        obtain ⟨v, h1, h2⟩ := hc i x f c' hx hf
        exact ⟨v, by rwa [Nat.add_assoc] at h1, .r _ _ h2⟩)
    have hl2 : vs.length = n * sz := by rw [← h1.1, List.length_map, (flat_spec hsz).1, hlen]
    exact ⟨vs, h1, hl2, fun h0 => ⟨B, o, ha (by rw [hlen]; exact Nat.pos_of_ne_zero fun h => by rw [hl2, h] at h0; simp at h0), h2⟩, h3⟩
  · split at he <;> cases he
    rename_i cs hcs
    refine ⟨trivial, ?_⟩
    unfold elemsV at hcs
    split at hcs <;> try cases hcs
    rename_i sz' b k len _
    simp [strideOf] at hs
    subst hs
    split at hcs <;> try cases hcs
    rename_i sz'' cells hb
    split at hcs <;> cases hcs
    rename_i hle
    obtain ⟨rfl, hle⟩ := hle
    have hlen : ((cells.drop (k * sz')).take (len * sz')).length = len * sz' := by
      simp; rw [Nat.add_mul] at hle; omega
    cases hv with
    | sl _ _ _ _ B lo _ hl hm hn hroom hcnt =>
      obtain ⟨hlive, hsz⟩ := live_blk hb hl
      have := H.rel b _ B lo hb hlive hm
      cases this with
      | mix _ _ hc =>
        obtain ⟨vs, h1, h2, h3⟩ := gather (l := (cells.drop (k * sz')).take (n * sz')) (o := lo + k * sz') (B := B) (w := w) (Rl := VRel (fbOf F μ (lk h)) μ (lk h) w) (fun j c hj => by
          have := hc _ c (sub_get hj)
          rwa [← Nat.add_assoc] at this)
        exact ⟨vs, h1, by rw [← h1.1]; exact hlen, fun _ => ⟨B, _, rfl, h2⟩, h3⟩
    | sl0 => exact ⟨[], ⟨by simp [Els.cells], by simp⟩, by simp, by simp, by simp⟩
    | slD _ _ _ _ _ _ hd => cases dead_blk hb hd
end
end Go.PV
