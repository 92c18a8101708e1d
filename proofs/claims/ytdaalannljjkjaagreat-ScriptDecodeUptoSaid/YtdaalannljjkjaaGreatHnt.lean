/- Hints: a slice is read only from here on; a nil slice gets a block of its own. -/
import Derived.Test.YtdaalannljjkjaaGreatExec
set_option linter.unusedVariables false
set_option linter.unusedSimpArgs false
namespace Go.PV
section
variable {F : Nat → Prop} {μ : Mu} {w : World} {a : Act} {k : Nat}

structure Turns (F : Nat → Prop) (μ : Mu) (h : Heap) (w : World) (h' : Heap) : Prop where
  evo : Evo All F μ (lk h) w μ (lk h') w
  hrel : HRel F μ (lk h') w
  len : h.length ≤ h'.length
  out : ∀ b, h'.length ≤ b → μ b = none

theorem Turns.same {h : Heap} (H : HRel F μ (lk h) w) (hn : ∀ b, h.length ≤ b → μ b = none) : Turns F μ h w h :=
  ⟨Evo.refl _ _ _ _ _ fun b blk _ _ => by cases blk <;> simp [Blk.live], H, Nat.le_refl _, hn⟩
theorem Turns.trans {h h' h'' : Heap} (x : Turns F μ h w h') (y : Turns F μ h' w h'') : Turns F μ h w h'' :=
  ⟨x.evo.trans y.evo, y.hrel, Nat.le_trans x.len y.len, y.out⟩

theorem freeze1_sound {h h' : Heap} {v v' : V} {cv : Value} (H : HRel F μ (lk h) w) (hn : ∀ b, h.length ≤ b → μ b = none) (hv : VRel (fbOf F μ (lk h)) μ (lk h) w v cv) (hr : freeze1 h v = some (v', h')) :
    Turns F μ h w h' ∧ VRel (fbOf F μ (lk h')) μ (lk h') w v' cv := by
  unfold freeze1 at hr
  split at hr
  · cases hr; exact ⟨.same H hn, hv⟩
  · rename_i sz b j len
    split at hr <;> cases hr
    rename_i xs hxs
    unfold elemsR at hxs
    simp only at hxs
    split at hxs <;> try cases hxs
    rename_i sz' els hb
    split at hxs <;> cases hxs
    rename_i hc
    obtain ⟨rfl, hle⟩ := hc
    have hbl : b < h.length := lk_lt hb
    obtain ⟨E, H'⟩ := H.kill (b0 := b) hb
    have hlk : lk (h.set b .dead) = fun x => if x = b then some .dead else lk h x := by funext x; exact lk_set hbl x
    rw [hlk]
    have hT : Turns F μ h w (h.set b .dead) := ⟨by rw [hlk]; exact E, by rw [hlk]; exact H', by simp, fun x hx => hn x (by simpa using hx)⟩
    refine ⟨hT, .r _ _ ?_⟩
    have empty : ∀ (ad : Option Addr) (cap : Nat), (ad = none → cap = 0) → ((els.drop j).take 0).length = 0 → RRel (fbOf F μ fun x => if x = b then some .dead else lk h x) w (.sl sz .any ((els.drop j).take 0)) (.slice ad 0 cap) := fun ad cap hna _ => by
      rw [List.take_zero]
      exact .sl _ .any [] ad cap 0 0 (fun _ _ => .bool true) (by simp) (by simp) hna (by simp) (by simp) (by simp) (by simp) (by simp) (by simp) (by simp)
    cases hv with
    | sl _ _ _ _ B lo cap hl hm hn' hroom hcnt =>
      have hbr := H.rel b _ B lo hb rfl hm
      have hnF := H.apart b _ B lo hb rfl hm
      have hlen : ((els.drop j).take len).length = len := by simp; omega
      cases hbr with
      | rows _ _ hsz hcell =>
        have at_ : ∀ (i : Nat) (x : R) (f : Nat) (c : R), ((els.drop j).take len)[i]? = some x → x.cells[f]? = some c → ∃ v, cellIs w ⟨B, lo + j * sz + i * sz + f, none⟩ v ∧ RRel (fbOf F μ (lk h)) w c v := fun i x f c h1 h2 => by
          have hi := (List.getElem?_eq_some_iff.1 h1).1
          rw [List.getElem?_take, if_pos (by omega), List.getElem?_drop] at h1
          obtain ⟨v, h3, h4⟩ := hcell (j + i) x f c h1 h2
          refine ⟨v, ?_, h4⟩
          rw [show lo + j * sz + i * sz + f = lo + (j + i) * sz + f by rw [Nat.add_mul]; omega]
          exact h3
        have := RRel.sl (fb := fbOf F μ fun x => if x = b then some .dead else lk h x) (w := w) sz .any ((els.drop j).take len) (some ⟨B, lo + j * sz, none⟩) cap B (lo + j * sz) (fun i f => (w.cell? ⟨B, lo + j * sz + i * sz + f, none⟩).getD (.bool true))
          (fun _ => rfl) (by rw [hlen]; exact hn') (by simp) (by simp) (by simp) (by simp)
          (fun i x f c h1 h2 hfb => by
            rcases hfb with hF | ⟨b', blk', lo', h3, h4, h5⟩
            · exact hnF hF
            · by_cases hbb : b' = b
              · subst hbb; simp at h3; subst h3; cases h4
              · simp only [hbb, if_false] at h3
                exact hbb (H.inj b' b _ _ B lo' lo h3 h4 hb rfl h5 hm))
          (fun i x h1 => by
            have hi := (List.getElem?_eq_some_iff.1 h1).1
            rw [List.getElem?_take, if_pos (by omega), List.getElem?_drop] at h1
            exact hsz (j + i) x h1)
          (fun i x f c h1 h2 => by
            obtain ⟨v, h3, _⟩ := at_ i x f c h1 h2
            rw [h3.1]; exact ⟨by rw [h3.1]; rfl, h3.2⟩)
          (fun i x f c h1 h2 => by
            obtain ⟨v, h3, h4⟩ := at_ i x f c h1 h2
            rw [h3.1]
            exact h4.evo E)
        rw [hlen] at this
        exact this
    | sl0 _ _ _ ad hl hcnt => exact empty ad 0 (fun _ => rfl) (by simp)
    | slD _ _ _ _ ad cap hd hna hn' =>
      rw [deadAt, lk, hb] at hd; cases hd
  · cases hr

theorem freezeL_sound : ∀ (l l' : List V) (cvs : List Value) {h h' : Heap}, HRel F μ (lk h) w → (∀ b, h.length ≤ b → μ b = none) → (∀ (i : Nat) (c : V) (v : Value), l[i]? = some c → cvs[i]? = some v → VRel (fbOf F μ (lk h)) μ (lk h) w c v) → freezeL h l = some (l', h') →
    Turns F μ h w h' ∧ l'.length = l.length ∧ ∀ (i : Nat) (c : V) (v : Value), l'[i]? = some c → cvs[i]? = some v → VRel (fbOf F μ (lk h')) μ (lk h') w c v
  | [], l', cvs, h, h', H, hn, hv, hr => by cases hr; exact ⟨.same H hn, rfl, by simp⟩
  | v :: t, l', cvs, h, h', H, hn, hv, hr => by
    simp only [freezeL] at hr
    split at hr <;> try cases hr
    rename_i v1 h1 hf
    split at hr <;> cases hr
    rename_i t1 hf2
    cases cvs with
    | nil =>
      -- nothing is asked, but the heap's turn
      have hv0 : VRel (fbOf F μ (lk h)) μ (lk h) w v (match v with | .r _ => undef | _ => undef) ∨ True := .inr trivial
      cases v with
      | r x =>
        simp [freeze1] at hf
        obtain ⟨rfl, rfl⟩ := hf
        obtain ⟨T2, l2, _⟩ := freezeL_sound t t1 [] H hn (by simp) hf2
        exact ⟨T2, by simp [l2], by simp⟩
      | sl sz b j len =>
        unfold freeze1 at hf
        simp only at hf
        split at hf <;> cases hf
        rename_i xs hxs
        unfold elemsR at hxs
        simp only at hxs
        split at hxs <;> try cases hxs
        rename_i sz' els hb
        have hbl : b < h.length := lk_lt hb
        obtain ⟨E, H'⟩ := H.kill (b0 := b) hb
        have hlk : lk (h.set b .dead) = fun x => if x = b then some .dead else lk h x := by funext x; exact lk_set hbl x
        have hT : Turns F μ h w (h.set b .dead) := ⟨by rw [hlk]; exact E, by rw [hlk]; exact H', by simp, fun x hx => hn x (by simpa using hx)⟩
        obtain ⟨T2, l2, _⟩ := freezeL_sound t t1 [] hT.hrel hT.out (by simp) hf2
        exact ⟨hT.trans T2, by simp [l2], by simp⟩
      | _ => simp [freeze1] at hf
    | cons cv cvs =>
      obtain ⟨T1, k1⟩ := freeze1_sound H hn (hv 0 v cv rfl rfl) hf
      obtain ⟨T2, l2, k2⟩ := freezeL_sound t t1 cvs T1.hrel T1.out (fun i c u h3 h4 => (hv (i + 1) c u (by simpa using h3) (by simpa using h4)).evo T1.evo fun _ _ => trivial) hf2
      refine ⟨T1.trans T2, by simp [l2], fun i c u h3 h4 => ?_⟩
      cases i with
      | zero => simp at h3 h4; subst h3 h4; exact k1.evo T2.evo fun _ _ => trivial
      | succ i => exact k2 i c u (by simpa using h3) (by simpa using h4)

theorem freezeV_sound {h h' : Heap} {v v' : V} {cv : Value} (H : HRel F μ (lk h) w) (hn : ∀ b, h.length ≤ b → μ b = none) (hv : VRel (fbOf F μ (lk h)) μ (lk h) w v cv) (hr : freezeV h v = some (v', h')) :
    Turns F μ h w h' ∧ VRel (fbOf F μ (lk h')) μ (lk h') w v' cv := by
  unfold freezeV at hr
  split at hr
  · rename_i cs
    split at hr <;> cases hr
    rename_i cs' hf
    cases hv with
    | agg _ vs hl hr' =>
      obtain ⟨T, l1, k1⟩ := freezeL_sound cs cs' vs H hn hr' hf
      exact ⟨T, mkAgg_rel ⟨by rw [l1]; exact hl.1, hl.2⟩ k1⟩
  · exact freeze1_sound H hn hv hr

theorem ownV_sound {h : Heap} {sz : Nat} {v : V} {cv : Value} (H : HRel F μ (lk h) w) (hn : ∀ b, h.length ≤ b → μ b = none) (hv : VRel (fbOf F μ (lk h)) μ (lk h) w v cv) :
    Turns F μ h w (ownV h sz v).2 ∧ VRel (fbOf F μ (lk (ownV h sz v).2)) μ (lk (ownV h sz v).2) w (ownV h sz v).1 cv := by
  unfold ownV
  split
  · rename_i sz'
    split
    · rename_i hs
      subst hs
      have hg : lk h h.length = none := by simp [lk]
      obtain ⟨E, H'⟩ := H.ghost (blk := .rows sz []) hg (hn _ (Nat.le_refl _))
      have hpush : lk (h ++ [.rows sz []]) = setLk (lk h) h.length (.rows sz []) := hlk_push
      have hr := hv.r_inv
      cases hr with
      | sl _ _ _ ad cap B o cv' ha hcap hnone hnil =>
        obtain ⟨h1, _⟩ := hnil rfl
        have hc0 := hnone h1
        subst hc0
        refine ⟨⟨by rw [hpush]; exact E, by rw [hpush]; exact H', by simp, fun b hb => hn b (by simp at hb; omega)⟩, ?_⟩
        simp only
        rw [hpush]
        refine .sl0 _ _ _ _ ⟨.rows sz [], by simp [setLk], rfl, rfl⟩ ?_
        simp [cntAt, setLk, cntB]
    · exact ⟨.same H hn, hv⟩
  · exact ⟨.same H hn, hv⟩

theorem FrRel.setv {fb : Nat → Prop} {g : Lk} {fr : List V} {tm : Array Value} (hf : FrRel fb μ g w fr tm) {t : Nat} {v : V} (hv : VRel fb μ g w v (tm.getD t undef)) : FrRel fb μ g w (fr.set t v) tm := by
  refine ⟨by simpa using hf.len, fun x => ?_⟩
  have h := hf.val x
  rw [nthV_eq] at h ⊢
  by_cases hx : t = x
  · subst hx
    by_cases ht : t < fr.length
    · have : (fr.set t v).getD t .junk = v := by simp [List.getD, ht]
      rw [this]; exact hv
    · rw [List.set_eq_of_length_le (by omega)]; exact h
  · simp only [List.getD, List.getElem?_set, hx, if_false] at h ⊢
    exact h

theorem runH_sound {x : Hint} {s s' : St} (S : SR F μ s.fr s.h a w) (hk : k ≤ s.h.length) (hr : runH x s = some s') : SR F μ s'.fr s'.h a w ∧ Goes k F μ s.h a w μ s'.h a w := by
  have fin : ∀ {t : Nat} {v : V} {h' : Heap}, Turns F μ s.h w h' → VRel (fbOf F μ (lk h')) μ (lk h') w v (a.tmps.getD t undef) → s' = ⟨s.fr.set t v, h'⟩ → SR F μ s'.fr s'.h a w ∧ Goes k F μ s.h a w μ s'.h a w := fun {t v h'} T hv hs => by
    subst hs
    exact ⟨⟨T.hrel, (S.frel.evo T.evo).setv hv, T.out⟩, ⟨T.evo.weaken fun _ _ => trivial, fun _ _ => rfl, Nat.le_trans hk T.len, rfl⟩⟩
  cases x with
  | freeze t =>
    simp only [runH] at hr
    split at hr
    · rename_i v h' hf
      simp only [withV_eq, withH_eq, setK_eq] at hr
      cases hr
      obtain ⟨T, hv⟩ := freezeV_sound S.hrel S.none (S.frel.val t) hf
      exact fin T hv rfl
    · cases hr
  | own t sz =>
    simp only [runH, setK_eq] at hr
    cases hr
    obtain ⟨T, hv⟩ := ownV_sound (sz := sz) S.hrel S.none (S.frel.val t)
    exact fin T hv rfl
end
end Go.PV
