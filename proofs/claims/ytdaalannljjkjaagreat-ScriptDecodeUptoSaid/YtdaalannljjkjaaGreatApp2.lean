/- append, all cases. -/
import Derived.Test.YtdaalannljjkjaaGreatApp
set_option linter.unusedVariables false
set_option linter.unusedSimpArgs false
namespace Go.PV
variable {P : Program}
section
variable {F : Nat → Prop} {μ : Mu} {h h' : Heap} {w w' : World} {fr : List V} {a : Act}

/-- Cells of a concrete block that a live abstract block owns: they are there, and none is frozen. -/
theorem HRel.free (H : HRel F μ (lk h) w) {b B lo N : Nat} {blk : Blk} (hb : h[b]? = some blk) (hl : blk.live = true) (hm : μ b = some (B, lo)) (hroom : room w B N) {j : Nat} (hj : j < N) :
    (w.cell? ⟨B, j, none⟩).isSome = true ∧ w.frozen? ⟨B, j, none⟩ = false := by
  obtain ⟨arr, e, fr, hB, hfr⟩ := H.cells b blk B lo hb hl hm
  obtain ⟨arr', e', fr', hB', hn⟩ := hroom
  rw [hB] at hB'
  cases hB'
  have hlt : j < arr.size := by omega
  have := hfr j hlt
  exact ⟨by simp [World.cell?, hB, hlt], by simp [World.frozen?, hB]; omega⟩

/-- In place, behind the end of the elements that count: the block's number is new. -/
theorem app_move (H : HRel F μ (lk h) w) (hμ : ∀ b, h.length ≤ b → μ b = none) {cx : Value} {t tx ty e : TypeId} {i : TypeInfo} {sz b k n m B lo cap : Nat} {es ex : Els} {olds news : List Value}
    (hu : P.underlying t = some (.slice e)) (hi : P.info? e = some i) (hsi : i.size = sz) (hsz : sz ≠ 0) (hok : es.ok sz) (hok2 : ex.ok sz)
    (hl : liveAt (lk h) b sz) (hm : μ b = some (B, lo)) (hroom : room w B (lo + (k + cap) * sz))
    (ho : CsRel (fbOf F μ (lk h)) μ (lk h) w es.cells olds) (hol : olds.length = n * sz) (hat : 0 < olds.length → w.rangeAt B (lo + k * sz) olds)
    (hnw : CsRel (fbOf F μ (lk h)) μ (lk h) w ex.cells news) (hnl : news.length = m * sz) (hsrc : SrcA P i tx cx m news w) (hg : n + m ≤ cap) :
    BGives P F μ h w (Builtin.append_ #[t, tx] ty #[.slice (some ⟨B, lo + k * sz, none⟩) n cap, cx]) (h.set b .dead ++ [catEls sz es ex]) (.sl sz h.length 0 (n + m)) := by
  subst hsi
  obtain ⟨blk, hb, hlive, hbsz⟩ := hl
  have hbl : b < h.length := lk_lt hb
  have e1 : (n + m) * i.size = n * i.size + m * i.size := Nat.add_mul _ _ _
  have e2 : (k + cap) * i.size = k * i.size + cap * i.size := Nat.add_mul _ _ _
  have e3 : (n + m) * i.size ≤ cap * i.size := Nat.mul_le_mul_right _ hg
  have hfree : ∀ j, j < news.length → (w.cell? ⟨B, lo + k * i.size + n * i.size + j, none⟩).isSome = true ∧ w.frozen? ⟨B, lo + k * i.size + n * i.size + j, none⟩ = false := fun j hj =>
    H.free hb hlive hm hroom (by omega)
  have hrun := run_append_room_a (P := P) (w := w) t tx ty e i hu hi B (lo + k * i.size) n cap cx m news hsrc hg (fun j hj => (hfree j hj).1) (fun j hj => (hfree j hj).2)
  obtain ⟨f1, f2, f3, f4, f5, f6⟩ := setCells_facts B news (lo + k * i.size + n * i.size) w
  have hok' := cat_ok hok hok2
  have hall := ho.append hnw
  have hlen : (es.cells ++ ex.cells).length = (n + m) * i.size := by rw [hall.1.1, List.length_append, hol, hnl, Nat.add_mul]
  have hnone : lk h h.length = none := by simp [lk]
  obtain ⟨E, H'⟩ := H.move (b1 := h.length) (lo1 := lo + k * i.size) hb hlive hm hnone (hμ _ (Nat.le_refl _)) f1 f2 f3 f4 f5 f6 hok'.live fun {fb μ2 g2} hv hr => .of_cs hok' fun j c hj => by
    rw [cat_cs] at hj
    have hlt := (List.getElem?_eq_some_iff.1 hj).1
    have hlv := hall.1.1
    have hv' : (olds ++ news)[j]? = some ((olds ++ news)[j]'(by omega)) := List.getElem?_eq_getElem _
    refine ⟨_, ⟨?_, hall.1.2 _ (List.getElem_mem _)⟩, hv (hall.2 j c _ hj hv')⟩
    rw [← hv']
    by_cases hjo : j < olds.length
    · rw [World.cell?_setCells_out B news _ w ⟨B, lo + k * i.size + j, none⟩ (fun _ _ => by simp; omega), List.getElem?_append_left hjo]
      rw [List.getElem?_eq_getElem hjo]
      exact hat (by omega) j _ (List.getElem?_eq_getElem hjo)
    · rw [List.getElem?_append_right (by omega)]
      have hq : j - olds.length < news.length := by rw [List.length_append] at hlv; omega
      have := World.cell?_setCells_in B news (lo + k * i.size + n * i.size) w (fun j hj => (hfree j hj).1) (j - olds.length) hq
      rw [List.getElem?_eq_getElem hq, ← this]
      congr 2
      omega
  have hpush : lk (h.set b .dead ++ [catEls i.size es ex]) = fun b' => if b' = h.length then some (catEls i.size es ex) else if b' = b then some .dead else lk h b' := by
    rw [hlk_push, List.length_set, hlk_set hbl]; rfl
  refine ⟨_, _, setMu μ h.length B (lo + k * i.size), hrun, ?_, ?_, ?_, by simp, fun b hb => by simp [setMu, Nat.ne_of_lt hb], fun b' hb' => ?_⟩
  · rw [hpush]; exact E
  · rw [hpush]; exact H'
  · have := VRel.sl (fb := fbOf F (setMu μ h.length B (lo + k * i.size)) (lk (h.set b .dead ++ [catEls i.size es ex]))) (g := lk (h.set b .dead ++ [catEls i.size es ex])) (μ := setMu μ h.length B (lo + k * i.size)) (w := w.setCells B (lo + k * i.size + n * i.size) news)
      i.size h.length 0 (n + m) B (lo + k * i.size) cap ⟨_, by rw [hpush]; simp, hok'.live, cat_sz _ _ _⟩ mu_set hg ?_ ?_
    · simpa using this
    · obtain ⟨arr, e', fr, hB, hn⟩ := hroom
      obtain ⟨arr', hB', hs⟩ := f6 arr e' fr hB
      exact ⟨arr', e', fr, hB', by rw [hs, Nat.zero_add]; omega⟩
    · have : cntAt (lk (h.set b .dead ++ [catEls i.size es ex])) h.length = n + m := by
        simp only [cntAt, hpush, if_true]
        exact cat_cnt hsz hok hok2 hlen
      omega
  · simp at hb'
    simp [setMu, show b' ≠ h.length by omega, hμ b' (by omega)]

/-- Nothing to append, nothing there. -/
theorem app_zero (H : HRel F μ (lk h) w) (hμ : ∀ b, h.length ≤ b → μ b = none) {s : V} {cx : Value} {t tx ty e : TypeId} {i : TypeInfo} {sz : Nat} {base : Option Addr} {es ex : Els}
    (hu : P.underlying t = some (.slice e)) (hi : P.info? e = some i) (hsi : i.size = sz) (hsz : sz ≠ 0) (hok : es.ok sz) (hok2 : ex.ok sz)
    (hol : es.cells.length = 0) (hnl : ex.cells.length = 0) (hsrc : SrcA P i tx cx 0 [] w) :
    BGives P F μ h w (Builtin.append_ #[t, tx] ty #[.slice base 0 0, cx]) (kill h s ++ [catEls sz es ex]) (.sl sz h.length 0 0) := by
  subst hsi
  have hrun := run_append_zero (P := P) (w := w) t tx ty e i hu hi base 0 0 (Nat.le_refl _) cx hsrc
  obtain ⟨E1, H1⟩ := kill_sound H s
  have hlk1 : lk (kill h s) h.length = none := by simp [lk, kill_len]
  obtain ⟨E2, H2⟩ := H1.ghost (blk := catEls i.size es ex) hlk1 (hμ _ (Nat.le_refl _))
  have hpush : lk (kill h s ++ [catEls i.size es ex]) = setLk (lk (kill h s)) h.length (catEls i.size es ex) := by rw [hlk_push, kill_len]
  refine ⟨_, _, μ, hrun, ?_, ?_, ?_, by simp [kill_len], fun b hb => rfl, fun b hb => hμ b (by simp [kill_len] at hb; omega)⟩
  · rw [hpush]; exact E1.trans E2
  · rw [hpush]; exact H2
  · rw [hpush]
    refine .sl0 _ _ _ _ ⟨_, by simp [setLk], (cat_ok hok hok2).live, cat_sz _ _ _⟩ ?_
    have := cat_cnt (n := 0) hsz hok hok2 (by simp [hol, hnl])
    simp [cntAt, setLk, this]

/-- In place, over elements that count. -/
theorem app_in (H : HRel F μ (lk h) w) (hμ : ∀ b, h.length ≤ b → μ b = none) {cx : Value} {t tx ty e : TypeId} {i : TypeInfo} {sz b k n m B lo cap : Nat} {els xs : List R} {news : List Value}
    (hu : P.underlying t = some (.slice e)) (hi : P.info? e = some i) (hsi : i.size = sz) (hb : h[b]? = some (.rows sz els)) (hm : μ b = some (B, lo)) (hroom : room w B (lo + (k + cap) * sz)) (hcnt : els.length ≤ k + cap)
    (hok2 : ∀ (j : Nat) (x : R), xs[j]? = some x → x.cells.length = sz)
    (hnw : CsRel (fbOf F μ (lk h)) μ (lk h) w ((xs.flatMap R.cells).map V.r) news) (hnl : news.length = m * sz) (hxl : xs.length = m) (hsrc : SrcA P i tx cx m news w) (hle : k + n + m ≤ els.length) :
    BGives P F μ h w (Builtin.append_ #[t, tx] ty #[.slice (some ⟨B, lo + k * sz, none⟩) n cap, cx]) (h.set b (.rows sz (setRange els (k + n) xs))) (.sl sz b k (n + m)) := by
  subst hsi
  have hbl : b < h.length := lk_lt hb
  have hlive : (Blk.rows i.size els).live = true := rfl
  have hok1 := (H.rel b _ B lo hb hlive hm).cs.1
  have e1 : (n + m) * i.size = n * i.size + m * i.size := Nat.add_mul _ _ _
  have e2 : (k + cap) * i.size = k * i.size + cap * i.size := Nat.add_mul _ _ _
  have e3 : (n + m) * i.size ≤ cap * i.size := Nat.mul_le_mul_right _ (by omega)
  have e4 : (k + n) * i.size = k * i.size + n * i.size := Nat.add_mul _ _ _
  have hfree : ∀ j, j < news.length → (w.cell? ⟨B, lo + k * i.size + n * i.size + j, none⟩).isSome = true ∧ w.frozen? ⟨B, lo + k * i.size + n * i.size + j, none⟩ = false := fun j hj =>
    H.free hb hlive hm hroom (by omega)
  have hrun := run_append_room_a (P := P) (w := w) t tx ty e i hu hi B (lo + k * i.size) n cap cx m news hsrc (by omega) (fun j hj => (hfree j hj).1) (fun j hj => (hfree j hj).2)
  have hlen : (setRange els (k + n) xs).length = els.length := by simp [setRange]; omega
  obtain ⟨_, E, H'⟩ := H.write (P := P) (blk' := .rows i.size (setRange els (k + n) xs)) (p := (k + n) * i.size) hb hlive hm (setRange_ok hok1 hok2 _) rfl (by simp [cntB, hlen])
    (by rw [cs_rows, flatR_setRange hok1 hok2 (by omega), map_setRange]; rfl)
    (by
      have := hnw.1.1
      simp only [cs_rows, List.length_map] at this ⊢
      rw [(flat_spec hok1).1, (flat_spec hok2).1, ← Nat.add_mul]
      exact Nat.mul_le_mul_right _ (by omega)) hnw
  have hw : w.setCells B (lo + (k + n) * i.size) news = w.setCells B (lo + k * i.size + n * i.size) news := by rw [e4, Nat.add_assoc]
  rw [hw] at E H'
  refine ⟨_, _, μ, hrun, E, H', ?_, by simp, fun _ _ => rfl, fun b hb => hμ b (by simpa using hb)⟩
  refine .sl i.size b k (n + m) B lo cap ⟨.rows i.size (setRange els (k + n) xs), by rw [hlk_set hbl]; simp [setLk], rfl, rfl⟩ hm (by omega) (hroom.evo E) ?_
  simp [cntAt, hlk_set hbl, setLk, cntB, hlen]
  exact hcnt


theorem appE_sound (H : HRel F μ (lk h) w) (hμ : ∀ b, h.length ≤ b → μ b = none) {s v : V} {cs cx : Value} (hs : VRel (fbOf F μ (lk h)) μ (lk h) w s cs)
    {t tx ty : TypeId} {sz eb m : Nat} {ex : Els} {news : List Value} (hsz : sz ≠ 0) (heb : eb ≠ 0) (hty : slTy P t sz eb = true)
    (hok2 : ex.ok sz) (hnw : CsRel (fbOf F μ (lk h)) μ (lk h) w ex.cells news) (hnl : news.length = m * sz)
    (hsrcA : ∀ e i, P.underlying t = some (.slice e) → P.info? e = some i → SrcA P i tx cx m news w)
    (hr : appE h sz eb s m ex = some (v, h')) : BGives P F μ h w (Builtin.append_ #[t, tx] ty #[cs, cx]) h' v := by
  obtain ⟨e, i, z, hu, hi, hsi, hbi, hz, hzs⟩ := slTy_inv hty
  have hsrc := hsrcA e i hu hi
  unfold appE at hr
  split at hr <;> try cases hr
  rename_i a' n es hao hst2 hn hes
  split at hr <;> try cases hr
  rename_i hcond
  obtain ⟨rfl, hlim⟩ := hcond
  have hns : ∀ q, s ≠ .r (.str q) := fun q hq => by subst hq; cases hao
  obtain ⟨hok, olds, ho, hol, hold, hsl⟩ := src_sound (tx := t) (P := P) H hs (isTy_sl hu) hsz hst2 hn hes
  obtain ⟨base, cap, rfl, hat⟩ := hsl hns
  have zero : ∀ {base : Option Addr}, n = 0 → m = 0 → BGives P F μ h w (Builtin.append_ #[t, tx] ty #[.slice base 0 0, cx]) (kill h s ++ [catEls a' es ex]) (.sl a' h.length 0 0) := fun {base} h1 h2 => by
    subst h1 h2
    have k1 : news = [] := List.eq_nil_of_length_eq_zero (by omega)
    subst k1
    have k2 := ho.1.1
    have k3 := hnw.1.1
    exact app_zero H hμ hu hi hsi hsz hok hok2 (by omega) (by simpa using k3) hsrc
  have grow : cap < n + m → BGives P F μ h w (Builtin.append_ #[t, tx] ty #[.slice base n cap, cx]) (kill h s ++ [catEls a' es ex]) (.sl a' h.length 0 (n + m)) := fun hg =>
    app_grow H hμ hu hi hsi hz hzs hsz hok hok2 ho hol hold.cellsD hnw hnl hsrc hg (by rw [hbi]; exact hlim) (by rw [hbi]; exact heb)
  split at hr
  · rename_i r hin
    cases hr
    unfold appIn at hin
    split at hin <;> try cases hin
    rename_i sz2 b k n2 xs
    split at hin <;> try cases hin
    rename_i sz' els hb
    split at hin <;> cases hin
    rename_i hc
    obtain ⟨rfl, hle, hm0⟩ := hc
    simp [lenV] at hn; subst hn
    simp [strideOf] at hst2; subst hst2
    have hxl : xs.length = m := by
      have h1 := hnw.1.1
      simp only [Els.cells, List.length_map] at h1
      rw [(flat_spec hok2).1, hnl] at h1
      exact Nat.eq_of_mul_eq_mul_right (Nat.pos_of_ne_zero hsz) h1
    cases hs with
    | sl _ _ _ _ B lo _ hl hm' hn' hroom hcnt =>
      have hcnt : els.length ≤ k + cap := by simpa [cntAt, lk, hb, cntB] using hcnt
      exact app_in H hμ hu hi hsi hb hm' hroom hcnt hok2 hnw hnl hxl hsrc hle
    | sl0 _ _ _ _ hl hcnt =>
      have hcnt : els.length ≤ k := by simpa [cntAt, lk, hb, cntB] using hcnt
      omega
    | slD _ _ _ _ _ _ hd => cases dead_blk hb hd
  · cases hr
    by_cases hg : cap < n + m
    · exact grow hg
    · unfold appOk at hao
      split at hao <;> try cases hao
      · rename_i sz2 b k n2 _
        simp [lenV] at hn; subst hn
        simp [strideOf] at hst2; subst hst2
        cases hs with
        | sl _ _ _ _ B lo _ hl hm' hn' hroom hcnt =>
          refine app_move H hμ hu hi hsi hsz hok hok2 hl hm' hroom ho hol (fun h0 => ?_) hnw hnl hsrc (by omega)
          obtain ⟨B', o', h1, h2⟩ := hat h0
          cases h1
          exact h2
        | sl0 _ _ _ _ hl hcnt =>
          have hm0 : m = 0 := by omega
          subst hm0
          exact zero rfl rfl
        | slD _ _ _ _ _ _ hd =>
          exfalso
          unfold elsOf elemsR elemsV at hes
          have hd' : h[b]? = some .dead := hd
          simp [hd'] at hes
      · rename_i sz2 xs2 _
        have hx2 : xs2 = [] := by simpa using hao
        subst hx2
        have r := hs.r_inv
        cases r with
        | sl _ _ _ _ _ B o cv ha hcap hnone hnil hfull hnn hf hsz' hc hr' =>
          obtain ⟨h1, _⟩ := hnil rfl
          have hc0 := hnone h1
          subst hc0
          have hm0 : m = 0 := by simp at hg; omega
          subst hm0
          exact zero rfl rfl
      · rename_i sz2 xs2 _
        have hx2 : xs2 = [] := by simpa using hao
        subst hx2
        have r := hs.r_inv
        cases r with
        | sl _ _ _ _ _ B o cv ha hcap hnone hnil hfull hnn hf hsz' hc hr' =>
          have hc0 := hfull rfl
          simp at hc0
          subst hc0
          have hm0 : m = 0 := by simp at hg; omega
          subst hm0
          exact zero rfl rfl

theorem app_sound (H : HRel F μ (lk h) w) (hμ : ∀ b, h.length ≤ b → μ b = none) {s x v : V} {cs cx : Value} (hs : VRel (fbOf F μ (lk h)) μ (lk h) w s cs) (hx : VRel (fbOf F μ (lk h)) μ (lk h) w x cx)
    {t tx ty : TypeId} {sz eb : Nat} (hsz : sz ≠ 0) (heb : eb ≠ 0) (hty : slTy P t sz eb = true) (htx : isTy P tx (fun d => match d with | .slice _ => true | .string => true | _ => false) = true)
    (hr : appH h sz eb s x = some (v, h')) : BGives P F μ h w (Builtin.append_ #[t, tx] ty #[cs, cx]) h' v := by
  obtain ⟨e, i, z, hu, hi, hsi, hbi, hz, hzs⟩ := slTy_inv hty
  unfold appH at hr
  split at hr <;> try cases hr
  rename_i b' m ex hst hm hex
  split at hr <;> try cases hr
  rename_i hbs
  subst hbs
  obtain ⟨hok2, news, hnw, hnl, hsrc, _⟩ := src_sound (tx := tx) (P := P) H hx htx hsz hst hm hex
  refine appE_sound H hμ hs hsz heb hty hok2 hnw hnl (fun e' i' hu' hi' => ?_) hr
  rw [hu] at hu'; cases hu'
  rw [hi] at hi'; cases hi'
  exact .src (hsi.symm ▸ hsrc)

theorem flatten_rep {α : Type} (l : List α) : ∀ (n i : Nat), i < n * l.length → ((List.replicate n l).flatten)[i]? = l[i % l.length]?
  | 0, i, h => by simp at h
  | n + 1, i, h => by
    rw [List.replicate_succ, List.flatten_cons]
    by_cases hi : i < l.length
    · rw [List.getElem?_append_left hi, Nat.mod_eq_of_lt hi]
    · rw [List.getElem?_append_right (by omega), flatten_rep l n _ (by rw [Nat.add_mul, Nat.one_mul] at h; omega), ← Nat.mod_eq_sub_mod (by omega)]

theorem zeroCells_flatten (z : Array Value) (n : Nat) : ((List.replicate n z.toList).flatten).toArray = Builtin.zeroCells z n := by
  apply Array.ext'
  apply List.ext_getElem?
  intro i
  simp only [Builtin.zeroCells, Array.toList_map, List.getElem?_map, Array.toList_range]
  by_cases hi : i < n * z.size
  · rw [flatten_rep z.toList n i (by simpa using hi), List.getElem?_range hi]
    have hz : 0 < z.size := by rcases Nat.eq_zero_or_pos z.size with h | h; · simp [h] at hi
                               · exact h
    have hm : i % z.size < z.size := Nat.mod_lt _ hz
    simp [hm]
  · rw [List.getElem?_eq_none (by simp; omega), List.getElem?_eq_none (by simp; omega)]
    rfl

theorem CsRel.rep {fb : Nat → Prop} {g : Lk} {cs : List V} {vs : List Value} (h : CsRel fb μ g w cs vs) : ∀ n, CsRel fb μ g w ((List.replicate n cs).flatten) ((List.replicate n vs).flatten)
  | 0 => ⟨⟨rfl, by simp⟩, by simp⟩
  | n + 1 => by
    rw [List.replicate_succ, List.replicate_succ, List.flatten_cons, List.flatten_cons]
    exact h.append (h.rep n)

theorem rep_cells (z : R) : ∀ n, ((List.replicate n z).flatMap R.cells).map V.r = (List.replicate n (z.cells.map V.r)).flatten
  | 0 => rfl
  | n + 1 => by rw [List.replicate_succ, List.replicate_succ, List.flatMap_cons, List.map_append, rep_cells z n, List.flatten_cons]

/-- Zeros are appended. -/
theorem appz_sound (H : HRel F μ (lk h) w) (hμ : ∀ b, h.length ≤ b → μ b = none) {s x v : V} {cs cx : Value} (hs : VRel (fbOf F μ (lk h)) μ (lk h) w s cs) (hx : VRel (fbOf F μ (lk h)) μ (lk h) w x cx)
    {t tx ty : TypeId} {sz eb : Nat} {z : R} (hsz : sz ≠ 0) (heb : eb ≠ 0) (hty : slTy P t sz eb = true) (htx : isTy P tx (fun d => match d with | .int _ => true | _ => false) = true) (hzv : zeroIs P t z = true)
    (hr : appzC h sz eb z s x = some (v, h')) : BGives P F μ h w (Builtin.append_ #[t, tx] ty #[cs, cx]) h' v := by
  unfold zeroIs at hzv
  split at hzv <;> try cases hzv
  rename_i e hu
  split at hzv <;> try cases hzv
  rename_i i hi
  split at hzv <;> try cases hzv
  rename_i zv hz
  obtain ⟨e1, i1, z1, hu1, hi1, hsi, hbi, hz1, hzs⟩ := slTy_inv hty
  rw [hu] at hu1; cases hu1
  rw [hi] at hi1; cases hi1
  rw [hz] at hz1; cases hz1
  obtain ⟨d, hd, hd'⟩ := run_under htx
  split at hd' <;> try cases hd'
  rename_i k
  unfold appzC at hr
  split at hr <;> try cases hr
  rename_i n
  split at hr <;> try cases hr
  rename_i hcond
  obtain ⟨hn0, hzl⟩ := hcond
  have hcx := hx.int_inv
  subst hcx
  have hcr := (chkConst_rel (fb := fbOf F μ (lk h)) (w := w) z zv hzv).cells_rel (μ := μ) (g := lk h)
  have hall := hcr.rep n.toNat
  have hlim : n.toNat * eb ≤ limA ∧ True := by
    unfold appE at hr
    split at hr <;> try cases hr
    split at hr <;> try cases hr
    rename_i a' n' es _ _ _ _ hc
    refine ⟨Nat.le_trans (Nat.mul_le_mul_right _ (Nat.le_add_left _ _)) hc.2, trivial⟩
  have hlim := hlim.1
  have hl46 : limA = 70368744177664 := by simp [limA]
  have hnn : n.toNat ≤ limA := Nat.le_trans (Nat.le_mul_of_pos_right _ (Nat.pos_of_ne_zero heb)) hlim
  have hokr : (Els.rows (List.replicate n.toNat z)).ok sz := fun k y hk => by
    have := List.eq_of_mem_replicate (List.mem_of_getElem? hk)
    rw [this]; exact hzl
  refine appE_sound (news := (List.replicate n.toNat zv.cells.toList).flatten) H hμ hs hsz heb hty hokr ?_ ?_ (fun e' i' hu' hi' => ?_) hr
  · show CsRel _ _ _ _ (((List.replicate n.toNat z).flatMap R.cells).map V.r) _
    rw [rep_cells]
    exact hall
  · simp [hzs]
  · rw [hu] at hu'; cases hu'
    rw [hi] at hi'; cases hi'
    refine .zero k zv hd (by rw [Int.toNat_of_nonneg hn0]) (by omega) (by rw [hbi]; omega) hz (by rw [hzs, hsi]) (zeroCells_flatten _ _) hall.1.2
end
end Go.PV
