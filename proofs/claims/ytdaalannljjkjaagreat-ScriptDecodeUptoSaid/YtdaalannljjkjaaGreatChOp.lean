/- Operations of the chain other than calls. -/
import Derived.Test.YtdaalannljjkjaaGreatApp2
set_option linter.unusedVariables false
set_option linter.unusedSimpArgs false
namespace Go.PV
variable {P : Program}
section
variable {F : Nat → Prop} {μ : Mu} {h h' : Heap} {w w' : World} {fr : List V} {a : Act}

theorem arr_two {α : Type} [Inhabited α] {xs : Array α} (h : xs.size = 2) (d : α) : xs = #[xs.getD 0 d, xs.getD 1 d] := by
  apply Array.ext
  · simp [h]
  · intro i h1 h2
    have : i = 0 ∨ i = 1 := by omega
    rcases this with rfl | rfl <;> simp [h]

theorem twoC_inv {xs : List V} {f : V → V → Option (V × Heap)} {r : V × Heap} (h : twoC xs f = some r) : ∃ x y, xs = [x, y] ∧ f x y = some r := by
  cases xs with
  | nil => cases h
  | cons x t => cases t with
    | nil => cases h
    | cons y t => cases t with
      | nil => exact ⟨x, y, rfl, h⟩
      | cons _ _ => cases h

theorem app_op (H : HRel F μ (lk h) w) (hf : FrRel (fbOf F μ (lk h)) μ (lk h) w fr a.tmps) {o : Oper} {sz eb : Nat} {xs : List AOprd} {v : V} (hμ : ∀ b, h.length ≤ b → μ b = none) (heb : eb ≠ 0) (hc : chkApp P o.op sz eb xs = true)
    {Γ : CallF} (hr : runC Γ (.app sz eb) (xs.map (ev fr)) h = some (v, h')) : CGives P F μ h w a o h' v := by
  unfold chkApp at hc
  split at hc <;> try cases hc
  rename_i args ats hop
  simp only [Bool.and_eq_true] at hc
  obtain ⟨⟨⟨⟨hsz, hats⟩, hx⟩, hty⟩, htx⟩ := hc
  have hsz : sz ≠ 0 := by simpa using hsz
  have hats := arr_two (xs := ats) (by simpa using hats) 0
  simp only [runC] at hr
  obtain ⟨x, y, hxy, hr2⟩ := twoC_inv hr
  obtain ⟨x', y', rfl, e1, e2⟩ := map2 hxy
  obtain ⟨z1, z2, rfl, k1, k2⟩ := arr2 hx
  have r1 := ev_rel hf k1
  have r2 := ev_rel hf k2
  rw [e1] at r1
  rw [e2] at r2
  obtain ⟨cv, w', μ', hrun, E, H', hv, h1, h2, h3⟩ := app_sound (P := P) (ty := o.type) H hμ r1 r2 hsz heb hty htx hr2
  rw [← hats] at hrun
  exact ⟨.value cv, cv, w', μ', by simp [execOp, hop, resolve, invoke, builtin, hrun], .inl rfl, E, H', hv, h1, h2, h3⟩


theorem appz_op (H : HRel F μ (lk h) w) (hf : FrRel (fbOf F μ (lk h)) μ (lk h) w fr a.tmps) {o : Oper} {sz eb : Nat} {z : R} {xs : List AOprd} {v : V} (hμ : ∀ b, h.length ≤ b → μ b = none) (hc : chkAppz P o.op sz eb z xs = true)
    {Γ : CallF} (hr : runC Γ (.appz sz eb z) (xs.map (ev fr)) h = some (v, h')) : CGives P F μ h w a o h' v := by
  unfold chkAppz at hc
  split at hc <;> try cases hc
  rename_i args ats hop
  simp only [Bool.and_eq_true] at hc
  obtain ⟨⟨⟨⟨⟨⟨hsz, heb⟩, hats⟩, hx⟩, hty⟩, htx⟩, hz⟩ := hc
  have hsz : sz ≠ 0 := by simpa using hsz
  have heb : eb ≠ 0 := by simpa using heb
  have hats := arr_two (xs := ats) (by simpa using hats) 0
  simp only [runC] at hr
  obtain ⟨x, y, hxy, hr2⟩ := twoC_inv hr
  obtain ⟨x', y', rfl, e1, e2⟩ := map2 hxy
  obtain ⟨z1, z2, rfl, k1, k2⟩ := arr2 hx
  have r1 := ev_rel hf k1
  have r2 := ev_rel hf k2
  rw [e1] at r1
  rw [e2] at r2
  obtain ⟨cv, w', μ', hrun, E, H', hv, h1, h2, h3⟩ := appz_sound (P := P) (ty := o.type) H hμ r1 r2 hsz heb hty htx hz hr2
  rw [← hats] at hrun
  exact ⟨.value cv, cv, w', μ', by simp [execOp, hop, resolve, invoke, builtin, hrun], .inl rfl, E, H', hv, h1, h2, h3⟩

/-- The first elements of what is copied. -/
theorem src_prefix (H : HRel F μ (lk h) w) {x : V} {cx : Value} (hx : VRel (fbOf F μ (lk h)) μ (lk h) w x cx) {sz n : Nat} {xs : List R} (hsz : sz ≠ 0) (hs : strideOf x = some sz) (he : elemsR h x = some xs) (hn : n ≤ xs.length) :
    (∀ (k : Nat) (y : R), xs[k]? = some y → y.cells.length = sz) ∧ ∃ vs : List Value, CsRel (fbOf F μ (lk h)) μ (lk h) w (((xs.take n).flatMap R.cells).map V.r) vs ∧ vs.length = n * sz ∧ (Builtin.lenOf cx).run P w = .ok xs.length w ∧
      (Builtin.firstCells sz n cx).run P w = .ok vs.toArray w := by
  by_cases hstr : ∃ s, x = .r (.str s)
  · obtain ⟨s, rfl⟩ := hstr
    have hv := hx.str_inv
    subst hv
    simp [strideOf] at hs; subst hs
    simp [elemsR] at he; subst he
    have hflat : ∀ s : List UInt8, (s.map fun c => R.int .u8 c.toNat).flatMap R.cells = s.map fun c => R.int .u8 c.toNat := fun s => by
      induction s with
      | nil => rfl
      | cons c t ih => simp [ih, R.cells]
    have hn' : n ≤ s.length := by simpa using hn
    rw [← List.map_take, hflat]
    have hsize : (ByteArray.mk s.toArray).size = s.length := by simp [ByteArray.size]
    refine ⟨fun k y hk => ?_, (s.take n).map fun c => Value.int .u8 c.toNat, ⟨⟨by simp, fun v hv => ?_⟩, fun i c v h1 h2 => ?_⟩, by simp; omega, ?_, ?_⟩
    · rw [List.getElem?_map] at hk
      cases hq : s[k]? with
      | none => rw [hq] at hk; cases hk
      | some q => rw [hq] at hk; cases hk; rfl
    · obtain ⟨c, _, rfl⟩ := List.mem_map.1 hv; rfl
    · rw [List.getElem?_map, List.getElem?_map] at h1
      rw [List.getElem?_map] at h2
      cases hq : (s.take n)[i]? with
      | none => rw [hq] at h1; cases h1
      | some q => rw [hq] at h1 h2; cases h1; cases h2; exact .r _ _ (.int _ _)
    · have : (Builtin.lenOf (.string ⟨s.toArray⟩)).run P w = .ok (ByteArray.mk s.toArray).size w := rfl
      rw [this, hsize, List.length_map]
    · simp [Builtin.firstCells, extract_str]
  · have hns : ∀ s, x ≠ .r (.str s) := fun s hs => hstr ⟨s, hs⟩
    obtain ⟨ad, m, cap, sz2, rfl, _⟩ := elemsR_slice H hx hns he
    obtain ⟨hlen, B, o, ha, hok, hc⟩ := elemsR_sound H hx hs he
    subst hlen
    refine ⟨hok, ?_⟩
    have hok' : ∀ (i : Nat) (y : R), (xs.take n)[i]? = some y → y.cells.length = sz := fun i y hy => by
      rw [List.getElem?_take] at hy
      split at hy
      · exact hok i y hy
      · cases hy
    obtain ⟨vs, h1, h2, h3⟩ := gather (l := ((xs.take n).flatMap R.cells).map V.r) (o := o) (B := B) (w := w) (Rl := VRel (fbOf F μ (lk h)) μ (lk h) w) (fun j c hj => by
      rw [List.getElem?_map] at hj
      cases hq : ((xs.take n).flatMap R.cells)[j]? with
      | none => rw [hq] at hj; cases hj
      | some c' =>
        rw [hq] at hj; cases hj
        obtain ⟨i, y, f, hy, hf, rfl⟩ := flat_inv hok' hq
        have hy' : xs[i]? = some y := by
          rw [List.getElem?_take] at hy
          split at hy
          · exact hy
          · cases hy
        obtain ⟨v, k1, k2⟩ := hc i y f c' hy' hf
        exact ⟨v, by rwa [Nat.add_assoc] at k1, .r _ _ k2⟩)
    have hl : vs.length = n * sz := by rw [← h1.1, List.length_map, (flat_spec hok').1, List.length_take, Nat.min_eq_left hn]
    refine ⟨vs, ⟨h1, h3⟩, hl, rfl, ?_⟩
    by_cases hv : vs.length = 0
    · have : vs = [] := List.eq_nil_of_length_eq_zero hv
      subst this
      cases ad with
      | none => exact run_firstCells_none w sz n _ cap
      | some ad => exact run_firstCells_some w sz n ad _ cap [] hl (by simp)
    · have hx0 : 0 < xs.length := Nat.pos_of_ne_zero fun h0 => by
        have : n = 0 := by omega
        subst this; simp at hl; exact hv (by simpa using hl)
      rw [ha hx0]
      exact run_firstCells_some w sz n _ _ cap vs hl (fun j u hj => by rw [add_lit]; exact h2 j u hj)

theorem setRange_nil {α : Type} (l : List α) (k : Nat) : setRange l k [] = l := by simp [setRange]

theorem run_copy_gen {dT sT ty e : TypeId} {sz : Nat} (hu : P.underlying dT = some (.slice e)) (hs : szIs P e sz = true) {base : Option Addr} {dLen dCap m : Nat} {cx : Value} {vs : List Value} {w' : World}
    (hlen : (Builtin.lenOf cx).run P w = .ok m w) (hcells : (Builtin.firstCells sz (min m dLen) cx).run P w = .ok vs.toArray w)
    (hst : match base with | some p => (storeCells p vs).run P w = .ok () w' | none => w' = w) : (Builtin.copy_ #[dT, sT] ty #[.slice base dLen dCap, cx]).run P w = .ok (.int .i64 (min m dLen : Nat)) w' := by
  obtain ⟨i, hi, hsi⟩ := szIs_info hs
  subst hsi
  have hmin : Nat.min m dLen = min m dLen := rfl
  cases base with
  | none => simp at hst; subst hst; simp [Builtin.copy_, run_underlying hu, sizeOf, typeInfo, hi, hlen, hmin, hcells, goInt]
  | some p => simp at hst; simp [Builtin.copy_, run_underlying hu, sizeOf, typeInfo, hi, hlen, hmin, hcells, goInt, hst]

theorem copy_sound (H : HRel F μ (lk h) w) (hμ : ∀ b, h.length ≤ b → μ b = none) {d s v : V} {cd cx : Value} (hd : VRel (fbOf F μ (lk h)) μ (lk h) w d cd) (hx : VRel (fbOf F μ (lk h)) μ (lk h) w s cx)
    {dT sT ty e : TypeId} {sz : Nat} (hsz : sz ≠ 0) (hu : P.underlying dT = some (.slice e)) (hsi : szIs P e sz = true) (hr : copyH h sz d s = some (v, h')) : BGives P F μ h w (Builtin.copy_ #[dT, sT] ty #[cd, cx]) h' v := by
  have same : ∀ {base : Option Addr} {dLen dCap m : Nat} {n : Int}, (Builtin.lenOf cx).run P w = .ok m w → (Builtin.firstCells sz (min m dLen) cx).run P w = .ok #[] w → min m dLen = 0 →
      BGives P F μ h w (Builtin.copy_ #[dT, sT] ty #[.slice base dLen dCap, cx]) h (.r (.int .i64 ((0 : Nat) : Int))) := fun {base dLen dCap m n} h1 h2 h3 => by
    have := run_copy_gen (P := P) (sT := sT) (ty := ty) (dCap := dCap) hu hsi (base := base) (vs := []) (w' := w) h1 h2 (by cases base <;> rfl)
    rw [h3] at this
    exact ⟨_, w, μ, this, Evo.refl _ _ _ _ _ fun b blk _ _ => by cases blk <;> simp [Blk.live], H, .r _ _ (.int _ _), Nat.le_refl _, fun _ _ => rfl, hμ⟩
  unfold copyH at hr
  split at hr
  · rename_i xs sz' b k len he
    split at hr <;> try cases hr
    rename_i sz2 els sz3 hb hst
    simp only at hr
    split at hr <;> cases hr
    rename_i hc
    obtain ⟨rfl, rfl, rfl, hle⟩ := hc
    obtain ⟨hok, vs, hcs, hvl, hlen, hcells⟩ := src_prefix (P := P) (n := min xs.length len) H hx hsz hst he (Nat.min_le_left _ _)
    have htake : xs.take len = xs.take (min xs.length len) := by
      rcases Nat.le_total xs.length len with hq | hq
      · rw [Nat.min_eq_left hq, List.take_of_length_le hq, List.take_of_length_le (Nat.le_refl _)]
      · rw [Nat.min_eq_right hq]
    have hyl : (xs.take len).length = min xs.length len := by rw [List.length_take, Nat.min_comm]
    have hok2 : ∀ (i : Nat) (y : R), (xs.take len)[i]? = some y → y.cells.length = sz := fun i y hy => by
      rw [List.getElem?_take] at hy
      split at hy
      · exact hok i y hy
      · cases hy
    rw [← htake] at hcs
    cases hd with
    | sl _ _ _ _ B lo cap hl hm hn hroom hcnt =>
      obtain ⟨hlive, _⟩ := live_blk hb hl
      have hok1 := (H.rel b _ B lo hb hlive hm).cs.1
      have hlen2 : (setRange els k (xs.take len)).length = els.length := by simp [setRange]; omega
      obtain ⟨hrun, E, H'⟩ := H.write (P := P) (blk' := .rows sz (setRange els k (xs.take len))) (p := k * sz) hb hlive hm (setRange_ok hok1 hok2 _) rfl (by simp [cntB, hlen2])
        (by rw [cs_rows, flatR_setRange hok1 hok2 (by omega), map_setRange]; rfl)
        (by
          simp only [cs_rows, List.length_map]
          rw [(flat_spec hok1).1, (flat_spec hok2).1, ← Nat.add_mul]
          exact Nat.mul_le_mul_right _ (by omega)) hcs
      have := run_copy_gen (P := P) (sT := sT) (ty := ty) (dCap := cap) hu hsi (base := some ⟨B, lo + k * sz, none⟩) hlen hcells hrun
      rw [hyl]
      exact ⟨_, _, μ, this, E, H', .r _ _ (.int _ _), by simp, fun _ _ => rfl, fun b hb => hμ b (by simpa using hb)⟩
    | sl0 _ _ _ ad hl hcnt =>
      have hv0 : vs = [] := List.eq_nil_of_length_eq_zero (by rw [hvl]; simp)
      subst hv0
      have := same (base := ad) (dLen := 0) (dCap := 0) (n := 0) hlen hcells (by simp)
      have hset : h.set b (.rows sz (setRange els k (xs.take 0))) = h := by
        rw [List.take_zero, setRange_nil]
        apply List.ext_getElem?
        intro j
        rw [List.getElem?_set]
        split
        · rename_i hj; subst hj; rw [hb]; simp [(List.getElem?_eq_some_iff.1 hb).1]
        · rfl
      rw [hset]
      simpa using this
    | slD _ _ _ _ _ _ hdd => cases dead_blk hb hdd
  · rename_i xs b k f sz' ag len he
    split at hr <;> try cases hr
    rename_i s0 els sz3 hb hst
    split at hr <;> try cases hr
    rename_i cs hel
    simp only at hr
    split at hr <;> cases hr
    rename_i hc
    obtain ⟨rfl, rfl, hle⟩ := hc
    obtain ⟨hok, vs, hcs, hvl, hlen, hcells⟩ := src_prefix (P := P) (n := min xs.length len) H hx hsz hst he (Nat.min_le_left _ _)
    have htake : xs.take len = xs.take (min xs.length len) := by
      rcases Nat.le_total xs.length len with hq | hq
      · rw [Nat.min_eq_left hq, List.take_of_length_le hq, List.take_of_length_le (Nat.le_refl _)]
      · rw [Nat.min_eq_right hq]
    have hyl : (xs.take len).length = min xs.length len := by rw [List.length_take, Nat.min_comm]
    have hok2 : ∀ (i : Nat) (y : R), (xs.take len)[i]? = some y → y.cells.length = sz := fun i y hy => by
      rw [List.getElem?_take] at hy
      split at hy
      · exact hok i y hy
      · cases hy
    rw [← htake] at hcs
    have hfl : ((xs.take len).flatMap R.cells).length ≤ len * sz := by
      rw [(flat_spec hok2).1]
      exact Nat.mul_le_mul_right _ (by omega)
    cases hd with
    | isl _ _ _ _ _ _ s B lo cap hl hm hn =>
      obtain ⟨hlive, hs0⟩ := live_blk hb hl
      have hs0 : s0 = s := hs0
      subst hs0
      have hok1 := (H.rel b _ B lo hb hlive hm).cs.1
      have hcl : cs.length = s0 := hok1 k _ hel
      have hfs : f + ((xs.take len).flatMap R.cells).length ≤ s0 := by omega
      have hflat := flatR_set els k (.agg cs) (.agg (setRange cs f ((xs.take len).flatMap R.cells))) f ((xs.take len).flatMap R.cells) hok1 hel hfs rfl
      obtain ⟨hrun, E, H'⟩ := H.write (P := P) (blk' := .rows s0 (els.set k (.agg (setRange cs f ((xs.take len).flatMap R.cells))))) (p := k * s0 + f) hb hlive hm (fun j y hj => by
          rw [List.getElem?_set] at hj
          split at hj
          · split at hj <;> cases hj
            show (setRange cs f _).length = s0
            simp [setRange] at hfs ⊢; omega
          · exact hok1 j y hj) rfl (by simp [cntB])
        (by rw [cs_rows, hflat, map_setRange]; rfl)
        (by
          simp only [cs_rows, List.length_map]
          exact elem_range hok1 hel hfs) hcs
      rw [← Nat.add_assoc] at hrun
      have := run_copy_gen (P := P) (sT := sT) (ty := ty) (dCap := cap) hu hsi (base := some ⟨B, lo + k * s0 + f, none⟩) hlen hcells hrun
      rw [hyl]
      rw [← Nat.add_assoc] at E H'
      exact ⟨_, _, μ, this, E, H', .r _ _ (.int _ _), by simp, fun _ _ => rfl, fun b hb => hμ b (by simpa using hb)⟩
    | islD _ _ _ _ _ _ _ _ hdd => cases dead_blk hb hdd
    | isl0 _ _ _ _ _ ad cap =>
      have hv0 : vs = [] := List.eq_nil_of_length_eq_zero (by rw [hvl]; simp)
      subst hv0
      have := same (base := ad) (dLen := 0) (dCap := cap) (n := 0) hlen hcells (by simp)
      have hset : h.set b (.rows s0 (els.set k (.agg (setRange cs f ((xs.take 0).flatMap R.cells))))) = h := by
        rw [List.take_zero, List.flatMap_nil, setRange_nil]
        have he : els.set k (.agg cs) = els := by
          apply List.ext_getElem?
          intro j
          rw [List.getElem?_set]
          split
          · rename_i hj; subst hj; rw [hel]; simp [(List.getElem?_eq_some_iff.1 hel).1]
          · rfl
        rw [he]
        apply List.ext_getElem?
        intro j
        rw [List.getElem?_set]
        split
        · rename_i hj; subst hj; rw [hb]; simp [(List.getElem?_eq_some_iff.1 hb).1]
        · rfl
      rw [hset]
      simpa using this
  · cases hr

theorem copy_op (H : HRel F μ (lk h) w) (hf : FrRel (fbOf F μ (lk h)) μ (lk h) w fr a.tmps) {o : Oper} {sz : Nat} {xs : List AOprd} {v : V} (hμ : ∀ b, h.length ≤ b → μ b = none) (hc : chkCopy P o.op sz xs = true)
    {Γ : CallF} (hr : runC Γ (.copy sz) (xs.map (ev fr)) h = some (v, h')) : CGives P F μ h w a o h' v := by
  unfold chkCopy at hc
  split at hc <;> try cases hc
  rename_i args ats hop
  simp only [Bool.and_eq_true] at hc
  obtain ⟨⟨⟨hsz, hats⟩, hx⟩, hty⟩ := hc
  have hsz : sz ≠ 0 := by simpa using hsz
  have hats := arr_two (xs := ats) (by simpa using hats) 0
  split at hty <;> try cases hty
  rename_i e hu
  simp only [runC] at hr
  obtain ⟨x, y, hxy, hr2⟩ := twoC_inv hr
  obtain ⟨x', y', rfl, e1, e2⟩ := map2 hxy
  obtain ⟨z1, z2, rfl, k1, k2⟩ := arr2 hx
  have r1 := ev_rel hf k1
  have r2 := ev_rel hf k2
  rw [e1] at r1
  rw [e2] at r2
  obtain ⟨cv, w', μ', hrun, E, H', hv, h1, h2, h3⟩ := copy_sound (P := P) (sT := ats.getD 1 0) (ty := o.type) H hμ r1 r2 hsz hu hty hr2
  rw [← hats] at hrun
  exact ⟨.value cv, cv, w', μ', by simp [execOp, hop, resolve, invoke, builtin, hrun], .inl rfl, E, H', hv, h1, h2, h3⟩

end
end Go.PV
