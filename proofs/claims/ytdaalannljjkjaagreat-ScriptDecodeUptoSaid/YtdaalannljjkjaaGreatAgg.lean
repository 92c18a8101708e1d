/- Parts of aggregates, slices of slices and strings, building. -/
import Derived.Test.YtdaalannljjkjaaGreatAddr
set_option linter.unusedVariables false
set_option linter.unusedSimpArgs false
namespace Go.PV
variable {P : Program}
section
variable {fb : Nat → Prop} {μ : Mu} {g : Lk} {w : World} {fr : List V} {a : Act}

theorem run_isAgg {t : TypeId} {d : TypeDesc} (hu : P.underlying t = some d) : (isAgg t).run P w = .ok d.isRow w := by
  unfold isAgg
  rw [Sem.run_bind, run_underlying hu w]
  cases d <;> rfl

theorem allR_map : ∀ {l : List V} {rs : List R}, allR l = some rs → l = rs.map V.r
  | [], rs, h => by simp [allR] at h; subst h; rfl
  | v :: t, rs, h => by
    cases v <;> simp [allR] at h
    split at h
    · rename_i l hl; simp at h; subst h; simp [allR_map hl]
    · cases h

theorem Ones.sub {n : Nat} {vs : List Value} (h : Ones n vs) {o m k : Nat} (hk : k = ((vs.drop o).take m).length) : Ones k ((vs.drop o).take m) :=
  ⟨hk, fun v hv => h.2 v (List.mem_of_mem_drop (List.mem_of_mem_take hv))⟩

theorem mkAgg_rel {l : List V} {vs : List Value} (hl : Ones l.length vs) (hr : ∀ (i : Nat) (c : V) (v : Value), l[i]? = some c → vs[i]? = some v → VRel fb μ g w c v) :
    VRel fb μ g w (mkAgg l) (.agg vs.toArray) := by
  unfold mkAgg
  split
  · rename_i rs hrs
    have := allR_map hrs
    subst this
    refine .r _ _ (.agg rs vs (by simpa using hl) fun i c v h1 h2 => ?_)
    have := hr i (.r c) v (by simp [h1]) h2
    cases this with | r _ _ h => exact h
  · exact .agg l vs hl hr

theorem extract_toArray (vs : List Value) (o n : Nat) : vs.toArray.extract o (o + n) = ((vs.drop o).take n).toArray := by
  apply Array.ext'
  simp [List.drop_take, Nat.add_sub_cancel_left]

theorem run_part {t : TypeId} {d : TypeDesc} {n : Nat} (hu : P.underlying t = some d) (hs : szIs P t n = true) (vs : List Value) (o : Nat) :
    (d.isRow = true → (part t vs.toArray o).run P w = .ok (.agg ((vs.drop o).take n).toArray) w) ∧
    (d.isRow = false → ∀ v, vs[o]? = some v → (part t vs.toArray o).run P w = .ok v w) := by
  obtain ⟨inf, hinf, hs⟩ := szIs_info hs
  constructor
  · intro h
    simp only [part, Sem.run_bind, run_isAgg hu, h, Result.andThen_ok, if_true, sizeOf, typeInfo, run_program, hinf, Sem.run_pure, hs]
    rw [extract_toArray]
  · intro h v hv
    simp [part, Sem.run_bind, run_isAgg hu, h, hv]

theorem partR_rel {t : TypeId} {d : TypeDesc} {ag : Bool} {n : Nat} (hu : P.underlying t = some d) (hd : d.isRow = ag) (hs : szIs P t n = true) {cs : List R} {vs : List Value} {o : Nat} {x : R}
    (hl : Ones cs.length vs) (hr : ∀ (i : Nat) (c : R) (v : Value), cs[i]? = some c → vs[i]? = some v → RRel fb w c v) (hp : partR ag n cs o = some x) :
    ∃ cv, (part t vs.toArray o).run P w = .ok cv w ∧ RRel fb w x cv := by
  obtain ⟨h1, h2⟩ := run_part (w := w) hu hs vs o
  unfold partR at hp
  cases ag with
  | true =>
    simp only at hp
    split at hp <;> cases hp
    refine ⟨_, h1 hd, .agg _ _ (hl.sub (by simp [hl.1])) fun i c v h3 h4 => ?_⟩
    rw [List.getElem?_take] at h3 h4
    split at h3 <;> try cases h3
    rename_i hi
    rw [if_pos hi] at h4
    exact hr (o + i) c v (by simpa using h3) (by simpa using h4)
  | false =>
    simp only at hp
    have hlt : o < vs.length := by have := hl.1; have := (List.getElem?_eq_some_iff.1 hp).1; omega
    have hv : vs[o]? = some vs[o] := List.getElem?_eq_getElem hlt
    exact ⟨_, h2 hd _ hv, hr o x _ hp hv⟩

theorem partV_rel {t : TypeId} {d : TypeDesc} {ag : Bool} {n : Nat} (hu : P.underlying t = some d) (hd : d.isRow = ag) (hs : szIs P t n = true) {cs : List V} {vs : List Value} {o : Nat} {x : V}
    (hl : Ones cs.length vs) (hr : ∀ (i : Nat) (c : V) (v : Value), cs[i]? = some c → vs[i]? = some v → VRel fb μ g w c v) (hp : partV ag n cs o = some x) :
    ∃ cv, (part t vs.toArray o).run P w = .ok cv w ∧ VRel fb μ g w x cv := by
  obtain ⟨h1, h2⟩ := run_part (w := w) hu hs vs o
  unfold partV at hp
  cases ag with
  | true =>
    simp only at hp
    split at hp <;> cases hp
    refine ⟨_, h1 hd, mkAgg_rel (hl.sub (by simp [hl.1])) fun i c v h3 h4 => ?_⟩
    rw [List.getElem?_take] at h3 h4
    split at h3 <;> try cases h3
    rename_i hi
    rw [if_pos hi] at h4
    exact hr (o + i) c v (by simpa using h3) (by simpa using h4)
  | false =>
    simp only at hp
    have hlt : o < vs.length := by have := hl.1; have := (List.getElem?_eq_some_iff.1 hp).1; omega
    have hv : vs[o]? = some vs[o] := List.getElem?_eq_getElem hlt
    exact ⟨_, h2 hd _ hv, hr o x _ hp hv⟩

theorem agg_inv {cs : List R} {v : Value} (h : RRel fb w (.agg cs) v) : ∃ vs : List Value, v = .agg vs.toArray ∧ Ones cs.length vs ∧ ∀ (i : Nat) (c : R) (v : Value), cs[i]? = some c → vs[i]? = some v → RRel fb w c v := by
  cases h with | agg _ vs hl hr => exact ⟨vs, rfl, hl, hr⟩
theorem aggV_inv {cs : List V} {v : Value} (h : VRel fb μ g w (.agg cs) v) : ∃ vs : List Value, v = .agg vs.toArray ∧ Ones cs.length vs ∧ ∀ (i : Nat) (c : V) (v : Value), cs[i]? = some c → vs[i]? = some v → VRel fb μ g w c v := by
  cases h with | agg _ vs hl hr => exact ⟨vs, rfl, hl, hr⟩
theorem VRel.r_inv {x : R} {v : Value} (h : VRel fb μ g w (.r x) v) : RRel fb w x v := by cases h; assumption

theorem opR_some {x : Option R} {v : V} (h : opR x = some v) : ∃ r, x = some r ∧ v = .r r := by
  cases x with
  | none => cases h
  | some r => simp [opR] at h; exact ⟨r, rfl, h.symm⟩

theorem pure_fldv (hf : FrRel fb μ g w fr a.tmps) {ag : Bool} {n off : Nat} {o : Oper} {xs : List AOprd} {v : V} (hc : chkP P o.op (.fldv ag n off) xs = true) (hr : runP (.fldv ag n off) (xs.map (ev fr)) = some v) : Gives P fb μ g w a o v := by
  unfold chkP at hc
  simp only at hc
  split at hc
  · rename_i t x f hop
    simp only [Bool.and_eq_true] at hc
    obtain ⟨hx, ht⟩ := hc
    obtain ⟨x', rfl, h1⟩ := chk1 hx
    have r1 := ev_rel hf h1
    obtain ⟨d, hd, hd'⟩ := run_under ht
    split at hd' <;> try cases hd'
    rename_i fs
    split at hd' <;> try cases hd'
    rename_i fd hfd
    simp only [Bool.and_eq_true] at hd'
    obtain ⟨⟨ho, hs⟩, hrow⟩ := hd'
    have ho : fd.offset = off := by simpa using ho
    obtain ⟨d2, hd2, hrow⟩ := run_under hrow
    have hrow : d2.isRow = ag := by simpa using hrow
    simp only [runP, List.map, one, fldvV] at hr
    generalize ev fr x' = vx at *
    have ex : ∀ (vs : List Value) (cv : Value), a.eval x = .agg vs.toArray → (part fd.type vs.toArray off).run P w = .ok cv w → (execOp a.eval o).run P w = .ok (.value cv) w := fun vs cv h1 h2 => by
      simp [execOp, hop, h1, Instr.field, run_underlying hd, hfd, asAgg, ho, h2]
    split at hr <;> try cases hr
    · obtain ⟨vs, he, hl, hr'⟩ := agg_inv r1.r_inv
      obtain ⟨r, hr2, rfl⟩ := opR_some hr
      obtain ⟨cv, h3, h4⟩ := partR_rel hd2 hrow hs hl hr' hr2
      exact ⟨cv, ex vs cv he h3, .r _ _ h4⟩
    · obtain ⟨vs, he, hl, hr'⟩ := aggV_inv r1
      obtain ⟨cv, h3, h4⟩ := partV_rel hd2 hrow hs hl hr' hr
      exact ⟨cv, ex vs cv he h3, h4⟩
  · cases hc

theorem pure_ixv (hf : FrRel fb μ g w fr a.tmps) {len : Nat} {ag : Bool} {sz : Nat} {o : Oper} {xs : List AOprd} {v : V} (hc : chkP P o.op (.ixv len ag sz) xs = true) (hr : runP (.ixv len ag sz) (xs.map (ev fr)) = some v) : Gives P fb μ g w a o v := by
  unfold chkP at hc
  simp only at hc
  split at hc
  · rename_i t x y hop
    simp only [Bool.and_eq_true] at hc
    obtain ⟨hx, ht⟩ := hc
    obtain ⟨x', y', rfl, h1, h2⟩ := chk2 hx
    have r1 := ev_rel hf h1
    have r2 := ev_rel hf h2
    obtain ⟨d, hd, hd'⟩ := run_under ht
    split at hd' <;> try cases hd'
    rename_i n e
    simp only [Bool.and_eq_true] at hd'
    obtain ⟨⟨hn, hs⟩, hrow⟩ := hd'
    have hn : n = len := by simpa using hn
    subst hn
    obtain ⟨d2, hd2, hrow⟩ := run_under hrow
    have hrow : d2.isRow = ag := by simpa using hrow
    obtain ⟨inf, hinf, hsz⟩ := szIs_info hs
    simp only [runP, List.map, two, ixvV] at hr
    generalize ev fr x' = vx at *
    generalize ev fr y' = vy at *
    split at hr <;> try cases hr
    rename_i kk j
    have e2 := r2.int_inv
    have ex : ∀ (vs : List Value) (cv : Value), a.eval x = .agg vs.toArray → 0 ≤ j → j < n → (part e vs.toArray (j.toNat * sz)).run P w = .ok cv w → (execOp a.eval o).run P w = .ok (.value cv) w := fun vs cv h1 h0 hn h2 => by
      simp [execOp, hop, h1, e2, Instr.index, asIntOf, run_underlying hd, h0, hn, sizeOf, typeInfo, hinf, hsz, h2]
    split at hr <;> try cases hr
    · split at hr <;> try cases hr
      rename_i hj
      obtain ⟨vs, he, hl, hr'⟩ := agg_inv r1.r_inv
      obtain ⟨r, hr2, rfl⟩ := opR_some hr
      obtain ⟨cv, h3, h4⟩ := partR_rel hd2 hrow hs hl hr' hr2
      exact ⟨cv, ex vs cv he hj.1 hj.2 h3, .r _ _ h4⟩
    · split at hr <;> try cases hr
      rename_i hj
      obtain ⟨vs, he, hl, hr'⟩ := aggV_inv r1
      obtain ⟨cv, h3, h4⟩ := partV_rel hd2 hrow hs hl hr' hr
      exact ⟨cv, ex vs cv he hj.1 hj.2 h3, h4⟩
  · cases hc

theorem pure_ixstr (hf : FrRel fb μ g w fr a.tmps) {o : Oper} {xs : List AOprd} {v : V} (hc : chkP P o.op .ixstr xs = true) (hr : runP .ixstr (xs.map (ev fr)) = some v) : Gives P fb μ g w a o v := by
  unfold chkP at hc
  simp only at hc
  split at hc
  · rename_i t x y hop
    simp only [Bool.and_eq_true] at hc
    obtain ⟨hx, ht⟩ := hc
    obtain ⟨x', y', rfl, h1, h2⟩ := chk2 hx
    have r1 := ev_rel hf h1
    have r2 := ev_rel hf h2
    obtain ⟨d, hd, hd'⟩ := run_under ht
    have hd : P.underlying t = some .string := by cases d <;> simp at hd' <;> exact hd
    simp only [runP, List.map, two, ixstrV] at hr
    generalize ev fr x' = vx at *
    generalize ev fr y' = vy at *
    split at hr <;> try cases hr
    rename_i kk j
    have e2 := r2.int_inv
    split at hr <;> try cases hr
    rename_i s
    have e1 := r1.str_inv
    split at hr <;> try cases hr
    rename_i h0
    split at hr <;> cases hr
    rename_i c hcc
    have hlt := (List.getElem?_eq_some_iff.1 hcc).1
    have hb : (⟨s.toArray⟩ : ByteArray)[j.toNat]? = some c := by
      have hlt' : j.toNat < (⟨s.toArray⟩ : ByteArray).size := by simpa [ByteArray.size] using hlt
      rw [getElem?_pos (⟨s.toArray⟩ : ByteArray) j.toNat hlt']
      have : (⟨s.toArray⟩ : ByteArray)[j.toNat] = s[j.toNat] := rfl
      rw [this, ← List.getElem?_eq_getElem hlt, hcc]
    exact ⟨.int .u8 c.toNat, by simp [execOp, hop, e1, e2, Instr.index, asIntOf, run_underlying hd, h0, hb], .r _ _ (.int _ _)⟩
  · cases hc

theorem pure_ext (hf : FrRel fb μ g w fr a.tmps) {i : Nat} {o : Oper} {xs : List AOprd} {v : V} (hc : chkP P o.op (.ext i) xs = true) (hr : runP (.ext i) (xs.map (ev fr)) = some v) : Gives P fb μ g w a o v := by
  unfold chkP at hc
  simp only at hc
  split at hc
  · rename_i x j hop
    simp only [Bool.and_eq_true, beq_iff_eq] at hc
    obtain ⟨rfl, hx⟩ := hc
    obtain ⟨x', rfl, h1⟩ := chk1 hx
    have r1 := ev_rel hf h1
    simp only [runP, List.map, one, extV] at hr
    generalize ev fr x' = vx at *
    split at hr <;> try cases hr
    rename_i cs
    generalize he : a.eval x = u at r1
    cases r1 with
    | tup _ vs hl hr' =>
      have hlt := (List.getElem?_eq_some_iff.1 hr).1
      have hv : vs[i]? = some vs[i] := List.getElem?_eq_getElem (by omega)
      exact ⟨vs[i], by simp [execOp, hop, he, Instr.extract, hv], hr' i v _ hr hv⟩
  · cases hc

theorem pure_mkif (hf : FrRel fb μ g w fr a.tmps) {t : Nat} {o : Oper} {xs : List AOprd} {v : V} (hc : chkP P o.op (.mkif t) xs = true) (hr : runP (.mkif t) (xs.map (ev fr)) = some v) : Gives P fb μ g w a o v := by
  unfold chkP at hc
  simp only at hc
  split at hc
  · rename_i t' x hop
    simp only [Bool.and_eq_true, beq_iff_eq] at hc
    obtain ⟨⟨rfl, hx⟩, ht⟩ := hc
    obtain ⟨x', rfl, h1⟩ := chk1 hx
    have r1 := ev_rel hf h1
    obtain ⟨d, hd, hd'⟩ := run_under ht
    simp only [runP, List.map, one, mkifV] at hr
    generalize ev fr x' = vx at *
    refine ⟨.iface t (a.eval x), ?_, ?_⟩
    · simp only [execOp, hop, Instr.makeInterface]
      cases d <;> simp at hd' <;> simp [run_underlying hd]
    · split at hr <;> cases hr
      · exact .r _ _ (.iface _ _ _ r1.r_inv)
      · exact .iface _ _ _ r1
  · cases hc
end
end Go.PV
