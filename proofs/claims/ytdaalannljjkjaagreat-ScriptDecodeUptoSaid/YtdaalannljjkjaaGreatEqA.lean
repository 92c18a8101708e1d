/- Structs and arrays, compared. -/
import Derived.Test.YtdaalannljjkjaaGreatBld
set_option linter.unusedVariables false
set_option linter.unusedSimpArgs false
namespace Go.PV
variable {P : Program}
section
variable {fb : Nat → Prop} {μ : Mu} {g : Lk} {w : World} {fr : List V} {a : Act}

theorem eqCells_split : ∀ (k : Nat) {ks : List Bool} {as bs : List R} {e : Bool}, eqCells ks as bs = some e →
    ∃ e1 e2, eqCells (ks.take k) (as.take k) (bs.take k) = some e1 ∧ eqCells (ks.drop k) (as.drop k) (bs.drop k) = some e2 ∧ e = (e1 && e2)
  | 0, ks, as, bs, e, h => ⟨true, e, by simp [eqCells], by simpa using h, by simp⟩
  | k + 1, [], as, bs, e, h => by
    simp only [eqCells] at h
    split at h <;> try cases h
    split at h <;> cases h
    exact ⟨true, true, by simp [eqCells], by simp [eqCells], rfl⟩
  | k + 1, q :: ks, as, bs, e, h => by
    simp only [eqCells] at h
    split at h <;> try cases h
    split at h <;> try cases h
    split at h <;> try cases h
    rename_i c hc
    split at h <;> cases h
    rename_i c' hc'
    obtain ⟨e1, e2, h1, h2, h3⟩ := eqCells_split k hc'
    exact ⟨c && e1, e2, by simp [eqCells, hc, h1], by simpa using h2, by rw [h3, Bool.and_assoc]⟩

theorem eqCells_len : ∀ {ks : List Bool} {as bs : List R} {e : Bool}, eqCells ks as bs = some e → as.length = ks.length ∧ bs.length = ks.length
  | [], as, bs, e, h => by
    simp only [eqCells] at h
    split at h <;> try cases h
    split at h <;> cases h
    exact ⟨rfl, rfl⟩
  | q :: ks, as, bs, e, h => by
    simp only [eqCells] at h
    split at h <;> try cases h
    split at h <;> try cases h
    split at h <;> try cases h
    split at h <;> cases h
    rename_i c' hc'
    have := eqCells_len hc'
    simp [this]

/-- Cells without addresses, one by one. -/
def RsRel (fb : Nat → Prop) (w : World) (cs : List R) (vs : List Value) : Prop := cs.length = vs.length ∧ ∀ (i : Nat) (c : R) (v : Value), cs[i]? = some c → vs[i]? = some v → RRel fb w c v

theorem RsRel.sub {cs : List R} {vs : List Value} (h : RsRel fb w cs vs) (o n : Nat) : RsRel fb w ((cs.drop o).take n) ((vs.drop o).take n) :=
  ⟨by simp [h.1], fun i c v h1 h2 => h.2 (o + i) c v (sub_get h1) (sub_get h2)⟩

/-- The comparison of n cells of type t. -/
def EqRuns (P : Program) (w : World) (D : Nat) (t : TypeId) (d : TypeDesc) (vs us : List Value) (e : Bool) : Prop :=
  (d.isRow = true → (Op.equalIn D t (.agg vs.toArray) (.agg us.toArray)).run P w = .ok e w) ∧
  (d.isRow = false → ∀ v u, vs[0]? = some v → us[0]? = some u → (Op.equalIn D t v u).run P w = .ok e w)

theorem plainT_sz {d : Nat} {t : TypeId} {ks : List Bool} (h : plainT P d t ks = true) : szIs P t ks.length = true := by
  cases d with
  | zero => simp [plainT] at h
  | succ d => simp only [plainT, Bool.and_eq_true] at h; exact h.1

theorem cellsOf_sz {t : TypeId} {n : Nat} (h : szIs P t n = true) : P.cellsOf t = n := by
  obtain ⟨i, h1, h2⟩ := szIs_info h
  simp [Program.cellsOf, h1, h2]

/-- Two parts, compared. -/
theorem parts_eq {d D : Nat} {t : TypeId} {ks : List Bool} (hp : plainT P d t ks = true)
    (ih : ∀ (as bs : List R) (vs us : List Value) (e : Bool), RsRel fb w as vs → RsRel fb w bs us → eqCells ks as bs = some e → ∃ desc, P.underlying t = some desc ∧ EqRuns P w D t desc vs us e)
    {as bs : List R} {vs us : List Value} {o : Nat} {e : Bool} (h1 : RsRel fb w as vs) (h2 : RsRel fb w bs us) (he : eqCells ks ((as.drop o).take ks.length) ((bs.drop o).take ks.length) = some e) :
    ∃ x y, (part t vs.toArray o).run P w = .ok x w ∧ (part t us.toArray o).run P w = .ok y w ∧ (Op.equalIn D t x y).run P w = .ok e w := by
  obtain ⟨desc, hd, hr, hs⟩ := ih _ _ _ _ e (h1.sub o ks.length) (h2.sub o ks.length) he
  obtain ⟨p1, p2⟩ := run_part (w := w) hd (plainT_sz hp) vs o
  obtain ⟨q1, q2⟩ := run_part (w := w) hd (plainT_sz hp) us o
  cases hrow : desc.isRow with
  | true => exact ⟨_, _, p1 hrow, q1 hrow, hr hrow⟩
  | false =>
    obtain ⟨l1, l2⟩ := eqCells_len he
    have hpos : 0 < ks.length := by
      cases d with
      | zero => simp [plainT] at hp
      | succ d =>
        simp only [plainT, hd, Bool.and_eq_true] at hp
        have := hp.2
        cases desc <;> simp_all [TypeDesc.isRow]
    have b1 := (h1.sub o ks.length).1
    have b2 := (h2.sub o ks.length).1
    have g1 : ((vs.drop o).take ks.length)[0]? = some ((vs.drop o).take ks.length)[0] := List.getElem?_eq_getElem (by omega)
    have g2 : ((us.drop o).take ks.length)[0]? = some ((us.drop o).take ks.length)[0] := List.getElem?_eq_getElem (by omega)
    exact ⟨_, _, p2 hrow _ (by simp), q2 hrow _ (by simp), hs hrow _ _ g1 g2⟩

theorem fields_eq {d D : Nat} (ih : ∀ (t : TypeId) (ks : List Bool), plainT P d t ks = true → ∀ (as bs : List R) (vs us : List Value) (e : Bool), RsRel fb w as vs → RsRel fb w bs us → eqCells ks as bs = some e → ∃ desc, P.underlying t = some desc ∧ EqRuns P w D t desc vs us e)
    {as bs : List R} {vs us : List Value} (h1 : RsRel fb w as vs) (h2 : RsRel fb w bs us) :
    ∀ (fs : List Field) (o : Nat) (ks : List Bool) (e : Bool), fldK P (plainT P d) fs o ks = true → eqCells ks (as.drop o) (bs.drop o) = some e → (Op.eqFields D vs.toArray us.toArray fs).run P w = .ok e w
  | [], o, ks, e, hf, he => by
    have : ks = [] := by simpa [fldK] using hf
    subst this
    simp only [eqCells] at he
    split at he <;> try cases he
    split at he <;> cases he
    simp [Op.eqFields]
  | fd :: fs, o, ks, e, hf, he => by
    simp only [fldK, Bool.and_eq_true] at hf
    obtain ⟨⟨⟨ho, hname⟩, hp⟩, hrest⟩ := hf
    have ho : fd.offset = o := by simpa using ho
    have hname : fd.name ≠ "_" := by simpa using hname
    have hlen := cellsOf_sz (plainT_sz hp)
    obtain ⟨e1, e2, k1, k2, k3⟩ := eqCells_split (P.cellsOf fd.type) he
    obtain ⟨x, y, r1, r2, r3⟩ := parts_eq (D := D) hp (ih _ _ hp) h1 h2 (o := o) (by rw [← hlen]; exact k1)
    rw [List.drop_drop, List.drop_drop] at k2
    have := fields_eq ih h1 h2 fs (o + P.cellsOf fd.type) _ e2 hrest k2
    simp only [Op.eqFields, if_pos hname, Sem.run_bind, ho, r1, r2, r3, Result.andThen_ok]
    cases e1
    · simp [k3]
    · simp [k3, this]

theorem array_eq {d D : Nat} {elem : TypeId} (ih : ∀ (t : TypeId) (ks : List Bool), plainT P d t ks = true → ∀ (as bs : List R) (vs us : List Value) (e : Bool), RsRel fb w as vs → RsRel fb w bs us → eqCells ks as bs = some e → ∃ desc, P.underlying t = some desc ∧ EqRuns P w D t desc vs us e)
    {as bs : List R} {vs us : List Value} (h1 : RsRel fb w as vs) (h2 : RsRel fb w bs us) (m : Nat) (hm : P.cellsOf elem = m) :
    ∀ (n s : Nat) (ks : List Bool) (e : Bool), rowK (plainT P d elem) m n ks = true → eqCells ks (as.drop (s * m)) (bs.drop (s * m)) = some e →
      ∃ r : Option Bool × Unit, (forIn (List.range' s n) ((none, ()) : Option Bool × Unit) fun i r => do
        let a ← part elem vs.toArray (i * m)
        let b ← part elem us.toArray (i * m)
        let q ← Op.equalIn D elem a b
        if (!q) = true then pure (ForInStep.done (some false, ())) else pure (ForInStep.yield (none, ()))).run P w = .ok r w ∧ (match r.fst with | none => true | some b => b) = e
  | 0, s, ks, e, hf, he => by
    have : ks = [] := by simpa [rowK] using hf
    subst this
    simp only [eqCells] at he
    split at he <;> try cases he
    split at he <;> cases he
    exact ⟨(none, ()), by simp, rfl⟩
  | n + 1, s, ks, e, hf, he => by
    simp only [rowK, Bool.and_eq_true] at hf
    obtain ⟨hp, hrest⟩ := hf
    have hlen := cellsOf_sz (plainT_sz hp)
    rw [hm] at hlen
    obtain ⟨e1, e2, k1, k2, k3⟩ := eqCells_split m he
    obtain ⟨x, y, r1, r2, r3⟩ := parts_eq (D := D) hp (ih _ _ hp) h1 h2 (o := s * m) (by rw [← hlen]; exact k1)
    rw [List.drop_drop, List.drop_drop, show s * m + m = (s + 1) * m by rw [Nat.add_mul]; omega] at k2
    obtain ⟨r, hr1, hr2⟩ := array_eq ih h1 h2 m hm n (s + 1) _ e2 hrest k2
    simp only [List.range'_succ, List.forIn_cons, Sem.run_bind, r1, r2, r3, Result.andThen_ok]
    cases e1
    · exact ⟨(some false, ()), by simp, by simp [k3]⟩
    · exact ⟨r, by simpa using hr1, by simp [k3, hr2]⟩

theorem eqT_sound : ∀ (d : Nat) (t : TypeId) (ks : List Bool), plainT P d t ks = true → ∀ (D : Nat), d ≤ D → ∀ (as bs : List R) (vs us : List Value) (e : Bool), RsRel fb w as vs → RsRel fb w bs us → eqCells ks as bs = some e →
    ∃ desc, P.underlying t = some desc ∧ EqRuns P w D t desc vs us e
  | 0, t, ks, h, _, _, _, _, _, _, _, _, _, _ => by simp [plainT] at h
  | d + 1, t, ks, h, D, hD, as, bs, vs, us, e, h1, h2, he => by
    obtain ⟨D, rfl⟩ : ∃ D', D = D' + 1 := ⟨D - 1, by omega⟩
    have ih := fun t ks hp => eqT_sound d t ks hp D (by omega)
    simp only [plainT, Bool.and_eq_true] at h
    obtain ⟨hsz, h⟩ := h
    split at h
    · rename_i hu
      have : ks = [true] := by simpa using h
      subst this
      refine ⟨_, hu, by simp [TypeDesc.isRow], fun _ v u hv hu' => ?_⟩
      simp only [eqCells] at he
      split at he <;> try cases he
      split at he <;> try cases he
      split at he <;> try cases he
      rename_i x _ _ y _ _ c hc
      split at he <;> cases he
      rename_i c2 hc2
      split at hc2 <;> try cases hc2
      split at hc2 <;> cases hc2
      have r1 := h1.2 0 x v rfl hv
      have r2 := h2.2 0 y u rfl hu'
      simp only [eqCell] at hc
      split at hc <;> try cases hc
      split at hc <;> cases hc
      cases r1; cases r2
      simpa using run_equalIn_bool' w D t _ _ hu
    · rename_i k hu
      have : ks = [false] := by simpa using h
      subst this
      refine ⟨_, hu, by simp [TypeDesc.isRow], fun _ v u hv hu' => ?_⟩
      simp only [eqCells] at he
      split at he <;> try cases he
      split at he <;> try cases he
      split at he <;> try cases he
      rename_i x _ _ y _ _ c hc
      split at he <;> cases he
      rename_i c2 hc2
      split at hc2 <;> try cases hc2
      split at hc2 <;> cases hc2
      have r1 := h1.2 0 x v rfl hv
      have r2 := h2.2 0 y u rfl hu'
      simp only [eqCell] at hc
      split at hc <;> try cases hc
      split at hc <;> try cases hc
      split at hc <;> cases hc
      rename_i hkk
      subst hkk
      cases r1; cases r2
      simpa using run_equalIn_int w D t _ k _ _ hu
    · rename_i n elem hu
      refine ⟨_, hu, fun _ => ?_, by simp [TypeDesc.isRow]⟩
      simp only [Bool.and_eq_true] at h
      obtain ⟨hi, h⟩ := h
      obtain ⟨i, hi⟩ := Option.isSome_iff_exists.1 hi
      obtain ⟨r, hr1, hr2⟩ := array_eq (D := D) ih h1 h2 _ rfl n 0 ks e h (by simpa using he)
      have hn : P.cellsOf elem = i.size := by simp [Program.cellsOf, hi]
      rw [hn] at hr1
      simp only [Op.equalIn, Sem.run_bind, run_underlying hu, Result.andThen_ok, sizeOf, typeInfo, run_program, hi, Sem.run_pure, Std.Legacy.Range.forIn_eq_forIn_range', Std.Legacy.Range.size, Nat.sub_zero, Nat.add_sub_cancel, Nat.div_one]
      rw [hr1]
      obtain ⟨r, _⟩ := r
      cases r <;> simp at hr2 ⊢ <;> simp [hr2]
    · rename_i fs hu
      simp only [Bool.and_eq_true] at h
      refine ⟨_, hu, fun _ => ?_, by simp [TypeDesc.isRow]⟩
      have hfs : P.fieldsOf t = fs := by simp [Program.fieldsOf, hu]
      rw [run_equalIn_struct w D t _ _ (by rw [hfs]; exact hu) (by simpa using h.1), hfs]
      exact fields_eq ih h1 h2 _ 0 ks e h.2 (by simpa using he)
    · cases h

theorem RsRel.of_agg {cs : List R} {v : Value} (h : RRel fb w (.agg cs) v) : ∃ vs : List Value, v = .agg vs.toArray ∧ RsRel fb w cs vs := by
  cases h with | agg _ vs hl hr => exact ⟨vs, rfl, hl.1, hr⟩

theorem pure_eqa (hf : FrRel fb μ g w fr a.tmps) {neg : Bool} {ks : List Bool} {o : Oper} {xs : List AOprd} {v : V} (hc : chkP P o.op (.eqa neg ks) xs = true) (hr : runP (.eqa neg ks) (xs.map (ev fr)) = some v) : Gives P fb μ g w a o v := by
  unfold chkP at hc
  simp only at hc
  split at hc
  · rename_i b t x y ty hop
    simp only [Bool.and_eq_true] at hc
    obtain ⟨⟨⟨⟨hb, hx⟩, hp⟩, hg⟩, ht⟩ := hc
    have hg : P.eqGuardType P.depth t = false := by simpa using hg
    obtain ⟨x', y', rfl, hx1, hy1⟩ := chk2 hx
    have r1 := ev_rel hf hx1
    have r2 := ev_rel hf hy1
    simp only [runP, List.map, two, eqaV] at hr
    generalize ev fr x' = vx at *
    generalize ev fr y' = vy at *
    split at hr <;> try cases hr
    split at hr <;> try cases hr
    split at hr <;> cases hr
    rename_i as _ bs _ e he
    obtain ⟨vs, hvs, q1⟩ := RsRel.of_agg r1.r_inv
    obtain ⟨us, hus, q2⟩ := RsRel.of_agg r2.r_inv
    obtain ⟨desc, hd, hrow, _⟩ := eqT_sound (w := w) 20 t ks hp 10000 (by omega) as bs vs us e q1 q2 he
    obtain ⟨d2, hd2, hd3⟩ := run_under ht
    rw [hd] at hd2
    cases hd2
    have hrow := hrow (by cases desc <;> simp_all [TypeDesc.isRow])
    refine ⟨.bool (e != neg), ?_, .r _ _ (.bool _)⟩
    have hgd := fun op => run_eqGuard_agg (P := P) w op t x y vs.toArray us.toArray hg
    have h1 := run_eql_struct (P := P) w t vs.toArray us.toArray
    have h2 := run_neq_struct (P := P) w t vs.toArray us.toArray
    rw [hrow] at h1 h2
    cases b <;> simp at hb <;> subst hb
    · simp [execOp, hop, hvs, hus, hgd, h1]
    · simp [execOp, hop, hvs, hus, hgd, h2]
  · cases hc
end
end Go.PV
