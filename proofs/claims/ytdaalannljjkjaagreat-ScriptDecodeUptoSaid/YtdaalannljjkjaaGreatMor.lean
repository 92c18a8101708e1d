/- Strings' lengths, capacities, minima, closures, carries, nil slices, building, comparing structs. -/
import Derived.Test.YtdaalannljjkjaaGreatSlc2
import Derived.Laws.StructEq
set_option linter.unusedVariables false
set_option linter.unusedSimpArgs false
namespace Go.PV
variable {P : Program}
section
variable {fb : Nat → Prop} {μ : Mu} {g : Lk} {w : World} {fr : List V} {a : Act}

theorem chkNil {xs : List Operand} (h : chkOprds xs [] = true) : xs = [] := by cases xs with | nil => rfl | cons _ _ => simp [chkOprds] at h
theorem chkCons' {xs : List Operand} {y : AOprd} {ys : List AOprd} (h : chkOprds xs (y :: ys) = true) : ∃ x t, xs = x :: t ∧ chkOprd x y = true ∧ chkOprds t ys = true := by
  cases xs with
  | nil => simp [chkOprds] at h
  | cons x t => simp only [chkOprds, Bool.and_eq_true] at h; exact ⟨x, t, rfl, h.1, h.2⟩
theorem arr1 {args : Array Operand} {y : AOprd} (h : chkOprds args.toList [y] = true) : ∃ x, args = #[x] ∧ chkOprd x y = true := by
  obtain ⟨x, t, h1, h2, h3⟩ := chkCons' h
  have := chkNil h3
  subst this
  exact ⟨x, by apply Array.ext'; simpa using h1, h2⟩
theorem arr2 {args : Array Operand} {y y' : AOprd} (h : chkOprds args.toList [y, y'] = true) : ∃ x x', args = #[x, x'] ∧ chkOprd x y = true ∧ chkOprd x' y' = true := by
  obtain ⟨x, t, h1, h2, h3⟩ := chkCons' h
  obtain ⟨x', t', rfl, h4, h5⟩ := chkCons' h3
  have := chkNil h5
  subst this
  exact ⟨x, x', by apply Array.ext'; simpa using h1, h2, h4⟩
theorem arr3 {args : Array Operand} {y y' y'' : AOprd} (h : chkOprds args.toList [y, y', y''] = true) : ∃ x x' x'', args = #[x, x', x''] ∧ chkOprd x y = true ∧ chkOprd x' y' = true ∧ chkOprd x'' y'' = true := by
  obtain ⟨x, t, h1, h2, h3⟩ := chkCons' h
  obtain ⟨x', t', rfl, h4, h5⟩ := chkCons' h3
  obtain ⟨x'', t'', rfl, h6, h7⟩ := chkCons' h5
  have := chkNil h7
  subst this
  exact ⟨x, x', x'', by apply Array.ext'; simpa using h1, h2, h4, h6⟩

theorem one_inv {xs : List V} {f : V → Option V} {v : V} (h : one xs f = some v) : ∃ x, xs = [x] ∧ f x = some v := by
  cases xs with
  | nil => cases h
  | cons x t => cases t with
    | nil => exact ⟨x, rfl, h⟩
    | cons _ _ => cases h
theorem two_inv {xs : List V} {f : V → V → Option V} {v : V} (h : two xs f = some v) : ∃ x y, xs = [x, y] ∧ f x y = some v := by
  cases xs with
  | nil => cases h
  | cons x t => cases t with
    | nil => cases h
    | cons y t => cases t with
      | nil => exact ⟨x, y, rfl, h⟩
      | cons _ _ => cases h
theorem three_inv {xs : List V} {f : V → V → V → Option V} {v : V} (h : three xs f = some v) : ∃ x y z, xs = [x, y, z] ∧ f x y z = some v := by
  cases xs with
  | nil => cases h
  | cons x t =>
    obtain ⟨y, z, rfl, h'⟩ := two_inv h
    exact ⟨x, y, z, rfl, h'⟩
theorem map1 {ys : List AOprd} {x : V} (h : ys.map (ev fr) = [x]) : ∃ y, ys = [y] ∧ ev fr y = x := by
  cases ys with
  | nil => cases h
  | cons y t => cases t with
    | nil => simp at h; exact ⟨y, rfl, h⟩
    | cons _ _ => simp at h
theorem map2 {ys : List AOprd} {x x' : V} (h : ys.map (ev fr) = [x, x']) : ∃ y y', ys = [y, y'] ∧ ev fr y = x ∧ ev fr y' = x' := by
  cases ys with
  | nil => cases h
  | cons y t =>
    injection h with h1 h2
    obtain ⟨y', rfl, h'⟩ := map1 h2
    exact ⟨y, y', rfl, h1, h'⟩
theorem map3 {ys : List AOprd} {x x' x'' : V} (h : ys.map (ev fr) = [x, x', x'']) : ∃ y y' y'', ys = [y, y', y''] ∧ ev fr y = x ∧ ev fr y' = x' ∧ ev fr y'' = x'' := by
  cases ys with
  | nil => cases h
  | cons y t =>
    injection h with h1 h2
    obtain ⟨y', y'', rfl, h', h''⟩ := map2 h2
    exact ⟨y, y', y'', rfl, h1, h', h''⟩

theorem pure_lens (hf : FrRel fb μ g w fr a.tmps) {o : Oper} {xs : List AOprd} {v : V} (hc : chkP P o.op .lens xs = true) (hr : runP .lens (xs.map (ev fr)) = some v) : Gives P fb μ g w a o v := by
  unfold chkP at hc
  simp only at hc
  split at hc
  · rename_i args ats hop
    simp only [Bool.and_eq_true] at hc
    obtain ⟨ht, hx⟩ := hc
    split at ht <;> try cases ht
    rename_i t hat
    obtain ⟨d, hd, hd'⟩ := run_under ht
    split at hd' <;> try cases hd'
    obtain ⟨x, hm, hr⟩ := one_inv hr
    obtain ⟨y, rfl, rfl⟩ := map1 hm
    obtain ⟨z, rfl, hz⟩ := arr1 hx
    have r1 := ev_rel hf hz
    unfold lensP at hr
    split at hr <;> cases hr
    rename_i s he
    rw [he] at r1
    refine ⟨.int .i64 s.length, ?_, .r _ _ (.int _ _)⟩
    have hsz : (⟨s.toArray⟩ : ByteArray).size = s.length := by simp [ByteArray.size]
    simp [execOp, hop, resolve, invoke, builtin, Builtin.len_, hat, r1.str_inv, run_underlying hd, goInt, hsz]
  · cases hc

theorem pure_cap (hf : FrRel fb μ g w fr a.tmps) {o : Oper} {xs : List AOprd} {v : V} (hc : chkP P o.op .cap xs = true) (hr : runP .cap (xs.map (ev fr)) = some v) : Gives P fb μ g w a o v := by
  unfold chkP at hc
  simp only at hc
  split at hc
  · rename_i args ats hop
    simp only [Bool.and_eq_true] at hc
    obtain ⟨ht, hx⟩ := hc
    split at ht <;> try cases ht
    rename_i t hat
    obtain ⟨d, hd, hd'⟩ := run_under ht
    split at hd' <;> try cases hd'
    obtain ⟨x, hm, hr⟩ := one_inv hr
    obtain ⟨y, rfl, rfl⟩ := map1 hm
    obtain ⟨z, rfl, hz⟩ := arr1 hx
    have r1 := ev_rel hf hz
    unfold capV at hr
    split at hr <;> try cases hr
    rename_i sz k rs he
    rw [he] at r1
    have r2 := r1.r_inv
    generalize hxv : a.eval z = u at r2
    cases r2 with
    | sl _ _ _ ad cap B o' cv ha hcap hnone hnil hfull hnn hf' hsz hc' hr' =>
      have ex : (execOp a.eval o).run P w = .ok (.value (.int .i64 cap)) w := by simp [execOp, hop, resolve, invoke, builtin, Builtin.cap_, hat, hxv, run_underlying hd, goInt]
      cases k <;> simp only at hr <;> cases hr
      · have := hnone (hnil rfl).1
        subst this
        exact ⟨_, ex, .r _ _ (.int _ _)⟩
      · have := hfull rfl
        subst this
        exact ⟨_, ex, .r _ _ (.int _ _)⟩
  · cases hc

theorem pure_mn (hf : FrRel fb μ g w fr a.tmps) {o : Oper} {xs : List AOprd} {v : V} (hc : chkP P o.op .mn xs = true) (hr : runP .mn (xs.map (ev fr)) = some v) : Gives P fb μ g w a o v := by
  unfold chkP at hc
  simp only at hc
  split at hc
  · rename_i args ats hop
    obtain ⟨x, y, hm, hr⟩ := two_inv hr
    obtain ⟨x', y', rfl, rfl, rfl⟩ := map2 hm
    obtain ⟨z, z', rfl, hz, hz'⟩ := arr2 hc
    have r1 := ev_rel hf hz
    have r2 := ev_rel hf hz'
    unfold mnV at hr
    split at hr <;> try cases hr
    rename_i k m he
    split at hr <;> cases hr
    rename_i k' n he'
    rw [he] at r1
    rw [he'] at r2
    refine ⟨.int k (if n < m then n else m), ?_, .r _ _ (.int _ _)⟩
    simp [execOp, hop, resolve, invoke, builtin, Builtin.min_, Builtin.min2, r1.int_inv, r2.int_inv]
  · cases hc

theorem pure_mx (hf : FrRel fb μ g w fr a.tmps) {o : Oper} {xs : List AOprd} {v : V} (hc : chkP P o.op .mx xs = true) (hr : runP .mx (xs.map (ev fr)) = some v) : Gives P fb μ g w a o v := by
  unfold chkP at hc
  simp only at hc
  split at hc
  · rename_i args ats hop
    obtain ⟨x, y, hm, hr⟩ := two_inv hr
    obtain ⟨x', y', rfl, rfl, rfl⟩ := map2 hm
    obtain ⟨z, z', rfl, hz, hz'⟩ := arr2 hc
    have r1 := ev_rel hf hz
    have r2 := ev_rel hf hz'
    unfold mxV at hr
    split at hr <;> try cases hr
    rename_i k m he
    split at hr <;> cases hr
    rename_i k' n he'
    rw [he] at r1
    rw [he'] at r2
    refine ⟨.int k (if n > m then n else m), ?_, .r _ _ (.int _ _)⟩
    simp [execOp, hop, resolve, invoke, builtin, Builtin.max_, Builtin.max2, r1.int_inv, r2.int_inv]
  · cases hc

theorem pure_eqn (hf : FrRel fb μ g w fr a.tmps) {neg : Bool} {o : Oper} {xs : List AOprd} {v : V} (hc : chkP P o.op (.eqn neg) xs = true) (hr : runP (.eqn neg) (xs.map (ev fr)) = some v) : Gives P fb μ g w a o v := by
  unfold chkP at hc
  simp only at hc
  split at hc
  · rename_i b t x ty hop
    simp only [Bool.and_eq_true] at hc
    obtain ⟨⟨hb, hx⟩, ht⟩ := hc
    obtain ⟨d, hd, hd'⟩ := run_under ht
    obtain ⟨e, hd⟩ : ∃ e, P.underlying t = some (.slice e) := by cases d <;> simp at hd' <;> exact ⟨_, hd⟩
    obtain ⟨y, rfl, hy⟩ := chk1 hx
    have r1 := ev_rel hf hy
    simp only [runP, List.map, one, eqnV] at hr
    generalize ev fr y = vx at *
    have run : ∀ (q : Option Addr) (n c : Nat), (Op.equal t (.slice q n c) (.slice none 0 0)).run P w = .ok q.isNone w := fun q n c => by
      unfold Op.equal Op.maxDepth
      rw [show (10000 : Nat) = 9999 + 1 from rfl]
      unfold Op.equalIn
      rw [Sem.run_bind, run_underlying hd]
      cases q <;> rfl
    have fin : ∀ {q : Option Addr} {n c : Nat}, a.eval x = .slice q n c → Gives P fb μ g w a o (.r (.bool (q.isNone != neg))) := fun {q n c} hq => by
      refine ⟨.bool (q.isNone != neg), ?_, .r _ _ (.bool _)⟩
      have hcst : a.eval (.const (.slice none 0 0)) = .slice none 0 0 := rfl
      simp only [execOp, hop, hq, hcst, eqGuard_at_slice]
      have := run_eqOp (P := P) (w := w) (t := t) (u := .slice q n c) (v := .slice none 0 0) (neqs hb) rfl rfl (run q n c)
      simp [this]
    split at hr <;> cases hr
    rename_i b' hb'
    generalize hxv : a.eval x = u at r1
    unfold isNil at hb'
    split at hb'
    · rename_i sz k rs
      have r2 := r1.r_inv
      cases r2 with
      | sl _ _ _ ad cap B o' cv ha hcap hnone hnil hfull hnn hf' hsz hc' hr' =>
        have key : ad.isNone = b' := by
          cases k <;> simp only at hb'
          · cases hb'; rw [(hnil rfl).1]; rfl
          · cases rs <;> simp at hb'
            subst hb'; rw [ha (by simp)]; rfl
          · cases hb'
            cases ad with
            | none => exact absurd rfl (hnn rfl)
            | some _ => rfl
          · cases rs <;> simp at hb'
            subst hb'; rw [ha (by simp)]; rfl
        rw [← key]; exact fin hxv
    · rename_i sz' b k n
      split at hb' <;> cases hb'
      rename_i hn0
      cases r1 with
      | sl => exact fin (q := some _) hxv
      | sl0 => exact absurd rfl hn0
      | slD _ _ _ _ ad cap hd' hna hn =>
        cases ad with
        | none => exact absurd (by have := hna rfl; omega) hn0
        | some _ => exact fin (q := some _) hxv
    · cases hb'
  · cases hc

theorem pure_tas (hf : FrRel fb μ g w fr a.tmps) {t : Nat} {z : R} {o : Oper} {xs : List AOprd} {v : V} (hc : chkP P o.op (.tas t z) xs = true) (hr : runP (.tas t z) (xs.map (ev fr)) = some v) : Gives P fb μ g w a o v := by
  unfold chkP at hc
  simp only at hc
  split at hc
  · rename_i x xt t' hop
    simp only [Bool.and_eq_true, beq_iff_eq] at hc
    obtain ⟨⟨⟨rfl, hx⟩, ht⟩, hz⟩ := hc
    simp only [runP] at hr
    obtain ⟨x1, hx1, hr'⟩ := one_inv hr
    obtain ⟨y1, rfl, hy1⟩ := map1 hx1
    obtain ⟨y2, hy2, hy3⟩ := chk1 hx
    cases hy2
    have r1 := ev_rel hf hy3
    rw [hy1] at r1
    unfold tasV at hr'
    split at hr' <;> cases hr'
    rename_i t' x2
    have r2 := r1.r_inv
    generalize hxv : a.eval x = u at r2
    cases r2 with
    | iface _ _ v2 h2 =>
      split at hz <;> try cases hz
      rename_i inf hinf
      split at hz <;> try cases hz
      rename_i z0 hz0
      obtain ⟨d, hd, hni'⟩ := run_under ht
      have hni : ∀ ms, d ≠ .interface ms := fun ms hms => by subst hms; cases hni'
      by_cases htt : t = t'
      · subst htt
        refine ⟨.tuple #[v2, .bool true], ?_, ?_⟩
        · simp [execOp, hop, hxv, Instr.typeAssert, run_underlying hd]
        · rw [if_pos rfl]
          exact .tup _ [v2, .bool true] rfl fun i c v h1 h2' => by
            rcases i with _ | _ | i
            · simp at h1 h2'; subst h1 h2'; exact .r _ _ h2
            · simp at h1 h2'; subst h1 h2'; exact .r _ _ (.bool _)
            · simp at h1
      · refine ⟨.tuple #[z0, .bool false], ?_, ?_⟩
        · have htt' : t' ≠ t := fun h => htt h.symm
          simp [execOp, hop, hxv, Instr.typeAssert, run_underlying hd, zeroValue, typeInfo, hinf, hz0]
          cases d <;> simp [htt'] at hni ⊢
        · rw [if_neg htt]
          exact .tup _ [z0, .bool false] rfl fun i c v h1 h2' => by
            rcases i with _ | _ | i
            · simp at h1 h2'; subst h1 h2'; exact .r _ _ (chkConst_rel _ _ hz)
            · simp at h1 h2'; subst h1 h2'; exact .r _ _ (.bool _)
            · simp at h1
  · cases hc

theorem pure_mkfn (hf : FrRel fb μ g w fr a.tmps) {f n : Nat} {o : Oper} {xs : List AOprd} {v : V} (hc : chkP P o.op (.mkfn f n) xs = true) (hr : runP (.mkfn f n) (xs.map (ev fr)) = some v) : Gives P fb μ g w a o v := by
  unfold chkP at hc
  simp only at hc
  split at hc
  · rename_i f' fi ca hop
    simp only [Bool.and_eq_true, beq_iff_eq] at hc
    obtain ⟨⟨rfl, hn⟩, hx⟩ := hc
    obtain ⟨hl, hrel⟩ := evs_rel hf hx
    simp only [runP, mkfnV] at hr
    have run : (execOp a.eval o).run P w = .ok (.value (.func (.func f) (fi.toList.map a.eval).toArray (ca.toList.map a.eval).toArray)) w := by
      simp [execOp, hop, Instr.makeFunc]
      constructor <;> (apply Array.ext'; simp)
    refine ⟨_, run, ?_⟩
    split at hr
    · rename_i he
      cases hr
      rw [he] at hl
      have h1 : fi.toList.map a.eval = [] := by
        cases h : fi.toList with
        | nil => rfl
        | cons _ _ => rw [h] at hl; simp at hl
      have h2 : ca.toList.map a.eval = [] := by
        cases h : ca.toList with
        | nil => rfl
        | cons _ _ => rw [h] at hl; simp at hl
      rw [h1, h2]
      exact .r _ _ (.fn _)
    · cases hr
      have hsz : fi.toList.length = n := by simpa using hn
      simp only [List.map_append, List.length_append, List.length_map, Array.length_toList] at hl hsz
      refine .fn _ _ _ _ _ (by simp; omega) (by simp; omega) (fun i c v h1 h2 => ?_) (fun i c v h1 h2 => ?_)
      · rw [List.getElem?_take] at h1
        split at h1 <;> try cases h1
        refine hrel i c v h1 ?_
        rw [List.map_append, List.getElem?_append_left (by simp; omega)]
        exact h2
      · rw [List.getElem?_drop] at h1
        refine hrel (n + i) c v h1 ?_
        rw [List.map_append, List.getElem?_append_right (by simp; omega)]
        rwa [show n + i - (fi.toList.map a.eval).length = i by simp; omega]
  · cases hc
end
end Go.PV
