/- Values that are built out of parts. -/
import Derived.Test.YtdaalannljjkjaaGreatStep
import Derived.Laws.Tables
import Derived.Great.FillDense
set_option linter.unusedVariables false
set_option linter.unusedSimpArgs false
namespace Go.PV
variable {P : Program}
section
variable {fb : Nat → Prop} {μ : Mu} {g : Lk} {w : World} {fr : List V} {a : Act}

/-- Cells, one by one. -/
def CsRel (fb : Nat → Prop) (μ : Mu) (g : Lk) (w : World) (cs : List V) (vs : List Value) : Prop :=
  Ones cs.length vs ∧ ∀ (i : Nat) (c : V) (v : Value), cs[i]? = some c → vs[i]? = some v → VRel fb μ g w c v

theorem CsRel.one {x : V} {v : Value} (h : VRel fb μ g w x v) (h1 : v.oneCell' = true) : CsRel fb μ g w [x] [v] :=
  ⟨⟨rfl, by simpa using h1⟩, fun i c u h2 h3 => by
    cases i with
    | zero => simp at h2 h3; subst h2 h3; exact h
    | succ i => simp at h2⟩

theorem RRel.cells_rel {x : R} {v : Value} (h : RRel fb w x v) : CsRel fb μ g w (x.cells.map V.r) v.cells.toList := by
  cases h with
  | agg cs vs hl hr =>
    refine ⟨by simpa [R.cells, Value.cells] using hl, fun i c u h1 h2 => ?_⟩
    simp only [R.cells, List.getElem?_map] at h1
    cases hc : cs[i]? with
    | none => rw [hc] at h1; cases h1
    | some c' => rw [hc] at h1; cases h1; exact .r _ _ (hr i c' u hc (by simpa [Value.cells] using h2))
  | _ => exact CsRel.one (.r _ _ (by constructor <;> assumption)) rfl

theorem VRel.cells_rel {x : V} {v : Value} (h : VRel fb μ g w x v) (h0 : x.cells.length ≠ 0) : CsRel fb μ g w x.cells v.cells.toList := by
  cases h with
  | r x v h => exact h.cells_rel
  | agg cs vs hl hr => exact ⟨by simpa [V.cells, Value.cells] using hl, fun i c u h1 h2 => hr i c u h1 (by simpa [Value.cells] using h2)⟩
  | tup => exact absurd rfl h0
  | junk => exact absurd rfl h0
  | ptr b k f sz B lo hl hm => exact CsRel.one (.ptr b k f sz B lo hl hm) rfl
  | ptrD b k f a hd => exact CsRel.one (.ptrD b k f a hd) rfl
  | sl sz b k n B lo cap hl hm hn hroom hcnt => exact CsRel.one (.sl sz b k n B lo cap hl hm hn hroom hcnt) rfl
  | sl0 sz b k a hl hcnt => exact CsRel.one (.sl0 sz b k a hl hcnt) rfl
  | slD sz b k n a cap hd hna hn => exact CsRel.one (.slD sz b k n a cap hd hna hn) rfl
  | isl b k f sz ag n s B lo cap hl hm hn => exact CsRel.one (.isl b k f sz ag n s B lo cap hl hm hn) rfl
  | islD b k f sz ag n a cap hd hn => exact CsRel.one (.islD b k f sz ag n a cap hd hn) rfl
  | isl0 b k f sz ag a cap => exact CsRel.one (.isl0 b k f sz ag a cap) rfl
  | fn f a c va vc ha hc hra hrc => exact CsRel.one (.fn f a c va vc ha hc hra hrc) rfl
  | iface t x v h => exact CsRel.one (.iface t x v h) rfl

theorem CsRel.setRange {cs : List V} {vs : List Value} (h : CsRel fb μ g w cs vs) {xs : List V} {us : List Value} (k : CsRel fb μ g w xs us) {o : Nat} (ho : o + xs.length ≤ cs.length) :
    CsRel fb μ g w (setRange cs o xs) (vs.take o ++ us ++ vs.drop (o + us.length)) := by
  obtain ⟨⟨h1, h2⟩, h3⟩ := h
  obtain ⟨⟨k1, k2⟩, k3⟩ := k
  refine ⟨⟨by simp [PV.setRange]; omega, fun v hv => ?_⟩, fun i c v hc hv => ?_⟩
  · simp only [List.mem_append] at hv
    rcases hv with (hv | hv) | hv
    · exact h2 v (List.mem_of_mem_take hv)
    · exact k2 v hv
    · exact h2 v (List.mem_of_mem_drop hv)
  · unfold PV.setRange at hc
    by_cases hi : i < o
    · rw [List.getElem?_append_left (by simp; omega), List.getElem?_append_left (by simp; omega), List.getElem?_take, if_pos hi] at hc hv
      exact h3 i c v hc hv
    · by_cases hi2 : i < o + xs.length
      · rw [List.getElem?_append_left (by simp; omega), List.getElem?_append_right (by simp; omega)] at hc hv
        rw [List.length_take, show min o cs.length = o by omega] at hc
        rw [List.length_take, show min o vs.length = o by omega] at hv
        exact k3 _ c v hc hv
      · rw [List.getElem?_append_right (by simp; omega), List.getElem?_drop] at hc hv
        simp only [List.length_append, List.length_take] at hc hv
        refine h3 i c v ?_ ?_
        · rw [← hc]; congr 1; omega
        · rw [← hv]; congr 1; omega

theorem fill_step {off : Nat} {v : Value} {cells : Array Value} (h : off + v.cells.size ≤ cells.size) :
    (v.cells.zipIdx.foldl (fun cs (x : Value × Nat) => cs.setIfInBounds (off + x.2) x.1) cells).toList = cells.toList.take off ++ v.cells.toList ++ cells.toList.drop (off + v.cells.toList.length) := by
  obtain ⟨h1, h2⟩ := Great.foldl_set off v.cells.toList 0 cells
  have e : v.cells.zipIdx.foldl (fun cs (x : Value × Nat) => cs.setIfInBounds (off + x.2) x.1) cells = (v.cells.toList.zipIdx 0).foldl (fun cs (x : Value × Nat) => cs.setIfInBounds (off + x.2) x.1) cells := by
    rw [← Array.foldl_toList, Array.toList_zipIdx]
  rw [e]
  apply List.ext_getElem?
  intro k
  rw [Array.getElem?_toList, h2 k]
  by_cases hk : k < off
  · rw [if_neg (by omega), List.getElem?_append_left (by simp; omega), List.getElem?_append_left (by simp; omega), List.getElem?_take, if_pos hk, Array.getElem?_toList]
  · by_cases hk2 : k < off + v.cells.size
    · rw [if_pos (by simp; omega), List.getElem?_append_left (by simp; omega), List.getElem?_append_right (by simp; omega)]
      congr 1
      simp; omega
    · rw [if_neg (by simp; omega), List.getElem?_append_right (by simp; omega), List.getElem?_drop, Array.getElem?_toList]
      congr 1
      simp; omega

theorem fill_rel {place : Nat → Option (Nat × Nat)} : ∀ {ps : List (Nat × Value)} {parts : List (Nat × Nat)} {xs cs cs' : List V} {cells : Array Value},
    ps.map (fun p => place p.1) = parts.map some → (∀ p ∈ parts, p.2 ≠ 0) → xs.length = parts.length →
    (∀ (i : Nat) (x : V) (v : Value), xs[i]? = some x → (ps.map (·.2))[i]? = some v → VRel fb μ g w x v) → CsRel fb μ g w cs cells.toList → fill cs (parts.zip xs) = some cs' →
    ∃ cells', Instr.fill place cells ps = some cells' ∧ CsRel fb μ g w cs' cells'.toList
  | [], parts, xs, cs, cs', cells, hp, h0, hl, hr, hc, hf => by
    cases parts with
    | cons _ _ => simp at hp
    | nil => simp [fill] at hf; subst hf; exact ⟨cells, rfl, hc⟩
  | (i, v) :: ps, parts, xs, cs, cs', cells, hp, h0, hl, hr, hc, hf => by
    cases parts with
    | nil => simp at hp
    | cons p parts =>
      cases xs with
      | nil => simp at hl
      | cons x xs =>
        obtain ⟨off, n⟩ := p
        simp only [List.map_cons, List.cons.injEq] at hp
        simp only [List.zip_cons_cons, fill] at hf
        split at hf <;> try cases hf
        rename_i hle
        obtain ⟨hn, hle⟩ := hle
        have hrel := hr 0 x v (by simp) (by simp)
        have hxc := hrel.cells_rel (by rw [hn]; exact h0 (off, n) (by simp))
        have hsz : v.cells.size = n := by have := hxc.1.1; rw [hn] at this; simpa using this.symm
        have hcs := hc.1.1
        have hle' : off + v.cells.size ≤ cells.size := by simp at hcs; omega
        have hnew := hc.setRange hxc (o := off) (by omega)
        rw [← fill_step hle'] at hnew
        obtain ⟨cells', h1, h2⟩ := fill_rel (place := place) hp.2 (fun p hp => h0 p (by simp [hp])) (by simpa using hl)
          (fun i x v h1 h2 => hr (i + 1) x v (by simpa using h1) (by simpa using h2)) hnew hf
        refine ⟨cells', ?_, h2⟩
        unfold Instr.fill
        simp only [hp.1]
        rw [if_neg (by simp [hsz] at hle' ⊢; omega)]
        exact h1

theorem pure_bld (hf : FrRel fb μ g w fr a.tmps) {z : List R} {parts : List (Nat × Nat)} {o : Oper} {xs : List AOprd} {v : V} (hc : chkP P o.op (.bld z parts) xs = true) (hr : runP (.bld z parts) (xs.map (ev fr)) = some v) : Gives P fb μ g w a o v := by
  unfold chkP at hc
  simp only at hc
  split at hc
  · rename_i t ps hop
    simp only [Bool.and_eq_true] at hc
    obtain ⟨⟨⟨hx, hz⟩, h0⟩, hp⟩ := hc
    obtain ⟨hl, hrel⟩ := evs_rel hf hx
    simp only [runP, bldV] at hr
    split at hr <;> try cases hr
    rename_i hlen
    split at hr <;> cases hr
    rename_i cs' hfill
    split at hz <;> try cases hz
    rename_i inf hinf
    split at hz <;> try cases hz
    rename_i vs hzero
    have hzr := (chkConst_rel (fb := fb) (w := w) _ _ hz).cells_rel (μ := μ) (g := g)
    simp only [R.cells, Value.cells] at hzr
    have h0' : ∀ p ∈ parts, p.2 ≠ 0 := fun p hp => by simpa using List.all_eq_true.1 h0 p hp
    have fin : ∀ {place : Nat → Option (Nat × Nat)}, ps.toList.map (fun p => place p.1) = parts.map some →
        (∀ cells, Instr.fill place vs ((ps.map fun (i, x) => (i, a.eval x)).toList) = some cells → P.built t (ps.map fun (i, x) => (i, a.eval x)).toList = some cells) → Gives P fb μ g w a o (mkAgg cs') := fun {place} hpl hb => by
      have hps : ((ps.map fun (i, x) => (i, a.eval x)).toList.map fun p => place p.1) = parts.map some := by
        rw [← hpl, Array.toList_map, List.map_map]; rfl
      have hps2 : (ps.map fun (i, x) => (i, a.eval x)).toList.map (·.2) = (ps.toList.map (·.2)).map a.eval := by
        rw [Array.toList_map, List.map_map, List.map_map]; rfl
      obtain ⟨cells', h1, h2⟩ := fill_rel (place := place) hps h0' (by simpa using hlen.symm) (fun i x v h3 h4 => hrel i x v h3 (by rw [← hps2]; exact h4)) hzr hfill
      refine ⟨.agg cells', ?_, ?_⟩
      · simp [execOp, hop, run_build w t _ _ (hb _ h1)]
      · have := mkAgg_rel (fb := fb) (μ := μ) (g := g) (w := w) h2.1 h2.2
        simpa using this
    split at hp
    · rename_i fs hu
      split at hp <;> try cases hp
      rename_i places hm
      refine fin (place := (places.toArray[·]?)) (by simpa using hp) fun cells hcells => ?_
      unfold Program.built
      simp only [hinf, hu, hzero, hm]
      exact hcells
    · rename_i n e hu
      split at hp <;> try cases hp
      rename_i ie hie
      refine fin (place := fun i => some (i * ie.size, ie.size)) (by simpa using hp) fun cells hcells => ?_
      unfold Program.built
      simp only [hinf, hu, hzero, hie]
      exact hcells
    · cases hp
  · cases hc
end
end Go.PV
