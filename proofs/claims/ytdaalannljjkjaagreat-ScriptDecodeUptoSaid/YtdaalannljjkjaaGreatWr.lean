/- Writing cells of live blocks. -/
import Derived.Test.YtdaalannljjkjaaGreatLdOp
import Derived.Laws.IdiomCopy
set_option linter.unusedVariables false
set_option linter.unusedSimpArgs false
namespace Go.PV
variable {P : Program}

theorem setCells_facts (b : Nat) : ∀ (vs : List Value) (o : Nat) (w : World), (w.setCells b o vs).os = w.os ∧ (w.setCells b o vs).tape = w.tape ∧ (w.setCells b o vs).output = w.output ∧
    (w.setCells b o vs).heap.size = w.heap.size ∧ (∀ B, B ≠ b → (w.setCells b o vs).heap[B]? = w.heap[B]?) ∧
    (∀ (arr : Array Value) (e : TypeId) (fr : Nat × Nat), w.heap[b]? = some (Obj.cells arr e fr) → ∃ arr' : Array Value, (w.setCells b o vs).heap[b]? = some (Obj.cells arr' e fr) ∧ arr'.size = arr.size)
  | [], o, w => ⟨rfl, rfl, rfl, rfl, fun _ _ => rfl, fun arr e fr h => ⟨arr, h, rfl⟩⟩
  | v :: vs, o, w => by
    obtain ⟨h1, h2, h3, h4, h5, h6⟩ := setCells_facts b vs (o + 1) (w.setCell ⟨b, o, none⟩ v)
    refine ⟨h1, h2, h3, h4.trans (by simp [World.setCell]), fun B hB => (h5 B hB).trans ?_, fun arr e fr h => ?_⟩
    · simp [World.setCell, Array.getElem?_modify, Ne.symm hB]
    · obtain ⟨arr', k1, k2⟩ := h6 (arr.setIfInBounds o v) e fr (by simp [World.setCell, Array.getElem?_modify, h])
      exact ⟨arr', k1, by rw [k2]; simp⟩

section
variable {F : Nat → Prop} {μ : Mu} {h h' : Heap} {w w' : World} {fr : List V} {a : Act}

/-- The cells of a live block: they are there, and are not frozen. -/
theorem HRel.cellAt (H : HRel F μ (lk h) w) {b B lo : Nat} {blk : Blk} (hb : h[b]? = some blk) (hl : blk.live = true) (hm : μ b = some (B, lo)) {j : Nat} {c : V} (hj : blk.cs[j]? = some c) :
    ∃ v, cellIs w ⟨B, lo + j, none⟩ v ∧ VRel (fbOf F μ (lk h)) μ (lk h) w c v ∧ w.frozen? ⟨B, lo + j, none⟩ = false := by
  obtain ⟨v, h1, h2⟩ := (H.rel b blk B lo hb hl hm).cs.2 j c hj
  refine ⟨v, h1, h2, ?_⟩
  obtain ⟨arr, e, fr, hB, hfr⟩ := H.cells b blk B lo hb hl hm
  have hlt : lo + j < arr.size := by
    have := h1.1
    simp [World.cell?, hB] at this
    exact (Array.getElem?_eq_some_iff.1 this).1
  have := hfr (lo + j) hlt
  simp [World.frozen?, hB]
  omega

theorem HRel.write (H : HRel F μ (lk h) w) {b B lo : Nat} {blk blk' : Blk} (hb : h[b]? = some blk) (hl : blk.live = true) (hm : μ b = some (B, lo))
    (ok : blk'.ok) (hsz : blk'.sz = blk.sz) (hcnt : cntB blk' ≤ cntB blk) {p : Nat} {xs : List V} {vs : List Value} (hcs : blk'.cs = setRange blk.cs p xs) (hp : p + xs.length ≤ blk.cs.length)
    (hx : CsRel (fbOf F μ (lk h)) μ (lk h) w xs vs) :
    (storeCells ⟨B, lo + p, none⟩ vs).run P w = .ok () (w.setCells B (lo + p) vs) ∧
    Evo All F μ (lk h) w μ (lk (h.set b blk')) (w.setCells B (lo + p) vs) ∧ HRel F μ (lk (h.set b blk')) (w.setCells B (lo + p) vs) := by
  have hvl := hx.1.1
  have there : ∀ j, j < vs.length → ∃ v, cellIs w ⟨B, lo + p + j, none⟩ v ∧ w.frozen? ⟨B, lo + p + j, none⟩ = false := fun j hj => by
    have hlt : p + j < blk.cs.length := by omega
    obtain ⟨v, k1, k2, k3⟩ := H.cellAt hb hl hm (List.getElem?_eq_getElem hlt)
    rw [← Nat.add_assoc] at k1 k3
    exact ⟨v, k1, k3⟩
  have hrun := run_storeCells_cells (P := P) B (lo + p) vs 0 w (fun j hj => by
      obtain ⟨v, k1, _⟩ := there j hj
      simp [k1.1]) (fun j hj => by
      obtain ⟨v, _, k2⟩ := there j hj
      simpa using k2) hx.1.2
  obtain ⟨f1, f2, f3, f4, f5, f6⟩ := setCells_facts B vs (lo + p) w
  have hbl : b < h.length := (List.getElem?_eq_some_iff.1 hb).1
  have hlk : lk (h.set b blk') = fun b' => if b' = b then some blk' else lk h b' := by funext b'; exact lk_set hbl b'
  refine ⟨by simpa using hrun, ?_⟩
  rw [hlk]
  refine H.upd hb hl hm f1 f2 f3 f4 f5 f6 ok.live hsz hcnt fun {fb μ2 g2} hv hr => .of_cs ok fun j c hj => ?_
  rw [hcs] at hj
  by_cases hin : p ≤ j ∧ j < p + xs.length
  · obtain ⟨q, rfl⟩ : ∃ q, j = p + q := ⟨j - p, by omega⟩
    have hq : q < vs.length := by omega
    have hc : xs[q]? = some c := by
      unfold setRange at hj
      rw [List.getElem?_append_left (by simp; omega), List.getElem?_append_right (by simp; omega), List.length_take] at hj
      rw [← hj]; congr 1; omega
    have := World.cell?_setCells_in B vs (lo + p) w (fun i hi => by
      obtain ⟨v, k1, _⟩ := there i hi
      simp [k1.1]) q hq
    refine ⟨vs[q], ⟨by rw [← Nat.add_assoc]; exact this, hx.1.2 _ (List.getElem_mem _)⟩, hv (hx.2 q c _ hc (List.getElem?_eq_getElem hq))⟩
  · have hc : blk.cs[j]? = some c := by
      unfold setRange at hj
      by_cases hj1 : j < p
      · rw [List.getElem?_append_left (by simp; omega), List.getElem?_append_left (by simp; omega), List.getElem?_take, if_pos hj1] at hj
        exact hj
      · rw [List.getElem?_append_right (by simp; omega), List.getElem?_drop] at hj
        rw [← hj]; congr 1; simp; omega
    obtain ⟨v, k1, k2, _⟩ := H.cellAt hb hl hm hc
    refine ⟨v, ⟨?_, k1.2⟩, hv k2⟩
    rw [World.cell?_setCells_out B vs (lo + p) w ⟨B, lo + j, none⟩ (fun _ _ => by simp; omega)]
    exact k1.1

/-- What an operation of the chain must come to. -/
def CGives (P : Program) (F : Nat → Prop) (μ : Mu) (h : Heap) (w : World) (a : Act) (o : Oper) (h' : Heap) (v : V) : Prop :=
  ∃ nx cv w' μ', (execOp a.eval o).run P w = .ok nx w' ∧ (nx = .value cv ∨ (nx = .skip ∧ cv = undef)) ∧ Evo All F μ (lk h) w μ' (lk h') w' ∧ HRel F μ' (lk h') w' ∧
    VRel (fbOf F μ' (lk h')) μ' (lk h') w' v cv ∧ h.length ≤ h'.length ∧ (∀ b, b < h.length → μ' b = μ b) ∧ (∀ b, h'.length ≤ b → μ' b = none)

theorem flatR_set {sz : Nat} : ∀ (l : List R) (i : Nat) (x x' : R) (f : Nat) (xs : List R), (∀ (k : Nat) (y : R), l[k]? = some y → y.cells.length = sz) → l[i]? = some x → f + xs.length ≤ sz → x'.cells = setRange x.cells f xs →
    (l.set i x').flatMap R.cells = setRange (l.flatMap R.cells) (i * sz + f) xs
  | [], i, x, x', f, xs, _, hi, _, _ => by simp at hi
  | y :: l, 0, x, x', f, xs, h, hi, hf, hx => by
    simp at hi; subst hi
    have hy := h 0 y rfl
    simp only [List.set_cons_zero, List.flatMap_cons, hx, setRange, Nat.zero_mul, Nat.zero_add]
    rw [List.take_append_of_le_length (by omega), List.drop_append_of_le_length (by omega)]
    simp
  | y :: l, i + 1, x, x', f, xs, h, hi, hf, hx => by
    have hy := h 0 y rfl
    have ih := flatR_set l i x x' f xs (fun k z hz => h (k + 1) z (by simpa using hz)) (by simpa using hi) hf hx
    simp only [List.set_cons_succ, List.flatMap_cons, ih, setRange]
    rw [show (i + 1) * sz + f = y.cells.length + (i * sz + f) by rw [hy, Nat.add_mul]; omega, List.take_length_add_append, Nat.add_assoc y.cells.length, List.drop_length_add_append]
    simp

theorem setEl_spec {el el' : R} {f : Nat} {xs : List R} (hx : ∀ c ∈ xs, c.cells = [c]) (h : setEl el f xs = some el') : f + xs.length ≤ el.cells.length ∧ el'.cells.length = el.cells.length ∧ (el'.cells = setRange el.cells f xs) := by
  unfold setEl at h
  split at h
  · rename_i cs
    split at h <;> cases h
    rename_i hle
    exact ⟨hle, by simp [R.cells, setRange]; omega, rfl⟩
  · rename_i hna
    split at h <;> cases h
    have h1 : el.cells = [el] := by cases el <;> first | rfl | exact absurd rfl (hna _)
    have h2 := hx el' (by simp)
    rw [h1, h2]
    simp [setRange]

theorem cell_scal {fb : Nat → Prop} {g : Lk} {xs : List R} {vs : List Value} (h : CsRel fb μ g w (xs.map V.r) vs) : ∀ c ∈ xs, c.cells = [c] := by
  intro c hc
  obtain ⟨i, hi, rfl⟩ := List.getElem_of_mem hc
  have hl := h.1.1
  have hv : vs[i]? = some (vs[i]'(by simp at hl; omega)) := List.getElem?_eq_getElem _
  have r := (h.2 i (.r xs[i]) _ (by simp) hv).r_inv
  have h1 := h.1.2 _ (List.mem_of_getElem? hv)
  generalize vs[i]'(by simp at hl; omega) = v at *
  cases hq : xs[i] with
  | agg cs => rw [hq] at r; cases r; cases h1
  | _ => rfl

theorem cs_rows (sz : Nat) (els : List R) : (Blk.rows sz els).cs = (els.flatMap R.cells).map V.r := rfl

theorem map_setRange {α β : Type} (f : α → β) (l : List α) (o : Nat) (xs : List α) : (setRange l o xs).map f = setRange (l.map f) o (xs.map f) := by
  simp [setRange, List.map_take, List.map_drop]

theorem elem_range {sz k : Nat} {els : List R} {el : R} (ok : ∀ (k : Nat) (x : R), els[k]? = some x → x.cells.length = sz) (hk : els[k]? = some el) {f n : Nat} (hf : f + n ≤ sz) : k * sz + f + n ≤ (els.flatMap R.cells).length := by
  rw [(flat_spec ok).1]
  have hk := (List.getElem?_eq_some_iff.1 hk).1
  have : (k + 1) * sz ≤ els.length * sz := Nat.mul_le_mul_right _ hk
  rw [Nat.add_mul] at this
  omega

/-- A store, as the heap sees it. -/
theorem storeH_spec {n b k f : Nat} {v : V} (hs : storeH h n v (.ptr b k f) = some h') : v.cells.length = n ∧ ∃ blk blk', h[b]? = some blk ∧ h' = h.set b blk' ∧ blk.live = true ∧
    (blk.ok → (∀ xs : List R, v.cells = xs.map V.r → ∀ c : R, c ∈ xs → c.cells = [c]) → blk'.ok ∧ blk'.sz = blk.sz ∧ cntB blk' ≤ cntB blk ∧ blk'.cs = setRange blk.cs (k * blk.sz + f) v.cells ∧ k * blk.sz + f + n ≤ blk.cs.length) := by
  unfold storeH at hs
  simp only at hs
  split at hs
  · cases hs
  · rename_i hn
    have hn : v.cells.length = n := Decidable.not_not.1 hn
    refine ⟨hn, ?_⟩
    split at hs <;> try cases hs
    · rename_i sz els hb
      split at hs <;> try cases hs
      rename_i el hel
      split at hs
      · rename_i xs hxs
        split at hs <;> cases hs
        rename_i el' hel'
        refine ⟨_, _, hb, rfl, rfl, fun ok hx => ?_⟩
        have hm := allR_map hxs
        obtain ⟨h1, h2, h3⟩ := setEl_spec (hx xs hm) hel'
        have hlen : el.cells.length = sz := ok k el hel
        have hxl : xs.length = n := by rw [← hn, hm]; simp
        refine ⟨fun j x hj => ?_, rfl, by simp [cntB], ?_, ?_⟩
        · rw [List.getElem?_set] at hj
          split at hj
          · split at hj <;> cases hj
            rw [h2, hlen]
          · exact ok j x hj
        · show ((els.set k el').flatMap R.cells).map V.r = _
          rw [flatR_set els k el el' f xs ok hel (by omega) h3, map_setRange, ← hm]; rfl
        · simp only [cs_rows, List.length_map]
          exact elem_range ok hel (by omega)
      · split at hs <;> try cases hs
        rename_i el2
        split at hs <;> cases hs
        rename_i hcond
        obtain ⟨rfl, hle⟩ := hcond
        have hee : el2 = el := by simpa using hel
        subst hee
        refine ⟨_, _, hb, rfl, rfl, fun ok hx => ?_⟩
        have hlen : el2.cells.length = sz := ok 0 el2 rfl
        refine ⟨trivial, rfl, ?_, ?_, ?_⟩
        · have h0 : (setRange (el2.cells.map V.r) f v.cells).length = sz := by simp [setRange]; omega
          simp only [cntB, h0, List.length_singleton]
          by_cases hz : sz = 0
          · subst hz; simp
          · rw [Nat.div_self (by omega)]; exact Nat.le_refl _
        · simp [Blk.cs]
        · simp [Blk.cs]; omega
    · rename_i sz cs hb
      split at hs <;> cases hs
      rename_i hle
      refine ⟨_, _, hb, rfl, rfl, fun ok hx => ⟨trivial, rfl, ?_, rfl, hle⟩⟩
      simp only [cntB]
      rw [show (setRange cs (k * sz + f) v.cells).length = cs.length by simp [setRange]; omega]
      exact Nat.le_refl _

theorem hlk_push {blk : Blk} : lk (h ++ [blk]) = setLk (lk h) h.length blk := by funext b; exact lk_push b
theorem hlk_set {b : Nat} {blk : Blk} (hb : b < h.length) : lk (h.set b blk) = setLk (lk h) b blk := by funext b'; exact lk_set hb b'

theorem store_op (H : HRel F μ (lk h) w) (hf : FrRel (fbOf F μ (lk h)) μ (lk h) w fr a.tmps) {o : Oper} {n : Nat} {xs : List AOprd} {v : V} (hμ : ∀ b, h.length ≤ b → μ b = none) (hc : chkStore P o.op n xs = true)
    {Γ : CallF} (hr : runC Γ (.store n) (xs.map (ev fr)) h = some (v, h')) : CGives P F μ h w a o h' v := by
  unfold chkStore at hc
  split at hc <;> try cases hc
  rename_i t x y hop
  simp only [Bool.and_eq_true] at hc
  obtain ⟨⟨hx, hs⟩, hn0⟩ := hc
  have hn0 : n ≠ 0 := by simpa using hn0
  obtain ⟨inf, hinf, hisz⟩ := szIs_info hs
  obtain ⟨x', y', rfl, k1, k2⟩ := chk2 hx
  have r1 := ev_rel hf k1
  have r2 := ev_rel hf k2
  simp only [runC, List.map, twoC, storeC] at hr
  generalize ev fr x' = vx at *
  generalize ev fr y' = vy at *
  split at hr <;> cases hr
  rename_i h2 hst
  obtain ⟨b, k, f, rfl⟩ : ∃ b k f, vx = .ptr b k f := by
    unfold storeH at hst
    split at hst <;> try cases hst
    exact ⟨_, _, _, rfl⟩
  obtain ⟨hlen, blk, blk', hb, rfl, hlive, hspec⟩ := storeH_spec hst
  generalize hpv : a.eval x = pv at r1
  have hcr := r2.cells_rel (by rw [hlen]; exact hn0)
  cases r1 with
  | ptr _ _ _ s B lo hl hm =>
    obtain ⟨_, hsz⟩ := live_blk hb hl
    subst hsz
    obtain ⟨q1, q2, q3, q4, q5⟩ := hspec (H.rel b blk B lo hb hlive hm).cs.1 (fun xs hxs => cell_scal (hxs ▸ hcr))
    obtain ⟨hrun, E, H'⟩ := H.write (P := P) hb hlive hm q1 q2 q3 q4 (by rw [hlen]; exact q5) hcr
    have hcsz : (a.eval y).cells.size = n := by have := hcr.1.1; rw [hlen] at this; simpa using this.symm
    refine ⟨.skip, undef, _, μ, ?_, .inr ⟨rfl, rfl⟩, E, H', ?_, by simp, fun _ _ => rfl, fun b hb => hμ b (by simpa using hb)⟩
    · have hrun := hrun
      simp only [← Nat.add_assoc] at hrun ⊢
      simp [execOp, hop, hpv, Instr.storeAt, Instr.sureAddr, storeVar, sizeOf, typeInfo, hinf, hisz, hcsz, hrun]
    · exact .tup [] [] rfl (by simp)
  | ptrD _ _ _ _ hd =>
    have := dead_blk hb hd
    subst this
    cases hlive

end
end Go.PV