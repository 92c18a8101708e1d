/- What comes in: the data that a statement speaks of, as the evaluator's values; what goes out. -/
import Derived.Test.YtdaalannljjkjaaGreatFin
import Derived.Test.YtdaalannljjkjaaGreatDraw5
import Derived.Test.YtdaalannljjkjaaGreatLim
import Derived.OpenShut
import Derived.ChangeSlices
set_option linter.unusedVariables false
set_option linter.unusedSimpArgs false
namespace Go.PV

/-- Kinds of cells. -/
inductive CT where
  | bool
  | int (k : IntKind)
  | str
  | sl (sz : Nat) (ag : Bool) (cs : List CT)

mutual
def OkC : CT → R → Prop
  | .bool, x => ∃ b, x = .bool b
  | .int k, x => ∃ n, x = .int k n ∧ (Lit.int k n).wf = true
  | .str, x => ∃ s, x = .str s ∧ s.length ≤ maxLen
  | .sl sz ag cts, x => ∃ xs, x = .sl sz .any xs ∧ xs.length ≤ maxLen ∧ ∀ y ∈ xs, ∃ cs, OkCs cts cs ∧ y.cells = cs ∧ (match ag with | true => y = .agg cs | false => [y] = cs)
def OkCs : List CT → List R → Prop
  | [], rs => rs = []
  | c :: cts, rs => ∃ r rt, rs = r :: rt ∧ OkC c r ∧ OkCs cts rt
end

theorem OkCs.len : ∀ {cts : List CT} {rs : List R}, OkCs cts rs → rs.length = cts.length
  | [], rs, h => by rw [OkCs] at h; subst h; rfl
  | c :: cts, rs, h => by
    rw [OkCs] at h
    obtain ⟨r, rt, rfl, _, h⟩ := h
    simp [OkCs.len h]

theorem OkCs.append : ∀ {cts cts' : List CT} {rs rs' : List R}, OkCs cts rs → OkCs cts' rs' → OkCs (cts ++ cts') (rs ++ rs')
  | [], cts', rs, rs', h, h' => by rw [OkCs] at h; subst h; exact h'
  | c :: cts, cts', rs, rs', h, h' => by
    rw [OkCs] at h
    obtain ⟨r, rt, rfl, h1, h⟩ := h
    simp only [List.cons_append, OkCs]
    exact ⟨r, rt ++ rs', rfl, h1, h.append h'⟩

variable {P : Program}

def tyFs (f : TypeId → Option (List CT)) (P : Program) : List Field → Nat → Option (List CT)
  | [], _ => some []
  | fd :: fs, o => match f fd.type with
    | none => none
    | some cts => if fd.offset = o ∧ cts.length = P.cellsOf fd.type then (match tyFs f P fs (o + cts.length) with | some l => some (cts ++ l) | none => none) else none

/-- The kinds of a type's cells. -/
def tyCs (P : Program) : Nat → TypeId → Option (List CT)
  | 0, _ => none
  | n + 1, t => match P.underlying t with
    | some .bool => some [.bool]
    | some (.int k) => some [.int k]
    | some .string => some [.str]
    | some (.slice e) => match tyCs P n e with
      | some cts => if cts.length = P.cellsOf e ∧ 0 < cts.length ∧ (isTy P e (fun d => d.isRow) || cts.length == 1) = true then some [.sl cts.length (isTy P e fun d => d.isRow) cts] else none
      | none => none
    | some (.struct fs) => match tyFs (tyCs P n) P fs.toList 0 with
      | some cts => if cts.length = P.cellsOf t then some cts else none
      | none => none
    | some (.array m e) => match tyCs P n e with
      | some cts => if cts.length = P.cellsOf e ∧ m * cts.length = P.cellsOf t then some (List.replicate m cts).flatten else none
      | none => none
    | _ => none

def fb0 : Nat → Prop := fun _ => False

def Rs (w : World) (rs : List R) (cs : List Value) : Prop := Ones rs.length cs ∧ ∀ (i : Nat) (c : R) (v : Value), rs[i]? = some c → cs[i]? = some v → RRel fb0 w c v

theorem Rs.append {w : World} {cs ds : List R} {vs us : List Value} (h : Rs w cs vs) (k : Rs w ds us) : Rs w (cs ++ ds) (vs ++ us) := by
  refine ⟨⟨by simp [h.1.1, k.1.1], fun v hv => ?_⟩, fun i c v h1 h2 => ?_⟩
  · rcases List.mem_append.1 hv with hv | hv
    · exact h.1.2 v hv
    · exact k.1.2 v hv
  · have hl := h.1.1
    by_cases hi : i < cs.length
    · rw [List.getElem?_append_left hi] at h1
      rw [List.getElem?_append_left (by omega)] at h2
      exact h.2 i c v h1 h2
    · rw [List.getElem?_append_right (by omega)] at h1 h2
      rw [← hl] at h2
      exact k.2 _ c v h1 h2
theorem Rs.nil {w : World} : Rs w [] [] := ⟨⟨rfl, by simp⟩, by simp⟩
theorem Rs.one {w : World} {x : R} {v : Value} (h : RRel fb0 w x v) (h1 : v.oneCell' = true) : Rs w [x] [v] := by
  refine ⟨⟨rfl, by simpa using h1⟩, fun i c v h2 h3 => ?_⟩
  cases i with
  | zero => simp at h2 h3; subst h2 h3; exact h
  | succ i => simp at h2

theorem mapM_all {α β : Type} {f : α → Option β} : ∀ {l : List α} {ys : List β}, l.mapM f = some ys → ∀ x ∈ l, ∃ y, f x = some y
  | [], ys, h, x, hx => by cases hx
  | a :: l, ys, h, x, hx => by
    rw [List.mapM_cons] at h
    cases h1 : f a with
    | none => rw [h1] at h; cases h
    | some y =>
      rw [h1] at h
      cases h2 : l.mapM f with
      | none => simp [h2] at h
      | some zs =>
        cases hx with
        | head => exact ⟨y, h1⟩
        | tail _ hx => exact mapM_all h2 x hx

theorem mapM_get {α β : Type} {f : α → Option β} : ∀ {l : List α} {ys : List β}, l.mapM f = some ys → ys.length = l.length ∧ ∀ (i : Nat) (x : α), l[i]? = some x → f x = ys[i]?
  | [], ys, h => by simp at h; subst h; exact ⟨rfl, by simp⟩
  | a :: l, ys, h => by
    rw [List.mapM_cons] at h
    cases h1 : f a with
    | none => rw [h1] at h; cases h
    | some y =>
      rw [h1] at h
      cases h2 : l.mapM f with
      | none => simp [h2] at h
      | some zs =>
        simp [h2] at h
        subst h
        obtain ⟨k1, k2⟩ := mapM_get h2
        refine ⟨by simp [k1], fun i x hx => ?_⟩
        cases i with
        | zero => simp at hx; subst hx; simpa using h1
        | succ i => simpa using k2 i x (by simpa using hx)

section
variable {H : Type} {enc : TypeId × Value → H} {w : World} {base : Nat} {spare : Nat → Bool} {held : Bool}

/-- What is read as a datum is an evaluator's value. -/
theorem trod_R : ∀ (n : Nat) (t : TypeId) (cts : List CT), tyCs P n t = some cts → ∀ (fuel : Nat) (cs : List Value) (x : DataW H × List MemPlace), DataW.trod enc P w base spare held fuel t cs = some x → ∃ rs, OkCs cts rs ∧ Rs w rs cs
  | 0, t, cts, ht => by cases ht
  | n + 1, t, cts, ht => by
    intro fuel cs x hx
    rw [tyCs] at ht
    split at ht
    · rename_i hu
      cases ht
      cases fuel with
      | zero => simp [DataW.trod] at hx
      | succ fuel =>
        unfold DataW.trod at hx
        rw [hu] at hx
        split at hx <;> try (simp_all; done)
        rename_i b _
        exact ⟨[.bool b], ⟨_, _, rfl, ⟨b, rfl⟩, rfl⟩, .one (.bool b) rfl⟩
    · rename_i k hu
      cases ht
      cases fuel with
      | zero => simp [DataW.trod] at hx
      | succ fuel =>
        unfold DataW.trod at hx
        rw [hu] at hx
        split at hx <;> try (simp_all; done)
        rename_i k1 k' m hk1
        cases hk1
        split at hx <;> try cases hx
        rename_i hc
        obtain ⟨rfl, hwf⟩ := hc
        exact ⟨[.int k' m], ⟨_, _, rfl, ⟨m, rfl, hwf⟩, rfl⟩, .one (.int _ _) rfl⟩
    · rename_i hu
      cases ht
      cases fuel with
      | zero => simp [DataW.trod] at hx
      | succ fuel =>
        unfold DataW.trod at hx
        rw [hu] at hx
        split at hx <;> try (simp_all; done)
        rename_i s _
        split at hx <;> try cases hx
        rename_i hs
        refine ⟨[.str s.data.toList], ⟨_, _, rfl, ⟨_, rfl, by rw [Array.length_toList]; exact hs⟩, rfl⟩, .one ?_ rfl⟩
        have := RRel.str (fb := fb0) (w := w) s.data.toList
        simpa using this
    · rename_i e hu
      split at ht <;> try cases ht
      rename_i cts' hcts
      split at ht <;> cases ht
      rename_i hcond
      obtain ⟨hl, hpos, hrow⟩ := hcond
      rcases DataW.trod_slice hu hx with ⟨rfl, _⟩ | ⟨a, len, cap, elems, rest, m, _, rfl, _, hb, hlc, hm, hlen, hel, _, _⟩
      · refine ⟨[.sl cts'.length .any []], ⟨_, _, rfl, ⟨[], rfl, by simp, by simp⟩, rfl⟩, .one ?_ rfl⟩
        exact .sl _ .any [] none 0 0 0 (fun _ _ => .bool true) (by simp) (by simp) (by simp) (by simp) (by simp) (by simp) (by simp) (by simp) (by simp) (by simp)
      · -- the elements, one by one
        have each : ∀ i, i < len → ∃ vs : List Value, ∃ rs, w.cells? base (a.add (i * P.cellsOf e)) (P.cellsOf e) = some vs ∧ OkCs cts' rs ∧ Rs w rs vs := fun i hi => by
          have h1 := hel i hi
          have h2 : elems[i]? = some elems[i] := List.getElem?_eq_getElem (by omega)
          rw [h2] at h1
          obtain ⟨vs, h3, h4⟩ := Option.bind_eq_some_iff.1 h1
          obtain ⟨rs, h5, h6⟩ := trod_R n e cts' hcts _ _ _ h4
          exact ⟨vs, rs, h3, h5, h6⟩
        have hspot : 0 < len → ∃ B o, a = ⟨B, o, none⟩ := fun h0 => by
          obtain ⟨vs, rs, h1, h2, h3⟩ := each 0 h0
          unfold World.cells? at h1
          split at h1 <;> try cases h1
          obtain ⟨y, hy⟩ := mapM_all h1 0 (by rw [List.mem_range]; omega)
          obtain ⟨B, o, sp⟩ := a
          unfold World.cell? at hy
          simp only [Addr.add] at hy
          split at hy <;> try cases hy
          cases sp with
          | none => exact ⟨B, o, rfl⟩
          | some s => simp at hy
        let mk : List R → R := fun rs => if isTy P e (fun d => d.isRow) then .agg rs else rs.headD .nilp
        have hmk : ∀ rs, OkCs cts' rs → (mk rs).cells = rs ∧ (match isTy P e (fun d => d.isRow) with | true => mk rs = .agg rs | false => [mk rs] = rs) := fun rs hrs => by
          have hrl := hrs.len
          cases hrw : isTy P e (fun d => d.isRow) with
          | true => simp [mk, hrw, R.cells]
          | false =>
            rw [hrw] at hrow
            have h1 : cts'.length = 1 := by simpa using hrow
            match cts', hrs, h1 with
            | [c], hrs, _ =>
              rw [OkCs] at hrs
              obtain ⟨r, rt, rfl, hc, hrt⟩ := hrs
              rw [OkCs] at hrt
              subst hrt
              have hr : mk [r] = r := by simp [mk, hrw]
              rw [hr]
              refine ⟨?_, rfl⟩
              cases c with
              | bool => obtain ⟨b, rfl⟩ := hc; rfl
              | int k => obtain ⟨b, rfl, _⟩ := hc; rfl
              | str => obtain ⟨b, rfl, _⟩ := hc; rfl
              | sl sz ag cs => rw [OkC] at hc; obtain ⟨b, rfl, _⟩ := hc; rfl
        -- choose the elements
        have build : ∀ m, m ≤ len → ∃ xs : List R, xs.length = m ∧ (∀ y ∈ xs, ∃ cs, OkCs cts' cs ∧ y.cells = cs ∧ (match isTy P e (fun d => d.isRow) with | true => y = .agg cs | false => [y] = cs)) ∧
            ∀ (i : Nat) (y : R), xs[i]? = some y → ∃ vs, w.cells? base (a.add (i * P.cellsOf e)) (P.cellsOf e) = some vs ∧ Rs w y.cells vs := by
          intro m
          induction m with
          | zero => intro _; exact ⟨[], rfl, by simp, by simp⟩
          | succ m ih =>
            intro hm'
            obtain ⟨xs, k1, k2, k3⟩ := ih (by omega)
            obtain ⟨vs, rs, h1, h2, h3⟩ := each m (by omega)
            obtain ⟨m1, m2⟩ := hmk rs h2
            refine ⟨xs ++ [mk rs], by simp [k1], fun y hy => ?_, fun i y hy => ?_⟩
            · rcases List.mem_append.1 hy with hy | hy
              · exact k2 y hy
              · rw [List.mem_singleton] at hy; subst hy
                exact ⟨rs, h2, m1, m2⟩
            · by_cases hi : i < xs.length
              · rw [List.getElem?_append_left hi] at hy
                exact k3 i y hy
              · rw [List.getElem?_append_right (by omega)] at hy
                have : i - xs.length = 0 := by
                  rcases Nat.eq_zero_or_pos (i - xs.length) with h | h
                  · exact h
                  · rw [List.getElem?_eq_none (by simp; omega)] at hy; cases hy
                rw [this] at hy
                have hi' : i = m := by omega
                subst hi'
                simp at hy; subst hy
                exact ⟨vs, h1, by rw [m1]; exact h3⟩
        obtain ⟨xs, k1, k2, k3⟩ := build len (Nat.le_refl _)
        refine ⟨[.sl cts'.length .any xs], ⟨_, _, rfl, ⟨xs, rfl, by omega, k2⟩, rfl⟩, .one ?_ rfl⟩
        have cellAt : ∀ (i : Nat) (y : R) (f : Nat) (c : R), xs[i]? = some y → y.cells[f]? = some c → ∃ v, cellIs w ⟨a.block, a.off + i * cts'.length + f, none⟩ v ∧ RRel fb0 w c v := fun i y f c h1 h2 => by
          obtain ⟨vs, h3, h4⟩ := k3 i y h1
          have hi := (List.getElem?_eq_some_iff.1 h1).1
          obtain ⟨B, o, rfl⟩ := hspot (by omega)
          have hf := (List.getElem?_eq_some_iff.1 h2).1
          have hfl : f < vs.length := by rw [← h4.1.1]; exact hf
          have h5 : vs[f]? = some vs[f] := List.getElem?_eq_getElem hfl
          refine ⟨vs[f], ⟨?_, h4.1.2 _ (List.getElem_mem _)⟩, h4.2 f c _ h2 h5⟩
          unfold World.cells? at h3
          split at h3 <;> try cases h3
          have h6 := (mapM_get h3).2 f f (by rw [List.getElem?_range (by rw [(mapM_get h3).1, List.length_range] at hfl; exact hfl)])
          rw [← hl, h5] at h6
          rw [Addr.add_lit, Addr.add_lit] at h6
          exact h6
        have hcv : ∀ (i : Nat) (y : R) (f : Nat) (c : R), xs[i]? = some y → y.cells[f]? = some c →
            cellIs w ⟨a.block, a.off + i * cts'.length + f, none⟩ ((w.cell? ⟨a.block, a.off + i * cts'.length + f, none⟩).getD (.bool true)) ∧ RRel fb0 w c ((w.cell? ⟨a.block, a.off + i * cts'.length + f, none⟩).getD (.bool true)) := fun i y f c h1 h2 => by
          obtain ⟨v, h3, h4⟩ := cellAt i y f c h1 h2
          rw [h3.1]
          exact ⟨⟨by rw [h3.1]; rfl, h3.2⟩, h4⟩
        have hsz : ∀ (i : Nat) (x : R), xs[i]? = some x → x.cells.length = cts'.length := fun i x hx => by
          obtain ⟨cs, h1, h2, _⟩ := k2 x (List.mem_of_getElem? hx)
          rw [h2, h1.len]
        have := RRel.sl (fb := fb0) (w := w) cts'.length   .any xs (some a) cap a.block a.off (fun i f => (w.cell? ⟨a.block, a.off + i * cts'.length + f, none⟩).getD (.bool true)) (fun h0 => by obtain ⟨B, o, rfl⟩ := hspot (by omega); rfl) (by omega) (by simp) (by simp) (by simp) (by simp)
          (fun _ _ _ _ _ _ h => h) hsz (fun i y f c h1 h2 => (hcv i y f c h1 h2).1) (fun i y f c h1 h2 => (hcv i y f c h1 h2).2)
        rw [k1] at this
        exact this
    · rename_i fs hu
      split at ht <;> try cases ht
      rename_i cts' hfs
      split at ht <;> cases ht
      rename_i hlen
      cases fuel with
      | zero => simp [DataW.trod] at hx
      | succ fuel =>
        unfold DataW.trod at hx
        rw [hu] at hx
        have hx : (if cs.length = P.cellsOf t then (fs.toList.mapM fun f => DataW.trod enc P w base spare held fuel f.type ((cs.drop f.offset).take (P.cellsOf f.type))).map fun xs => (DataW.agg (xs.map (·.1)), xs.flatMap (·.2)) else none) = some x := hx
        split at hx <;> try cases hx
        rename_i hcl
        obtain ⟨ys, hys, _⟩ := Option.map_eq_some_iff.1 hx
        have hall := mapM_all hys
        have key : ∀ (l : List Field) (o : Nat) (k : List CT), (∀ f ∈ l, f ∈ fs.toList) → tyFs (tyCs P n) P l o = some k → ∃ rs, OkCs k rs ∧ Rs w rs ((cs.drop o).take k.length) := by
          intro l
          induction l with
          | nil => intro o k _ hk; cases hk; exact ⟨[], rfl, by simpa using Rs.nil⟩
          | cons f l ih =>
            intro o k hl hk
            simp only [tyFs] at hk
            split at hk <;> try cases hk
            rename_i c1 h1
            split at hk <;> try cases hk
            rename_i hc
            obtain ⟨rfl, hcl1⟩ := hc
            split at hk <;> cases hk
            rename_i c2 h2
            obtain ⟨y, hy⟩ := hall f (hl f (List.mem_cons_self ..))
            obtain ⟨rs1, k1, k2⟩ := trod_R n f.type c1 h1 _ _ _ hy
            obtain ⟨rs2, k3, k4⟩ := ih _ _ (fun g hg => hl g (List.mem_cons_of_mem _ hg)) h2
            refine ⟨rs1 ++ rs2, k1.append k3, ?_⟩
            rw [List.length_append, List.take_add, List.drop_drop]
            rw [← hcl1] at k2
            exact k2.append k4
        obtain ⟨rs, k1, k2⟩ := key fs.toList 0 cts (fun _ h => h) hfs
        refine ⟨rs, k1, ?_⟩
        rw [List.drop_zero, hlen, ← hcl, List.take_length] at k2
        exact k2
    · rename_i m e hu
      split at ht <;> try cases ht
      rename_i cts' hcts
      split at ht <;> cases ht
      rename_i hcond
      obtain ⟨hl, hml⟩ := hcond
      cases fuel with
      | zero => simp [DataW.trod] at hx
      | succ fuel =>
        unfold DataW.trod at hx
        rw [hu] at hx
        have hx : (if cs.length = P.cellsOf t then ((List.range m).mapM fun i => DataW.trod enc P w base spare held fuel e ((cs.drop (i * P.cellsOf e)).take (P.cellsOf e))).map fun xs => (DataW.agg (xs.map (·.1)), xs.flatMap (·.2)) else none) = some x := hx
        split at hx <;> try cases hx
        rename_i hcl
        obtain ⟨ys, hys, _⟩ := Option.map_eq_some_iff.1 hx
        have hall := mapM_all hys
        have key : ∀ (j i : Nat), i + j = m → ∃ rs, OkCs (List.replicate j cts').flatten rs ∧ Rs w rs ((cs.drop (i * cts'.length)).take (j * cts'.length)) := by
          intro j
          induction j with
          | zero => intro i _; exact ⟨[], rfl, by simpa using Rs.nil⟩
          | succ j ih =>
            intro i hij
            obtain ⟨y, hy⟩ := hall i (by rw [List.mem_range]; omega)
            obtain ⟨rs1, k1, k2⟩ := trod_R n e cts' hcts _ _ _ hy
            obtain ⟨rs2, k3, k4⟩ := ih (i + 1) (by omega)
            refine ⟨rs1 ++ rs2, by rw [List.replicate_succ, List.flatten_cons]; exact k1.append k3, ?_⟩
            rw [show (j + 1) * cts'.length = cts'.length + j * cts'.length by rw [Nat.add_mul, Nat.one_mul, Nat.add_comm], List.take_add, List.drop_drop]
            rw [← hl] at k2
            rw [show (i + 1) * cts'.length = i * cts'.length + cts'.length by rw [Nat.add_mul, Nat.one_mul]] at k4
            exact k2.append k4
        obtain ⟨rs, k1, k2⟩ := key m 0 (by omega)
        refine ⟨rs, k1, ?_⟩
        rw [Nat.zero_mul, List.drop_zero, hml, ← hcl, List.take_length] at k2
        exact k2
    · cases ht
end
end Go.PV
