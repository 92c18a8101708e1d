/- Slices of slices and arrays, lengths, building, closures, carries. -/
import Derived.Test.YtdaalannljjkjaaGreatSlc
set_option linter.unusedVariables false
set_option linter.unusedSimpArgs false
namespace Go.PV
variable {P : Program}
section
variable {fb : Nat → Prop} {μ : Mu} {g : Lk} {w : World} {fr : List V} {a : Act}

theorem ite_some {α : Type} (c : Prop) [Decidable c] (v : α) (f : α → α) : (if c then some v else Option.map f (some v)) ≠ none := by split <;> simp

theorem run_slice_sl {t e : TypeId} {i : TypeInfo} {sz : Nat} (hu : P.underlying t = some (.slice e)) (hinf : P.info? e = some i) (hs : i.size = sz) {ad : Option Addr} {n cap p q m : Nat} {lo hi mx : Option Value}
    (hb : (Instr.sliceBounds true n cap lo hi mx).run P w = .ok (p, q, m) w) :
    (Instr.sliceAt t (.slice ad n cap) lo hi mx).run P w = .ok (.slice (if m = p then ad else ad.map (·.add (p * sz))) (q - p) (m - p)) w := by
  simp [Instr.sliceAt, Instr.slice, run_underlying hu, hb, sizeOf, typeInfo, hinf, hs]

theorem pure_slsl (hf : FrRel fb μ g w fr a.tmps) {sz : Nat} {lo hi mx : Bool} {o : Oper} {xs : List AOprd} {v : V} (hc : chkP P o.op (.slsl sz lo hi mx) xs = true) (hr : runP (.slsl sz lo hi mx) (xs.map (ev fr)) = some v) : Gives P fb μ g w a o v := by
  unfold chkP at hc
  simp only at hc
  split at hc
  · rename_i t x l h m hop
    simp only [Bool.and_eq_true] at hc
    obtain ⟨⟨⟨⟨⟨ht, hx⟩, hl⟩, hh⟩, hm⟩, hmh⟩ := hc
    have hl : l.isSome = lo := by simpa using hl
    have hh : h.isSome = hi := by simpa using hh
    have hm : m.isSome = mx := by simpa using hm
    have hmh : m.isSome = true → h.isSome = true := by cases m <;> cases h <;> simp at hmh ⊢
    obtain ⟨d, hd, hd'⟩ := run_under ht
    split at hd' <;> try cases hd'
    rename_i e
    obtain ⟨inf, hinf, hs⟩ := szIs_info hd'
    obtain ⟨y, ys, rfl, h1, h2⟩ := chkCons (by simpa using hx)
    have h2 : chkOprds (l.toList ++ h.toList ++ m.toList) ys = true := by simpa using h2
    have r1 := ev_rel hf h1
    simp only [runP, List.map, slslV] at hr
    generalize ev fr y = vx at *
    have ex : ∀ {ad : Option Addr} {n cap p q : Nat} {c : Bool}, a.eval x = .slice ad n cap → n ≤ cap → bounds lo hi mx n (ys.map (ev fr)) = some (p, q, c) →
        (execOp a.eval o).run P w = .ok (.value (.slice (if (if mx then q else cap) = p then ad else ad.map (·.add (p * sz))) (q - p) ((if mx then q else cap) - p))) w ∧ p ≤ q ∧ q ≤ n ∧ c = mx := fun {ad n cap p q c} he hcap hb => by
      obtain ⟨hrun, h3, h4, h5⟩ := bounds_run (P := P) hf true hcap h2 hl hh hm hmh hb
      refine ⟨?_, h3, h4, h5⟩
      simp only [execOp, hop, he]
      simp [run_slice_sl hd hinf hs hrun]
    generalize hxv : a.eval x = u at r1
    split at hr <;> try cases hr
    · rename_i sz' b k len
      split at hr <;> try cases hr
      rename_i hsz
      subst hsz
      split at hr <;> try cases hr
      rename_i p q c hb
      split at hr <;> cases hr
      cases r1 with
      | sl _ _ _ _ B lo' cap hl' hm' hn hroom hcnt =>
        obtain ⟨hrun, h3, h4, h5⟩ := ex hxv hn hb
        subst h5
        simp only [Bool.false_eq_true, if_false] at hrun
        refine ⟨_, hrun, ?_⟩
        by_cases hcp : cap = p
        · rw [if_pos hcp]
          have : q - p = 0 := by omega
          rw [this]
          have : cap - p = 0 := by omega
          rw [this]
          exact .sl0 _ _ _ _ hl' (by omega)
        · rw [if_neg hcp]
          simp only [Option.map_some, add_lit]
          have := VRel.sl (fb := fb) (w := w) sz b (k + p) (q - p) B lo' (cap - p) hl' hm' (by omega) (by rwa [show k + p + (cap - p) = k + cap by omega]) (by omega)
          rwa [Nat.add_mul, ← Nat.add_assoc] at this
      | sl0 _ _ _ ad hl' hcnt =>
        obtain ⟨hrun, h3, h4, h5⟩ := ex hxv (Nat.le_refl _) hb
        subst h5
        have hp : p = 0 := by omega
        have hq : q = 0 := by omega
        subst hp hq
        exact ⟨_, hrun, .sl0 _ _ _ _ hl' (by omega)⟩
      | slD _ _ _ _ ad cap hd' hna hn =>
        obtain ⟨hrun, h3, h4, h5⟩ := ex hxv hn hb
        subst h5
        refine ⟨_, hrun, .slD _ _ _ _ _ _ hd' (fun h => ?_) (by simp; omega)⟩
        have : ad = none := by cases ad with
          | none => rfl
          | some v => exact absurd h (ite_some _ _ _)
        have := hna this
        simp; omega
    · rename_i b k f sz' ag len
      split at hr <;> try cases hr
      rename_i hsz
      subst hsz
      split at hr <;> cases hr
      rename_i p q c hb
      cases r1 with
      | isl _ _ _ _ _ _ s B lo' cap hl' hm' hn =>
        obtain ⟨hrun, h3, h4, h5⟩ := ex hxv hn hb
        refine ⟨_, hrun, ?_⟩
        by_cases h0 : q - p = 0
        · rw [h0]; exact .isl0 _ _ _ _ _ _ _
        · have hne : ¬ (if mx = true then q else cap) = p := by split <;> omega
          rw [if_neg hne]
          simp only [Option.map_some, add_lit]
          rw [show lo' + k * s + f + p * sz = lo' + k * s + (f + p * sz) by omega]
          exact .isl _ _ _ _ _ _ _ _ _ _ hl' hm' (by split <;> omega)
      | islD _ _ _ _ _ _ ad cap hd' hn =>
        obtain ⟨hrun, h3, h4, h5⟩ := ex hxv hn hb
        refine ⟨_, hrun, ?_⟩
        by_cases h0 : q - p = 0
        · rw [h0]; exact .isl0 _ _ _ _ _ _ _
        · have hne : ¬ (if mx = true then q else cap) = p := by split <;> omega
          rw [if_neg hne]
          exact .islD _ _ _ _ _ _ _ _ hd' (by split <;> omega)
      | isl0 _ _ _ _ _ ad cap =>
        obtain ⟨hrun, h3, h4, h5⟩ := ex hxv (by omega) hb
        refine ⟨_, hrun, ?_⟩
        have h0 : q - p = 0 := by omega
        rw [h0]; exact .isl0 _ _ _ _ _ _ _
    · rename_i sz' kd rs
      split at hr <;> try cases hr
      rename_i hsz
      subst hsz
      split at hr <;> cases hr
      rename_i p q c hb
      have r2 := r1.r_inv
      cases u <;> try (cases r2; done)
      rename_i ad n cap
      have hn : rs.length = n := by cases r2; rfl
      have hcap : n ≤ cap := by cases r2; assumption
      obtain ⟨hrun, h3, h4, h5⟩ := ex hxv hcap (by rw [← hn]; exact hb)
      subst h5
      refine ⟨_, hrun, .r _ _ (sl_sub r2 h3 h4 (by split <;> omega) (by split <;> omega) ?_ ?_ ?_ _ ?_)⟩
      · intro hk; cases kd <;> cases c <;> simp [slKind] at hk <;> rfl
      · intro hk
        cases c <;> cases kd <;> simp [slKind] at hk <;> simp
      · cases kd <;> cases c <;> simp [slKind]
      · by_cases hmp : (if c = true then q else cap) = p
        · rw [if_pos hmp]
          right
          refine ⟨?_, rfl⟩
          split at hmp <;> omega
        · rw [if_neg hmp]; left; rfl
  · cases hc

theorem chunks_spec {ag : Bool} {sz : Nat} : ∀ {n : Nat} {cs xs : List R}, chunks ag sz n cs = some xs → xs.length = n ∧
    (∀ (i : Nat) (x : R), xs[i]? = some x → x.cells.length = sz) ∧ ∀ (i : Nat) (x : R) (f : Nat) (c : R), xs[i]? = some x → x.cells[f]? = some c → cs[i * sz + f]? = some c
  | 0, cs, xs, h => by simp [chunks] at h; subst h; simp
  | n + 1, cs, xs, h => by
    rw [chunks] at h
    split at h <;> try cases h
    rename_i hle
    split at h <;> try cases h
    rename_i x hx
    split at h <;> cases h
    rename_i l hl
    obtain ⟨h1, h2, h3⟩ := chunks_spec hl
    have hx' : x.cells = cs.take sz := by
      unfold chunk1 at hx
      cases ag with
      | true => simp at hx; subst hx; rfl
      | false =>
        simp only [scal] at hx
        split at hx <;> try cases hx
        rename_i y t hy
        split at hx <;> try cases hx
        split at hx <;> cases hx
        rename_i hna
        rw [hy]
        cases x <;> first | rfl | exact absurd rfl (hna _)
    refine ⟨by simp [h1], fun i y hy => ?_, fun i y f c hy hc => ?_⟩
    · cases i with
      | zero => simp at hy; subst hy; rw [hx']; simp; omega
      | succ i => exact h2 i y (by simpa using hy)
    · cases i with
      | zero =>
        simp at hy; subst hy
        rw [hx', List.getElem?_take] at hc
        split at hc
        · simpa using hc
        · cases hc
      | succ i =>
        have := h3 i y f c (by simpa using hy) hc
        rw [List.getElem?_drop] at this
        rwa [show (i + 1) * sz + f = sz + (i * sz + f) by rw [Nat.add_mul]; omega]

theorem rptr_chunks {ag : Bool} {sz n off : Nat} {cs xs : List R} {p : Addr} {ad : Option Addr} {cap : Nat} (h : RRel fb w (.rptr cs) (.pointer (some p))) (hx : chunks ag sz n (cs.drop off) = some xs)
    (had : 0 < n → ad = some (p.add off)) (hna : ad = none → cap = 0) (hcap : n ≤ cap) : RRel fb w (.sl sz .any xs) (.slice ad n cap) := by
  obtain ⟨h1, h2, h3⟩ := chunks_spec hx
  cases h with
  | rptr _ B o cv hf hc hr =>
    have el : ∀ {i : Nat} {x : R} {f : Nat} {c : R}, xs[i]? = some x → x.cells[f]? = some c → cs[off + (i * sz + f)]? = some c := fun {i x f c} h4 h5 => by
      have := h3 i x f c h4 h5
      rwa [List.getElem?_drop] at this
    have := RRel.sl (fb := fb) (w := w) sz .any xs ad cap B (o + off) (fun i f => cv (off + (i * sz + f)))
      (fun h0 => by rw [had (by omega), add_lit]) (by rw [h1]; exact hcap) hna (by simp) (by simp) (by simp)
      (fun i x f c h4 h5 => hf _ (List.getElem?_eq_some_iff.1 (el h4 h5)).1) h2
      (fun i x f c h4 h5 => by have := hc _ c (el h4 h5); rwa [show o + (off + (i * sz + f)) = o + off + i * sz + f by omega] at this)
      (fun i x f c h4 h5 => hr _ c (el h4 h5))
    rwa [h1] at this

theorem pure_slar (hf : FrRel fb μ g w fr a.tmps) {n sz : Nat} {ag lo hi : Bool} {o : Oper} {xs : List AOprd} {v : V} (hc : chkP P o.op (.slar n sz ag lo hi) xs = true) (hr : runP (.slar n sz ag lo hi) (xs.map (ev fr)) = some v) : Gives P fb μ g w a o v := by
  unfold chkP at hc
  simp only at hc
  split at hc
  · rename_i t x l h hop
    simp only [Bool.and_eq_true] at hc
    obtain ⟨⟨⟨ht, hx⟩, hl⟩, hh⟩ := hc
    obtain ⟨d, hd, hd'⟩ := run_under ht
    split at hd' <;> try cases hd'
    rename_i k e
    simp only [Bool.and_eq_true] at hd'
    obtain ⟨⟨hk, hs⟩, hrow⟩ := hd'
    have hk : k = n := by simpa using hk
    subst hk
    obtain ⟨inf, hinf, hs⟩ := szIs_info hs
    obtain ⟨y, ys, rfl, h1, h2⟩ := chkCons (by simpa using hx)
    have r1 := ev_rel hf h1
    simp only [runP, List.map, slarV] at hr
    generalize ev fr y = vx at *
    have ex : ∀ {ad : Addr} {p q : Nat} {c : Bool}, a.eval x = .pointer (some ad) → bounds lo hi false k (ys.map (ev fr)) = some (p, q, c) →
        (execOp a.eval o).run P w = .ok (.value (.slice (some (if k = p then ad else ad.add (p * sz))) (q - p) (k - p))) w ∧ p ≤ q ∧ q ≤ k := fun {ad p q c} he hb => by
      obtain ⟨hrun, h3, h4, h5⟩ := bounds_run (P := P) (m := none) hf false (Nat.le_refl k) (by simpa using h2) (by simpa using hl) (by simpa using hh) rfl (by simp) hb
      refine ⟨?_, h3, h4⟩
      simp only [Option.map_none, Bool.false_eq_true, if_false] at hrun
      simp [execOp, hop, he, Instr.sliceAt, run_underlying hd, Instr.sureAddr, hrun, sizeOf, typeInfo, hinf, hs]
    generalize hxv : a.eval x = u at r1
    split at hr <;> try cases hr
    · rename_i b i f
      split at hr <;> cases hr
      rename_i p q c hb
      cases r1 with
      | ptr _ _ _ s B lo' hl' hm' =>
        obtain ⟨hrun, h3, h4⟩ := ex hxv hb
        refine ⟨_, hrun, ?_⟩
        by_cases h0 : q - p = 0
        · rw [h0]; exact .isl0 _ _ _ _ _ _ _
        · rw [if_neg (by omega), add_lit, show lo' + i * s + f + p * sz = lo' + i * s + (f + p * sz) by omega]
          exact .isl _ _ _ _ _ _ _ _ _ _ hl' hm' (by omega)
      | ptrD _ _ _ ad hd' =>
        obtain ⟨hrun, h3, h4⟩ := ex hxv hb
        exact ⟨_, hrun, .islD _ _ _ _ _ _ _ _ hd' (by omega)⟩
    · rename_i cs
      split at hr <;> try cases hr
      rename_i p q c hb
      split at hr <;> cases hr
      rename_i rs hrs
      have r2 := r1.r_inv
      obtain ⟨B, o', rfl⟩ := rptr_inv r2
      obtain ⟨hrun, h3, h4⟩ := ex hxv hb
      refine ⟨_, hrun, .r _ _ (rptr_chunks r2 hrs (fun h0 => by rw [if_neg (by omega)]) (by simp) (by omega))⟩
  · cases hc

theorem pure_len (hf : FrRel fb μ g w fr a.tmps) {o : Oper} {xs : List AOprd} {v : V} (hc : chkP P o.op .len xs = true) (hr : runP .len (xs.map (ev fr)) = some v) : Gives P fb μ g w a o v := by
  unfold chkP at hc
  simp only at hc
  split at hc
  · rename_i args ats hop
    simp only [Bool.and_eq_true] at hc
    obtain ⟨ht, hx⟩ := hc
    split at ht <;> try cases ht
    rename_i t hat
    obtain ⟨d, hd, hd'⟩ := run_under ht
    split at hd' <;> try cases hd'
    rename_i e
    simp only [runP] at hr
    obtain ⟨hl, hrel⟩ := evs_rel hf hx
    cases xs with
    | nil => simp [one] at hr
    | cons y ys => cases ys with
      | cons _ _ => simp [one] at hr
      | nil =>
        obtain ⟨z, hz⟩ : ∃ z, args.toList = [z] := by
          cases h : args.toList with
          | nil => rw [h] at hl; simp at hl
          | cons z t => cases t with
            | nil => exact ⟨z, rfl⟩
            | cons _ _ => rw [h] at hl; simp at hl
        rw [hz] at hrel
        have r1 := hrel 0 (ev fr y) (a.eval z) (by simp) (by simp)
        have hargs : args = #[z] := by apply Array.ext'; simpa using hz
        subst hargs
        have ex : ∀ {ad : Option Addr} {n cap : Nat}, a.eval z = .slice ad n cap → (execOp a.eval o).run P w = .ok (.value (.int .i64 n)) w := fun {ad n cap} he => by
          simp [execOp, hop, resolve, invoke, builtin, Builtin.len_, hat, he, run_underlying hd, goInt]
        simp only [List.map, one, lenP] at hr
        generalize ev fr y = vx at *
        generalize hxv : a.eval z = u at r1
        split at hr <;> cases hr
        · have r2 := r1.r_inv
          cases r2 with | sl _ _ _ ad cap B o' cv => exact ⟨_, ex hxv, .r _ _ (.int _ _)⟩
        · cases r1 <;> exact ⟨_, ex hxv, .r _ _ (.int _ _)⟩
        · cases r1 <;> exact ⟨_, ex hxv, .r _ _ (.int _ _)⟩
  · cases hc
end
end Go.PV
