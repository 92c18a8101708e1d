/- Operations that reckon addresses; slices; aggregates. -/
import Derived.Test.YtdaalannljjkjaaGreatPure
set_option linter.unusedVariables false
set_option linter.unusedSimpArgs false
namespace Go.PV
variable {P : Program}
section
variable {fb : Nat → Prop} {μ : Mu} {g : Lk} {w : World} {fr : List V} {a : Act}

theorem pure_nilc (hf : FrRel fb μ g w fr a.tmps) {o : Oper} {xs : List AOprd} {v : V} (hc : chkP P o.op .nilc xs = true) (hr : runP .nilc (xs.map (ev fr)) = some v) : Gives P fb μ g w a o v := by
  unfold chkP at hc
  simp only at hc
  split at hc
  · rename_i x hop
    obtain ⟨x', rfl, h1⟩ := chk1 hc
    have r1 := ev_rel hf h1
    simp only [runP, List.map, one, nilcV] at hr
    generalize ev fr x' = vx at *
    refine ⟨a.eval x, ?_, by split at hr <;> cases hr <;> exact r1⟩
    have ex : ∀ u, a.eval x = u → (∀ m f c, u ≠ .func (.method m) f c) → u ≠ .pointer none → u ≠ .nilIface → u ≠ .nilFunc → (execOp a.eval o).run P w = .ok (.value (a.eval x)) w := fun u hu h1 h2 h3 h4 => by
      simp only [execOp, hop]
      rw [hu]
      split
      · exact absurd rfl h2
      · exact absurd rfl h3
      · exact absurd rfl h4
      · exact absurd rfl (h1 _ _ _)
      · rfl
    cases hu : a.eval x <;> rw [hu] at r1 <;> split at hr <;> cases hr <;> (try (cases r1; done)) <;> (try (cases r1 with | r _ _ h => cases h; done))
    all_goals (rw [← hu]; refine ex _ hu ?_ ?_ ?_ ?_ <;> intros <;> intro he <;> rw [he] at r1 <;> first | (cases r1; done) | (cases r1 with | r _ _ h => cases h; done))
  · cases hc

theorem add_lit (b o n : Nat) : Addr.add ⟨b, o, none⟩ n = ⟨b, o + n, none⟩ := Addr.add_lit b o n

theorem rptr_drop {cs : List R} {B o off : Nat} (h : RRel fb w (.rptr cs) (.pointer (some ⟨B, o, none⟩))) : RRel fb w (.rptr (cs.drop off)) (.pointer (some ⟨B, o + off, none⟩)) := by
  cases h with
  | rptr _ _ _ cv hf hc hr =>
    refine .rptr _ B (o + off) (fun i => cv (off + i)) (fun i hi => hf (off + i) (by simp at hi; omega)) (fun i c h => ?_) (fun i c h => hr (off + i) c (by simpa using h))
    have := hc (off + i) c (by simpa using h)
    rwa [show o + (off + i) = o + off + i by omega] at this

theorem rptr_inv {cs : List R} {v : Value} (h : RRel fb w (.rptr cs) v) : ∃ B o, v = .pointer (some ⟨B, o, none⟩) := by cases h; exact ⟨_, _, rfl⟩

theorem pure_fld (hf : FrRel fb μ g w fr a.tmps) {off : Nat} {o : Oper} {xs : List AOprd} {v : V} (hc : chkP P o.op (.fld off) xs = true) (hr : runP (.fld off) (xs.map (ev fr)) = some v) : Gives P fb μ g w a o v := by
  unfold chkP at hc
  simp only at hc
  split at hc
  · rename_i t x f hop
    simp only [Bool.and_eq_true] at hc
    obtain ⟨hx, ht⟩ := hc
    obtain ⟨x', rfl, h1⟩ := chk1 hx
    have r1 := ev_rel hf h1
    obtain ⟨d, hd, hd'⟩ := run_under ht
    split at hd' <;> try cases hd'
    rename_i fs
    split at hd' <;> try cases hd'
    rename_i fd hfd
    simp only [Bool.and_eq_true] at hd'
    obtain ⟨ho, hs⟩ := hd'
    split at hs <;> try cases hs
    rename_i inf hinf
    have ho : fd.offset = off := by simpa using ho
    have hs : inf.size ≠ 0 := by simpa using hs
    have run : ∀ p : Addr, (Instr.fieldAt t (.pointer (some p)) f).run P w = .ok (.pointer (some (p.add off))) w := fun p => by
      simp [Instr.fieldAt, run_underlying hd, hfd, Instr.sureAddr, fieldPlace, sizeOf, typeInfo, hinf, hs, ho]
    have ex : ∀ p : Addr, a.eval x = .pointer (some p) → (execOp a.eval o).run P w = .ok (.value (.pointer (some (p.add off)))) w := fun p hp => by
      simp only [execOp, hop, hp]; simp [run]
    simp only [runP, List.map, one, fldV] at hr
    generalize ev fr x' = vx at *
    split at hr <;> cases hr
    · cases hxv : a.eval x <;> rw [hxv] at r1 <;> cases r1
      · rename_i hl hm
        exact ⟨_, ex _ hxv, by rw [add_lit, Nat.add_assoc]; exact .ptr _ _ _ _ _ _ hl hm⟩
      · rename_i hd; exact ⟨_, ex _ hxv, .ptrD _ _ _ _ hd⟩
    · cases r1 with | r _ _ h =>
      obtain ⟨B, o', he⟩ := rptr_inv h
      rw [he] at h
      exact ⟨_, ex _ he, by rw [add_lit]; exact .r _ _ (rptr_drop h)⟩
  · cases hc

theorem run_indexAt_sl {t e : TypeId} {i : TypeInfo} {sz : Nat} (hu : P.underlying t = some (.slice e)) (hi : P.info? e = some i) (hs : i.size = sz) (p : Addr) (n cap : Nat) (k : IntKind) (j : Int) (h0 : 0 ≤ j) (h1 : j < n) :
    (Instr.indexAt t (.slice (some p) n cap) (.int k j)).run P w = .ok (.pointer (some (p.add (j.toNat * sz)))) w := by
  simp [Instr.indexAt, asIntOf, run_underlying hu, h0, h1, sizeOf, typeInfo, hi, hs]

theorem run_indexAt_ar {t e : TypeId} {i : TypeInfo} {sz n : Nat} (hu : P.underlying t = some (.array n e)) (hi : P.info? e = some i) (hs : i.size = sz) (p : Addr) (k : IntKind) (j : Int) (h0 : 0 ≤ j) (h1 : j < n) :
    (Instr.indexAt t (.pointer (some p)) (.int k j)).run P w = .ok (.pointer (some (p.add (j.toNat * sz)))) w := by
  simp [Instr.indexAt, asIntOf, run_underlying hu, Instr.sureAddr, h0, h1, sizeOf, typeInfo, hi, hs]

theorem pure_ixa (hf : FrRel fb μ g w fr a.tmps) {len sz : Nat} {o : Oper} {xs : List AOprd} {v : V} (hc : chkP P o.op (.ixa len sz) xs = true) (hr : runP (.ixa len sz) (xs.map (ev fr)) = some v) : Gives P fb μ g w a o v := by
  unfold chkP at hc
  simp only at hc
  split at hc
  · rename_i t x y hop
    simp only [Bool.and_eq_true] at hc
    obtain ⟨hx, ht⟩ := hc
    obtain ⟨x', y', rfl, h1, h2⟩ := chk2 hx
    have r1 := ev_rel hf h1
    have r2 := ev_rel hf h2
    obtain ⟨d, hd, hd'⟩ := run_under ht
    split at hd' <;> try cases hd'
    rename_i n e
    simp only [Bool.and_eq_true] at hd'
    obtain ⟨hn, hs⟩ := hd'
    have hn : n = len := by simpa using hn
    subst hn
    obtain ⟨inf, hinf, hs⟩ := szIs_info hs
    simp only [runP, List.map, two, ixaV] at hr
    generalize ev fr x' = vx at *
    generalize ev fr y' = vy at *
    split at hr <;> try cases hr
    rename_i kk j
    have e2 := r2.int_inv
    have ex : ∀ p : Addr, a.eval x = .pointer (some p) → 0 ≤ j → j < n → (execOp a.eval o).run P w = .ok (.value (.pointer (some (p.add (j.toNat * sz))))) w := fun p hp h0 h1 => by
      simp only [execOp, hop, hp, e2]; simp [run_indexAt_ar hd hinf hs p kk j h0 h1]
    split at hr <;> try cases hr
    · split at hr <;> cases hr
      rename_i hj
      cases hxv : a.eval x <;> rw [hxv] at r1 <;> cases r1
      · rename_i hl hm
        exact ⟨_, ex _ hxv hj.1 hj.2, by rw [add_lit, Nat.add_assoc]; exact .ptr _ _ _ _ _ _ hl hm⟩
      · rename_i hd; exact ⟨_, ex _ hxv hj.1 hj.2, .ptrD _ _ _ _ hd⟩
    · split at hr <;> cases hr
      rename_i hj
      cases r1 with | r _ _ h =>
      obtain ⟨B, o', he⟩ := rptr_inv h
      rw [he] at h
      exact ⟨_, ex _ he hj.1 hj.2, by rw [add_lit]; exact .r _ _ (rptr_drop h)⟩
  · cases hc

theorem sl_elem {sz : Nat} {k : SK} {xs : List R} {ad : Option Addr} {n cap : Nat} (h : RRel fb w (.sl sz k xs) (.slice ad n cap)) {i : Nat} {x : R} (hx : xs[i]? = some x) :
    ∃ p : Addr, ad = some p ∧ p.spot = none ∧ RRel fb w (.rptr x.cells) (.pointer (some (p.add (i * sz)))) := by
  cases h with
  | sl _ _ _ _ _ B o cv ha hcap hnone hnil hfull hnn hf hsz hc hr =>
    have hp : 0 < xs.length := by have := (List.getElem?_eq_some_iff.1 hx).1; omega
    refine ⟨_, ha hp, rfl, ?_⟩
    rw [add_lit]
    refine .rptr x.cells B (o + i * sz) (cv i) (fun f hf' => ?_) (fun f c h => hc i x f c hx h) (fun f c h => hr i x f c hx h)
    exact hf i x f _ hx (List.getElem?_eq_getElem hf')

theorem pure_ixs (hf : FrRel fb μ g w fr a.tmps) {sz : Nat} {o : Oper} {xs : List AOprd} {v : V} (hc : chkP P o.op (.ixs sz) xs = true) (hr : runP (.ixs sz) (xs.map (ev fr)) = some v) : Gives P fb μ g w a o v := by
  unfold chkP at hc
  simp only at hc
  split at hc
  · rename_i t x y hop
    simp only [Bool.and_eq_true] at hc
    obtain ⟨hx, ht⟩ := hc
    obtain ⟨x', y', rfl, h1, h2⟩ := chk2 hx
    have r1 := ev_rel hf h1
    have r2 := ev_rel hf h2
    obtain ⟨d, hd, hd'⟩ := run_under ht
    split at hd' <;> try cases hd'
    rename_i e
    obtain ⟨inf, hinf, hs⟩ := szIs_info hd'
    simp only [runP, List.map, two, ixsV] at hr
    generalize ev fr x' = vx at *
    generalize ev fr y' = vy at *
    split at hr <;> try cases hr
    rename_i kk j
    have e2 := r2.int_inv
    have ex : ∀ (p : Addr) (n cap : Nat), a.eval x = .slice (some p) n cap → 0 ≤ j → j < n → (execOp a.eval o).run P w = .ok (.value (.pointer (some (p.add (j.toNat * sz))))) w := fun p n cap hp h0 h1 => by
      simp only [execOp, hop, hp, e2]; simp [run_indexAt_sl hd hinf hs p n cap kk j h0 h1]
    split at hr <;> try cases hr
    · rename_i sz' b k len
      split at hr <;> cases hr
      rename_i hj
      obtain ⟨rfl, h0, h1⟩ := hj
      generalize hxv : a.eval x = u at r1
      cases r1 with
      | sl _ _ _ _ B lo cap hl hm hn hroom hcnt =>
        refine ⟨_, ex _ _ _ hxv h0 h1, ?_⟩
        rw [add_lit]
        have e := VRel.ptr (fb := fb) (w := w) b (k + j.toNat) 0 sz B lo hl hm
        rw [Nat.add_mul, Nat.add_zero, ← Nat.add_assoc] at e
        exact e
      | sl0 _ _ _ ad hl hcnt => omega
      | slD _ _ _ _ ad cap hd hna hn =>
        cases ad with
        | none => have := hna rfl; omega
        | some p => exact ⟨_, ex _ _ _ hxv h0 h1, .ptrD _ _ _ _ hd⟩
    · split at hr <;> cases hr
      rename_i hj
      obtain ⟨rfl, h0, h1⟩ := hj
      cases hxv : a.eval x <;> rw [hxv] at r1 <;> cases r1
      · rename_i hl hm hn
        refine ⟨_, ex _ _ _ hxv h0 h1, ?_⟩
        rw [add_lit, Nat.add_assoc]
        exact .ptr _ _ _ _ _ _ hl hm
      · rename_i hd hn
        exact ⟨_, ex _ _ _ hxv h0 h1, .ptrD _ _ _ _ hd⟩
      · omega
    · split at hr <;> try cases hr
      rename_i hj
      obtain ⟨rfl, h0⟩ := hj
      split at hr <;> cases hr
      rename_i el hel
      cases r1 with | r _ _ h =>
      cases hxv : a.eval x <;> rw [hxv] at h <;> try (cases h; done)
      rename_i ad n cap
      obtain ⟨p, rfl, hsp, hr⟩ := sl_elem h hel
      have hlt : j < n := by
        have h2 := (List.getElem?_eq_some_iff.1 hel).1
        cases h
        omega
      exact ⟨_, ex _ _ _ hxv h0 hlt, .r _ _ hr⟩
  · cases hc
end
end Go.PV
