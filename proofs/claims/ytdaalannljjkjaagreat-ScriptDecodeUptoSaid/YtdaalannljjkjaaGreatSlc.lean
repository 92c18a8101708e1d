/- Slices of strings, slices, arrays; lengths. -/
import Derived.Test.YtdaalannljjkjaaGreatAgg
set_option linter.unusedVariables false
set_option linter.unusedSimpArgs false
namespace Go.PV
variable {P : Program}
section
variable {fb : Nat → Prop} {μ : Mu} {g : Lk} {w : World} {fr : List V} {a : Act}

theorem natOf_inv {v : V} {u : Value} {n : Nat} (hv : VRel fb μ g w v u) (h : natOf v = some n) : ∃ k i, u = .int k i ∧ 0 ≤ i ∧ i.toNat = n := by
  unfold natOf at h
  split at h
  · split at h <;> cases h
    rename_i k i h0
    exact ⟨k, i, hv.int_inv, h0, rfl⟩
  · cases h

theorem run_sliceBound {k : IntKind} {i : Int} {y n : Nat} {c : BoundsCode} (h0 : 0 ≤ i) (hn : i.toNat = n) (hy : n ≤ y) : (Instr.sliceBound (.int k i) y c).run P w = .ok n w := by
  have : i ≤ y := by omega
  simp [Instr.sliceBound, asIntOf, h0, this, hn]

theorem bounds_run (hf : FrRel fb μ g w fr a.tmps) (isSlice : Bool) {len cap : Nat} (hcap : len ≤ cap) {lo hi mx : Bool} {l h m : Option Operand} {ys : List AOprd}
    (hc : chkOprds (l.toList ++ h.toList ++ m.toList) ys = true) (hl : l.isSome = lo) (hh : h.isSome = hi) (hm : m.isSome = mx) (hmh : m.isSome = true → h.isSome = true)
    {p q : Nat} {c : Bool} (hb : bounds lo hi mx len (ys.map (ev fr)) = some (p, q, c)) :
    (Instr.sliceBounds isSlice len cap (l.map a.eval) (h.map a.eval) (m.map a.eval)).run P w = .ok (p, q, if mx then q else cap) w ∧ p ≤ q ∧ q ≤ len ∧ c = mx := by
  subst hl hh hm
  cases l <;> cases h <;> cases m <;> simp at hmh
  · cases ys with
    | cons _ _ => simp [chkOprds] at hc
    | nil =>
      simp [bounds] at hb
      obtain ⟨rfl, rfl, rfl⟩ := hb
      simp [Instr.sliceBounds]
  · rename_i h
    obtain ⟨y, rfl, h1⟩ := chk1 (by simpa using hc)
    simp only [bounds, List.map, Option.isSome] at hb
    cases hn : natOf (ev fr y) with
    | none => simp [hn] at hb
    | some n =>
      simp [hn] at hb
      obtain ⟨hle, rfl, rfl, rfl⟩ := hb
      obtain ⟨k, i, he, h0, hi⟩ := natOf_inv (ev_rel hf h1) hn
      refine ⟨?_, by omega, hle, rfl⟩
      simp only [Instr.sliceBounds, Option.map, he, Sem.run_bind, Sem.run_pure, Result.andThen_ok]
      rw [run_sliceBound h0 hi (by omega)]
      simp
  · rename_i h m
    obtain ⟨y, y', rfl, h1, h2⟩ := chk2 (by simpa using hc)
    simp only [bounds, List.map, Option.isSome] at hb
    cases hn : natOf (ev fr y) with
    | none => simp [hn] at hb
    | some n =>
      cases hn' : natOf (ev fr y') with
      | none => simp [hn, hn'] at hb
      | some n' =>
        simp [hn, hn'] at hb
        obtain ⟨⟨rfl, hle⟩, rfl, rfl, rfl⟩ := hb
        obtain ⟨k, i, he, h0, hi⟩ := natOf_inv (ev_rel hf h1) hn
        obtain ⟨k', i', he', h0', hi'⟩ := natOf_inv (ev_rel hf h2) hn'
        refine ⟨?_, by omega, hle, rfl⟩
        simp only [Instr.sliceBounds, Option.map, he, he', Sem.run_bind, Sem.run_pure, Result.andThen_ok]
        rw [run_sliceBound h0' hi' (by omega)]
        simp only [Result.andThen_ok]
        rw [run_sliceBound h0 hi (by omega)]
        simp
  · rename_i l
    obtain ⟨y, rfl, h1⟩ := chk1 (by simpa using hc)
    simp only [bounds, List.map, Option.isSome] at hb
    cases hn : natOf (ev fr y) with
    | none => simp [hn] at hb
    | some n =>
      simp [hn] at hb
      obtain ⟨hle, rfl, rfl, rfl⟩ := hb
      obtain ⟨k, i, he, h0, hi⟩ := natOf_inv (ev_rel hf h1) hn
      refine ⟨?_, hle, by omega, rfl⟩
      simp only [Instr.sliceBounds, Option.map, he, Sem.run_bind, Sem.run_pure, Result.andThen_ok]
      rw [run_sliceBound h0 hi hle]
      simp
  · rename_i l h
    obtain ⟨y, y', rfl, h1, h2⟩ := chk2 (by simpa using hc)
    simp only [bounds, List.map, Option.isSome] at hb
    cases hn : natOf (ev fr y) with
    | none => simp [hn] at hb
    | some n =>
      cases hn' : natOf (ev fr y') with
      | none => simp [hn, hn'] at hb
      | some n' =>
        simp [hn, hn'] at hb
        obtain ⟨⟨hle, hle'⟩, rfl, rfl, rfl⟩ := hb
        obtain ⟨k, i, he, h0, hi⟩ := natOf_inv (ev_rel hf h1) hn
        obtain ⟨k', i', he', h0', hi'⟩ := natOf_inv (ev_rel hf h2) hn'
        refine ⟨?_, hle, hle', rfl⟩
        simp only [Instr.sliceBounds, Option.map, he, he', Sem.run_bind, Sem.run_pure, Result.andThen_ok]
        rw [run_sliceBound h0' hi' (by omega)]
        simp only [Result.andThen_ok]
        rw [run_sliceBound h0 hi hle]
        simp
  · rename_i l h m
    obtain ⟨y, y', y'', rfl, h1, h2, h3⟩ := chk3 (by simpa using hc)
    simp only [bounds, List.map, Option.isSome] at hb
    cases hn : natOf (ev fr y) with
    | none => simp [hn] at hb
    | some n =>
      cases hn' : natOf (ev fr y') with
      | none => simp [hn, hn'] at hb
      | some n' =>
        cases hn'' : natOf (ev fr y'') with
        | none => simp [hn, hn', hn''] at hb
        | some n'' =>
          simp [hn, hn', hn''] at hb
          obtain ⟨⟨hle, rfl, hle'⟩, rfl, rfl, rfl⟩ := hb
          obtain ⟨k, i, he, h0, hi⟩ := natOf_inv (ev_rel hf h1) hn
          obtain ⟨k', i', he', h0', hi'⟩ := natOf_inv (ev_rel hf h2) hn'
          obtain ⟨k'', i'', he'', h0'', hi''⟩ := natOf_inv (ev_rel hf h3) hn''
          refine ⟨?_, hle, hle', rfl⟩
          simp only [Instr.sliceBounds, Option.map, he, he', he'', Sem.run_bind, Sem.run_pure, Result.andThen_ok]
          rw [run_sliceBound h0'' hi'' (by omega)]
          simp only [Result.andThen_ok]
          rw [run_sliceBound h0' hi' (by omega)]
          simp only [Result.andThen_ok]
          rw [run_sliceBound h0 hi hle]
          simp

theorem extract_str (s : List UInt8) (p q : Nat) : (⟨s.toArray⟩ : ByteArray).extract p q = ⟨((s.drop p).take (q - p)).toArray⟩ := by
  apply ByteArray.ext
  rw [ByteArray.data_extract]
  apply Array.ext'
  simp [List.drop_take]

theorem chkCons {x : Operand} {xs : List Operand} {ys : List AOprd} (h : chkOprds (x :: xs) ys = true) : ∃ y t, ys = y :: t ∧ chkOprd x y = true ∧ chkOprds xs t = true := by
  cases ys with
  | nil => simp [chkOprds] at h
  | cons y t => simp only [chkOprds, Bool.and_eq_true] at h; exact ⟨y, t, rfl, h.1, h.2⟩

theorem pure_slstr (hf : FrRel fb μ g w fr a.tmps) {lo hi : Bool} {o : Oper} {xs : List AOprd} {v : V} (hc : chkP P o.op (.slstr lo hi) xs = true) (hr : runP (.slstr lo hi) (xs.map (ev fr)) = some v) : Gives P fb μ g w a o v := by
  unfold chkP at hc
  simp only at hc
  split at hc
  · rename_i t x l h hop
    simp only [Bool.and_eq_true] at hc
    obtain ⟨⟨⟨ht, hx⟩, hl⟩, hh⟩ := hc
    obtain ⟨d, hd, hd'⟩ := run_under ht
    have hd : P.underlying t = some .string := by cases d <;> simp at hd' <;> exact hd
    obtain ⟨y, ys, rfl, h1, h2⟩ := chkCons (by simpa using hx)
    have r1 := ev_rel hf h1
    simp only [runP, List.map, slstrV] at hr
    generalize ev fr y = vx at *
    split at hr <;> try cases hr
    rename_i s
    have e1 := r1.str_inv
    split at hr <;> cases hr
    rename_i p q c hb
    have hsz : (⟨s.toArray⟩ : ByteArray).size = s.length := by simp [ByteArray.size]
    obtain ⟨hrun, _, _, _⟩ := bounds_run (P := P) (m := none) (mx := false) hf false (Nat.le_refl s.length) (by simpa using h2) (by simpa using hl) (by simpa using hh) rfl (by simp) hb
    refine ⟨.string ⟨((s.drop p).take (q - p)).toArray⟩, ?_, .r _ _ (.str _)⟩
    simp only [Option.map_none] at hrun
    simp only [execOp, hop, e1, Instr.sliceAt, Sem.run_bind, run_underlying hd, Result.andThen_ok, Instr.slice]
    simp only [Option.map_none, Option.isSome, Bool.false_eq_true, if_false, hsz, Sem.run_bind, Sem.run_pure, Result.andThen_ok, hrun, extract_str]
  · cases hc

/-- The elements p .. q of a read-only slice. -/
theorem sl_sub {sz : Nat} {k k' : SK} {xs : List R} {ad : Option Addr} {n cap p q cap' : Nat} (h : RRel fb w (.sl sz k xs) (.slice ad n cap)) (hpq : p ≤ q) (hq : q ≤ n) (hcap : q - p ≤ cap')
    (hcz : cap' ≤ cap - p)
    (hk : k' = .nil → k = .nil) (hk2 : k' = .full → cap' = q - p) (hk3 : k' ≠ .nn) (ad' : Option Addr) (had : ad' = ad.map (·.add (p * sz)) ∨ (p = q ∧ ad' = ad)) :
    RRel fb w (.sl sz k' ((xs.drop p).take (q - p))) (.slice ad' (q - p) cap') := by
  cases h with
  | sl _ _ _ _ _ B o cv ha hcap0 hnone hnil hfull hnn hf hsz hc hr =>
    have hlen : ((xs.drop p).take (q - p)).length = q - p := by simp; omega
    have el : ∀ {i : Nat} {x : R}, ((xs.drop p).take (q - p))[i]? = some x → xs[p + i]? = some x := fun {i x} h => by
      rw [List.getElem?_take] at h
      split at h
      · simpa using h
      · cases h
    have hspot : ∀ ad2 : Addr, (⟨ad2.block, ad2.off, none⟩ : Addr) = ad2 → True := fun _ _ => trivial
    have := RRel.sl (fb := fb) (w := w) sz k' ((xs.drop p).take (q - p)) ad' cap' B (o + p * sz) (fun i f => cv (p + i) f)
      (fun h0 => by
        rw [hlen] at h0
        have hxs : 0 < xs.length := by omega
        rcases had with rfl | ⟨rfl, _⟩
        · rw [ha hxs]; simp [add_lit]
        · omega)
      (by rw [hlen]; exact hcap)
      (fun hn => by
        have : ad = none := by
          rcases had with h | ⟨_, h⟩
          · rw [h] at hn; simpa using hn
          · rw [← h]; exact hn
        have := hnone this; omega)
      (fun hk' => by
        obtain ⟨h1, h2⟩ := hnil (hk hk')
        subst h1 h2
        refine ⟨?_, by simp⟩
        rcases had with h | ⟨_, h⟩ <;> simp [h])
      (fun hk' => by rw [hlen]; exact hk2 hk') (fun hk' => absurd hk' hk3)
      (fun i x f c h1 h2 => hf (p + i) x f c (el h1) h2) (fun i x h1 => hsz (p + i) x (el h1))
      (fun i x f c h1 h2 => by
        have := hc (p + i) x f c (el h1) h2
        rwa [show o + (p + i) * sz + f = o + p * sz + i * sz + f by rw [Nat.add_mul]; omega] at this)
      (fun i x f c h1 h2 => hr (p + i) x f c (el h1) h2)
    rwa [hlen] at this
end
end Go.PV
