/- Loads and conversions of bytes, as operations. -/
import Derived.Test.YtdaalannljjkjaaGreatAlloc
import Derived.Laws.BytesString
set_option linter.unusedVariables false
set_option linter.unusedSimpArgs false
namespace Go.PV
variable {P : Program}
section
variable {F : Nat → Prop} {μ : Mu} {h : Heap} {w : World} {fr : List V} {a : Act}

theorem load_op (H : HRel F μ (lk h) w) (hf : FrRel (fbOf F μ (lk h)) μ (lk h) w fr a.tmps) {o : Oper} {ag : Bool} {n : Nat} {x : AOprd} {v : V} (hc : chkL P o.op ag n x = true)
    (hr : loadH h ag n (ev fr x) = some v) : Gives P (fbOf F μ (lk h)) μ (lk h) w a o v := by
  unfold chkL at hc
  split at hc <;> try cases hc
  rename_i t y hop
  simp only [Bool.and_eq_true] at hc
  obtain ⟨⟨h1, h2⟩, h3⟩ := hc
  obtain ⟨d, hd, hrow⟩ := run_under h3
  obtain ⟨cv, k1, k2⟩ := load_sound (P := P) H hd (by simpa using hrow) h2 (ev_rel hf h1) hr
  exact ⟨cv, by simp [execOp, hop, k1], k2⟩

theorem foldl_push_ints : ∀ (l : List Int) (r : ByteArray), l.foldl (fun r n => r.push (UInt8.ofNat n.toNat)) r = ⟨r.data ++ (l.map fun n => UInt8.ofNat n.toNat).toArray⟩
  | [], r => by simp
  | b :: l, r => by
    simp only [List.foldl_cons]
    rw [foldl_push_ints l]
    simp [ByteArray.push]

theorem u8s_spec : ∀ {xs : List R} {l : List UInt8}, u8s xs = some l → ∃ ns : List Int, xs = ns.map (R.int .u8) ∧ l = ns.map fun n => UInt8.ofNat n.toNat
  | [], l, h => by simp [u8s] at h; subst h; exact ⟨[], rfl, rfl⟩
  | x :: t, l, h => by
    unfold u8s at h
    split at h <;> try cases h
    · rename_i hq; cases hq
    · rename_i n t' hq
      cases hq
      split at h <;> cases h
      rename_i l' hl'
      obtain ⟨ns, rfl, rfl⟩ := u8s_spec hl'
      exact ⟨n :: ns, rfl, rfl⟩

theorem elemsS_R {x : V} {xs : List R} (he : elemsS h x = some xs) : elemsR h x = some xs ∧ ∀ s, x ≠ .r (.str s) := by
  unfold elemsS at he
  split at he
  · cases he
  · rename_i hn; exact ⟨he, fun s hs => hn s hs⟩

/-- What lies behind a value with elements is a slice. -/
theorem elemsR_slice (H : HRel F μ (lk h) w) {x : V} {xs : List R} {v : Value} (hv : VRel (fbOf F μ (lk h)) μ (lk h) w x v) (hns : ∀ s, x ≠ .r (.str s)) (he : elemsR h x = some xs) :
    ∃ ad n cap sz, v = .slice ad n cap ∧ strideOf x = some sz := by
  unfold elemsR at he
  split at he
  · have r := hv.r_inv
    cases r with | sl sz _ _ ad cap => exact ⟨ad, _, cap, _, rfl, rfl⟩
  · rename_i s; exact absurd rfl (hns s)
  · cases hv <;> exact ⟨_, _, _, _, rfl, rfl⟩
  · cases hv <;> exact ⟨_, _, _, _, rfl, rfl⟩
  · cases he

theorem b2s_op (H : HRel F μ (lk h) w) (hf : FrRel (fbOf F μ (lk h)) μ (lk h) w fr a.tmps) {o : Oper} {x : AOprd} {xs : List R} {l : List UInt8} (hc : chkB P o.op x = true)
    (he : elemsS h (ev fr x) = some xs) (hl : u8s xs = some l) : Gives P (fbOf F μ (lk h)) μ (lk h) w a o (.r (.str l)) := by
  unfold chkB at hc
  split at hc <;> try cases hc
  rename_i s d y hop
  simp only [Bool.and_eq_true] at hc
  obtain ⟨⟨h1, h2⟩, h3⟩ := hc
  obtain ⟨dd, hd, hd'⟩ := run_under h2
  split at hd' <;> try cases hd'
  split at h3 <;> try cases h3
  rename_i e hs
  obtain ⟨de, hde, hde'⟩ := run_under h3
  split at hde' <;> try cases hde'
  have r1 := ev_rel hf h1
  generalize ev fr x = vx at *
  obtain ⟨he1, hns⟩ := elemsS_R he
  obtain ⟨ad, n, cap, sz, hv, hst⟩ := elemsR_slice H r1 hns he1
  rw [hv] at r1
  obtain ⟨hlen, B, o', ha, hsz, hcell⟩ := elemsR_sound H r1 hst he1
  obtain ⟨ns, rfl, rfl⟩ := u8s_spec hl
  refine ⟨.string ⟨(ns.map fun n => UInt8.ofNat n.toNat).toArray⟩, ?_, .r _ _ (.str _)⟩
  have hrun : (convert s d (.slice ad n cap)).run P w = .ok (.string ⟨(ns.map fun n => UInt8.ofNat n.toNat).toArray⟩) w := by
    rw [run_convert_bytes_string w s d e ad n cap hs hde hd]
    have hlen : ns.length = n := by simpa using hlen
    by_cases hn : ns.length = 0
    · have : ns = [] := List.eq_nil_of_length_eq_zero hn
      subst this
      have : n = 0 := by simpa using hlen.symm
      subst this
      cases ad with
      | none => simp [Conv.bytesToString]; rfl
      | some ad =>
        rw [run_bytesToString w ad 0 cap [] (run_loadCells_list (P := P) w ad [] (by simp))]
        rfl
    · have ha := ha (by simpa using Nat.pos_of_ne_zero hn)
      subst ha
      have hsz1 : sz = 1 := by
        have hq : (ns.map (R.int .u8))[0]? = some (R.int .u8 (ns[0]'(by omega))) := by simp [Nat.pos_of_ne_zero hn]
        exact (hsz 0 _ hq).symm
      subst hsz1
      have hload := run_loadCells_list (P := P) w ⟨B, o', none⟩ (ns.map (Value.int .u8)) (fun j v hj => by
        rw [List.getElem?_map] at hj
        cases hq : ns[j]? with
        | none => rw [hq] at hj; cases hj
        | some q =>
          rw [hq] at hj; cases hj
          obtain ⟨v, k1, k2⟩ := hcell j (.int .u8 q) 0 (.int .u8 q) (by simp [hq]) rfl
          cases k2
          rw [add_lit]
          simpa using k1.1)
      simp only [List.length_map, hlen] at hload
      rw [run_bytesToString w _ n cap ns hload, foldl_push_ints]
      have he0 : ByteArray.empty.data = #[] := rfl
      rw [he0]
      simp
  simp [execOp, hop, hv, hrun]
end
end Go.PV
