/- Slices of slices, up to what the block holds. -/
import Derived.Test.YtdaalannljjkjaaGreatChOp
set_option linter.unusedVariables false
set_option linter.unusedSimpArgs false
namespace Go.PV
variable {P : Program}
section
variable {F : Nat → Prop} {μ : Mu} {h h' : Heap} {w w' : World} {fr : List V} {a : Act}

theorem sl_full {fb : Nat → Prop} {sz : Nat} {ad : Option Addr} : RRel fb w (.sl sz .full []) (.slice ad 0 0) :=
  .sl sz .full [] ad 0 0 0 (fun _ _ => .bool true) (by simp) (by simp) (by simp) (by simp) (by simp) (by simp) (by simp) (by simp) (by simp) (by simp)

theorem bounds_len (n1 n2 cap : Nat) (lo mx : Option Value) (v : Value) : Instr.sliceBounds true n1 cap lo (some v) mx = Instr.sliceBounds true n2 cap lo (some v) mx := by
  unfold Instr.sliceBounds
  cases mx <;> rfl

theorem slx_op (H : HRel F μ (lk h) w) (hf : FrRel (fbOf F μ (lk h)) μ (lk h) w fr a.tmps) {o : Oper} {sz : Nat} {lo hi mx : Bool} {xs : List AOprd} {v : V} (hμ : ∀ b, h.length ≤ b → μ b = none) (hc : chkSlx P o.op sz lo hi mx xs = true)
    {Γ : CallF} (hr : runC Γ (.slx sz lo hi mx) (xs.map (ev fr)) h = some (v, h')) : CGives P F μ h w a o h' v := by
  simp only [runC] at hr
  split at hr <;> cases hr
  rename_i hr
  have fin : Gives P (fbOf F μ (lk h)) μ (lk h) w a o v → CGives P F μ h w a o h v := fun ⟨cv, h1, h2⟩ =>
    ⟨.value cv, cv, w, μ, h1, .inl rfl, Evo.refl _ _ _ _ _ fun b blk _ _ => by cases blk <;> simp [Blk.live], H, h2, Nat.le_refl _, fun _ _ => rfl, hμ⟩
  refine fin ?_
  unfold slxH at hr
  split at hr
  · rename_i vs sz' b k len t hvs
    split at hr
    · cases hr
    · rename_i hsz
      have hsz : sz = sz' := Decidable.not_not.1 hsz
      subst hsz
      split at hr <;> try cases hr
      rename_i blk hb
      split at hr <;> try cases hr
      rename_i hal
      split at hr <;> try cases hr
      rename_i p q c hbd
      unfold chkSlx at hc
      split at hc <;> try cases hc
      rename_i t' x l hh' m hop
      simp only [Bool.and_eq_true] at hc
      obtain ⟨⟨⟨⟨⟨ht, hx⟩, hl⟩, hh⟩, hm⟩, hmh⟩ := hc
      have hl : l.isSome = lo := by simpa using hl
      have hh : hh'.isSome = hi := by simpa using hh
      have hm : m.isSome = mx := by simpa using hm
      have hmh : m.isSome = true → hh'.isSome = true := by cases m <;> cases hh' <;> simp at hmh ⊢
      obtain ⟨d, hd, hd'⟩ := run_under ht
      split at hd' <;> try cases hd'
      rename_i e
      obtain ⟨inf, hinf, hs⟩ := szIs_info hd'
      obtain ⟨y, ys, rfl, h1, h2⟩ := chkCons (by simpa using hx)
      have h2 : chkOprds (l.toList ++ hh'.toList ++ m.toList) ys = true := by simpa using h2
      have r1 := ev_rel hf h1
      simp only [List.map, List.cons.injEq] at hvs
      obtain ⟨hv1, rfl⟩ := hvs
      rw [hv1] at r1
      generalize hxv : a.eval x = u at r1
      have ex : ∀ {ad : Option Addr} {cap : Nat}, u = .slice ad len cap → (if hi then cntB blk - k else len) ≤ cap →
          (execOp a.eval o).run P w = .ok (.value (.slice (if (if mx then q else cap) = p then ad else ad.map (·.add (p * sz))) (q - p) ((if mx then q else cap) - p))) w ∧ p ≤ q ∧ q ≤ (if hi then cntB blk - k else len) ∧ c = mx := fun {ad cap} he hcap => by
        obtain ⟨hrun, h3, h4, h5⟩ := bounds_run (P := P) hf true hcap h2 hl hh hm hmh hbd
        refine ⟨?_, h3, h4, h5⟩
        have hrun' : (Instr.sliceBounds true len cap (l.map a.eval) (hh'.map a.eval) (m.map a.eval)).run P w = .ok (p, q, if mx then q else cap) w := by
          cases hh' with
          | none => simp at hh; subst hh; simpa using hrun
          | some z => rw [Option.map_some, bounds_len len (if hi then cntB blk - k else len)]; exact hrun
        simp only [execOp, hop, hxv, he]
        simp [run_slice_sl hd hinf hs hrun']
      cases r1 with
      | sl _ _ _ _ B lo' cap hl' hm' hn hroom hcnt =>
        have hcnt' : cntB blk ≤ k + cap := by simpa [cntAt, lk, hb] using hcnt
        have hL : (if hi then cntB blk - k else len) ≤ cap := by split <;> omega
        obtain ⟨hrun, h3, h4, h5⟩ := ex rfl hL
        have hq : q ≤ cap := Nat.le_trans h4 hL
        subst h5
        cases c with
        | false =>
          simp only [Bool.false_eq_true, if_false] at hr hrun
          cases hr
          refine ⟨_, hrun, ?_⟩
          by_cases hcp : cap = p
          · rw [if_pos hcp, show q - p = 0 by omega, show cap - p = 0 by omega]
            exact .sl0 _ _ _ _ hl' (by omega)
          · rw [if_neg hcp]
            simp only [Option.map_some, add_lit]
            have := VRel.sl (fb := fbOf F μ (lk h)) (w := w) sz b (k + p) (q - p) B lo' (cap - p) hl' hm' (by omega) (by rwa [show k + p + (cap - p) = k + cap by omega]) (by omega)
            rwa [Nat.add_mul, ← Nat.add_assoc] at this
        | true =>
          simp only [if_true] at hr hrun
          split at hr
          · rename_i hqp
            cases hr
            refine ⟨_, hrun, ?_⟩
            rw [show q - p = 0 by omega]
            exact .r _ _ sl_full
          · rename_i hqp
            split at hr <;> cases hr
            rename_i hkq
            refine ⟨_, hrun, ?_⟩
            rw [if_neg hqp]
            simp only [Option.map_some, add_lit]
            obtain ⟨arr, e', fr', hB, hsize⟩ := hroom
            have hmul : (k + p + (q - p)) * sz ≤ (k + cap) * sz := Nat.mul_le_mul_right _ (by omega)
            have := VRel.sl (fb := fbOf F μ (lk h)) (w := w) sz b (k + p) (q - p) B lo' (q - p) hl' hm' (Nat.le_refl _) ⟨arr, e', fr', hB, by omega⟩ (by simp [cntAt, lk, hb]; omega)
            rwa [Nat.add_mul, ← Nat.add_assoc] at this
      | sl0 _ _ _ ad hl' hcnt =>
        have hcnt' : cntB blk ≤ k := by simpa [cntAt, lk, hb] using hcnt
        have hL : (if hi then cntB blk - k else 0) ≤ 0 := by split <;> omega
        obtain ⟨hrun, h3, h4, h5⟩ := ex rfl hL
        have hq : q = 0 := by omega
        have hp : p = 0 := by omega
        subst hq hp h5
        cases c with
        | false =>
          simp only [Bool.false_eq_true, if_false] at hr hrun
          cases hr
          exact ⟨_, hrun, by simpa using VRel.sl0 (fb := fbOf F μ (lk h)) (w := w) sz b k ad hl' (by omega)⟩
        | true =>
          simp only [if_true] at hr hrun
          cases hr
          exact ⟨_, hrun, by simpa using VRel.r (μ := μ) (g := lk h) _ _ (sl_full (fb := fbOf F μ (lk h)) (w := w) (sz := sz) (ad := ad))⟩
      | slD _ _ _ _ ad cap hdd =>
        have := dead_blk hb hdd
        subst this
        cases hal
  · exact pure_slsl hf (o := o) (by unfold chkP; unfold chkSlx at hc; exact hc) hr
end
end Go.PV
