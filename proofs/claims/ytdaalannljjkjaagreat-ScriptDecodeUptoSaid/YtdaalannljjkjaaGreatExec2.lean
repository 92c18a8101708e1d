/- Code, run. -/
import Derived.Test.YtdaalannljjkjaaGreatHnt
set_option linter.unusedVariables false
set_option linter.unusedSimpArgs false
namespace Go.PV
variable {P : Program}

/-- What is asked of regions that draw. -/
def DrawSound (P : Program) (drawOk : Array Oper → List AOper → Bool) : Prop :=
  ∀ {Γ : CallF}, Sound P Γ → ∀ {ops : Array Oper} {l : List AOper} {id k : Nat} {F : Nat → Prop} {μ : Mu} {a : Act} {w : World} {s s' : St} {o : Out} {Q : Exit → Act → World → Prop}, drawOk ops l = true → SR F μ s.fr s.h a w → k ≤ s.h.length →
    dRegion Γ true l s = some (o, s') → (∀ μ' a' w', SR F μ' s'.fr s'.h a' w' → Goes k F μ s.h a w μ' s'.h a' w' → Q .normal a' w') → (Code.region id ops true).wp P Q a w

theorem exec_eq (Γ : CallF) (n k : Nat) : 
    (∀ s, exec Γ n k .skip s = some (.normal, s)) ∧ (∀ draw ops, exec Γ n k (.region draw ops) = dRegion Γ draw ops) ∧ (∀ x y, exec Γ n k (.seq x y) = dSeq (exec Γ n k x) (exec Γ n k y)) ∧
    (∀ c x y, exec Γ n k (.cond c x y) = dCond c (exec Γ n k x) (exec Γ n k y)) ∧ (∀ id x, exec Γ n k (.block id x) = dBlock id (exec Γ n k x)) ∧ (∀ live x, exec Γ n k (.loop live x) = loopN (exec Γ n k x) (canon k live) n) ∧
    (∀ id s, exec Γ n k (.exit id) s = some (.exit id, s)) ∧ (∀ s, exec Γ n k .ret s = some (.ret, s)) :=
  ⟨fun _ => rfl, fun _ _ => rfl, fun _ _ => rfl, fun _ _ _ => rfl, fun _ _ => rfl, fun _ _ => rfl, fun _ _ => rfl, fun _ => rfl⟩

section
variable {F : Nat → Prop} {k : Nat}

/-- A piece of code and what the evaluator makes of it. -/
def CodeSound (P : Program) (F : Nat → Prop) (k : Nat) (d : Den) (c : Code) : Prop :=
  ∀ (μ : Mu) (a : Act) (w : World) (s s' : St) (o : Out) (Q : Exit → Act → World → Prop), SR F μ s.fr s.h a w → k ≤ s.h.length → d s = some (o, s') →
    (∀ μ' a' w', SR F μ' s'.fr s'.h a' w' → Goes k F μ s.h a w μ' s'.h a' w' → Q (exitOf o) a' w') → c.wp P Q a w

theorem loop_sound {d : Den} {c : Code} {live : List Bool} (hd : CodeSound P F k d c) : ∀ (n : Nat) (μ : Mu) (a : Act) (w : World) (s s' : St) (o : Out) (Q : Exit → Act → World → Prop), SR F μ s.fr s.h a w → k ≤ s.h.length → loopN d (canon k live) n s = some (o, s') →
    (∀ μ' a' w', SR F μ' s'.fr s'.h a' w' → Goes k F μ s.h a w μ' s'.h a' w' → Q (exitOf o) a' w') → Code.rounds P c Q n a w
  | 0, μ, a, w, s, s', o, Q, S, hk, hr, hQ => by cases hr
  | n + 1, μ, a, w, s, s', o, Q, S, hk, hr, hQ => by
    rw [loopN] at hr
    split at hr <;> try cases hr
    rename_i s1 hs1
    obtain ⟨μ1, S1, G1⟩ := canon_sound S hk hs1
    show c.wp P (Exit.then (Code.rounds P c Q n) Q) a w
    unfold loopK at hr
    split at hr <;> try cases hr
    rename_i o2 s2 hs2
    split at hr
    · refine hd μ1 a w s1 s2 .normal _ S1 G1.len hs2 fun μ2 a2 w2 S2 G2 => ?_
      exact loop_sound hd n μ2 a2 w2 s2 s' o Q S2 G2.len hr fun μ3 a3 w3 S3 G3 => hQ μ3 a3 w3 S3 ((G1.trans G2).trans G3)
    · cases hr
      exact hd μ1 a w s1 s' (.exit _) _ S1 G1.len hs2 fun μ2 a2 w2 S2 G2 => hQ μ2 a2 w2 S2 (G1.trans G2)
    · cases hr
      exact hd μ1 a w s1 s' .ret _ S1 G1.len hs2 fun μ2 a2 w2 S2 G2 => hQ μ2 a2 w2 S2 (G1.trans G2)

theorem exec_sound {Γ : CallF} (hΓ : Sound P Γ) {drawOk : Array Oper → List AOper → Bool} (hD : DrawSound P drawOk) {n : Nat} : ∀ (x : ACode) (c : Code), chkCode P drawOk x c = true → CodeSound P F k (exec Γ n k x) c
  | .skip, c, hc => by
    intro μ a w s s' o Q S hk hr hQ
    cases hr
    cases c <;> simp [chkCode] at hc
    · exact wp_skip (hQ μ a w S (.refl hk))
    · exact wp_label (hQ μ a w S (.refl hk))
  | .region draw l, c, hc => by
    intro μ a w s s' o Q S hk hr hQ
    cases c <;> simp only [chkCode] at hc <;> try cases hc
    rename_i id ops d
    simp only [Bool.and_eq_true, beq_iff_eq] at hc
    obtain ⟨rfl, hc⟩ := hc
    cases d with
    | false =>
      simp only [Bool.and_eq_true, decide_eq_true_eq] at hc
      have hr : dRegion Γ false l s = some (o, s') := hr
      unfold dRegion at hr
      split at hr <;> cases hr
      rename_i r hrun
      refine wp_region ?_
      rw [← hc.1]
      exact runOps_sound hΓ l ⟨s.fr, s.h, [], [], []⟩ r μ a w hc.2 S hk hrun hQ
    | true =>
      have hr : dRegion Γ true l s = some (o, s') := hr
      have ho : o = .normal := by
        unfold dRegion at hr
        split at hr <;> try cases hr
        simp only at hr
        split at hr <;> cases hr
        rfl
      subst ho
      exact hD hΓ hc S hk hr hQ
  | .seq x y, c, hc => by
    intro μ a w s s' o Q S hk hr hQ
    cases c <;> simp only [chkCode] at hc <;> try cases hc
    rename_i p q
    simp only [Bool.and_eq_true] at hc
    have hr : dSeqK (exec Γ n k y) (exec Γ n k x s) = some (o, s') := hr
    unfold dSeqK at hr
    split at hr <;> try cases hr
    rename_i o1 s1 h1
    refine wp_seq ?_
    split at hr
    · refine exec_sound hΓ hD x p hc.1 μ a w s s1 .normal _ S hk h1 fun μ1 a1 w1 S1 G1 => ?_
      exact exec_sound hΓ hD y q hc.2 μ1 a1 w1 s1 s' o Q S1 G1.len hr fun μ2 a2 w2 S2 G2 => hQ μ2 a2 w2 S2 (G1.trans G2)
    · cases hr
      exact exec_sound hΓ hD x p hc.1 μ a w s s' (.exit _) _ S hk h1 hQ
    · cases hr
      exact exec_sound hΓ hD x p hc.1 μ a w s s' .ret _ S hk h1 hQ
  | .cond t x y, c, hc => by
    intro μ a w s s' o Q S hk hr hQ
    cases c <;> simp only [chkCode] at hc <;> try cases hc
    rename_i b p q
    simp only [Bool.and_eq_true] at hc
    have hr : dCondK (exec Γ n k x) (exec Γ n k y) s (ev s.fr t) = some (o, s') := hr
    have r1 := ev_rel S.frel hc.1.1
    generalize ev s.fr t = vt at *
    unfold dCondK at hr
    split at hr <;> try cases hr
    rename_i tb
    have hb := r1.bool_inv
    refine wp_cond hb ?_
    split at hr
    · exact exec_sound hΓ hD x p hc.1.2 μ a w s s' o Q S hk hr hQ
    · exact exec_sound hΓ hD y q hc.2 μ a w s s' o Q S hk hr hQ
  | .block id x, c, hc => by
    intro μ a w s s' o Q S hk hr hQ
    cases c <;> simp only [chkCode] at hc <;> try cases hc
    rename_i id' p
    simp only [Bool.and_eq_true, beq_iff_eq] at hc
    obtain ⟨rfl, hc⟩ := hc
    have hr : dBlockK id (exec Γ n k x s) = some (o, s') := hr
    unfold dBlockK at hr
    split at hr <;> try cases hr
    rename_i o1 s1 h1
    refine wp_block ?_
    split at hr
    · cases hr
      exact exec_sound hΓ hD x p hc μ a w s s' .normal _ S hk h1 hQ
    · rename_i j
      split at hr
      · rename_i hj
        cases hr
        subst hj
        exact exec_sound hΓ hD x p hc μ a w s s' (.exit j) _ S hk h1 fun μ1 a1 w1 S1 G1 => by
          show (if j = j then Q .normal a1 w1 else Q (.exit j) a1 w1)
          rw [if_pos rfl]
          exact hQ μ1 a1 w1 S1 G1
      · rename_i hj
        cases hr
        exact exec_sound hΓ hD x p hc μ a w s s' (.exit j) _ S hk h1 fun μ1 a1 w1 S1 G1 => by
          show (if j = id then Q .normal a1 w1 else Q (.exit j) a1 w1)
          rw [if_neg hj]
          exact hQ μ1 a1 w1 S1 G1
    · cases hr
      exact exec_sound hΓ hD x p hc μ a w s s' .ret _ S hk h1 hQ
  | .loop live x, c, hc => by
    intro μ a w s s' o Q S hk hr hQ
    cases c <;> simp only [chkCode] at hc <;> try cases hc
    rename_i p
    exact wp_loop_rounds n (loop_sound (live := live) (exec_sound hΓ hD x p hc) n μ a w s s' o Q S hk hr hQ)
  | .exit id, c, hc => by
    intro μ a w s s' o Q S hk hr hQ
    cases hr
    cases c <;> simp [chkCode] at hc
    subst hc
    exact wp_exit (hQ μ a w S (.refl hk))
  | .ret, c, hc => by
    intro μ a w s s' o Q S hk hr hQ
    cases hr
    cases c <;> simp [chkCode] at hc
    exact wp_ret (hQ μ a w S (.refl hk))
  | .hint x y, c, hc => by
    intro μ a w s s' o Q S hk hr hQ
    rw [chkCode] at hc
    have hr : dHint x (exec Γ n k y) s = some (o, s') := hr
    unfold dHint at hr
    split at hr <;> try cases hr
    rename_i s1 h1
    obtain ⟨S1, G1⟩ := runH_sound (k := k) S hk h1
    exact exec_sound hΓ hD y c hc μ a w s1 s' o Q S1 G1.len hr fun μ2 a2 w2 S2 G2 => hQ μ2 a2 w2 S2 (G1.trans G2)
end
end Go.PV
