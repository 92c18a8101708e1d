/- Ends of calls; calls by fuel. -/
import Derived.Test.YtdaalannljjkjaaGreatExec2
import Derived.Test.YtdaalannljjkjaaGreatBeq
import Derived.Test.YtdaalannljjkjaaGreatDraw2
set_option linter.unusedVariables false
set_option linter.unusedSimpArgs false
namespace Go.PV
variable {P : Program}

def chkRes (P : Program) : List ResultVar → List ResV → Bool
  | [], l => l.isEmpty
  | r :: rs, l => match l with
    | [] => false
    | x :: xs => (match r with
      | .tmp t => (match x with | .tmp t' => t == t' | _ => false)
      | .cell b t => (match x with | .cell b' ag n => b == b' && szIs P t n && isTy P t (fun d => d.isRow == ag) | _ => false)) && chkRes P rs xs

section
variable {F : Nat → Prop} {μ : Mu} {w w' : World} {a : Act}

/-- One result. -/
def resOne (tmps : Array Value) : ResultVar → Sem Value
  | .tmp t => pure (tmps.getD t undef)
  | .cell b t => do loadVar t (← asAddr (tmps.getD b undef))

theorem getD_nth (l : List V) (t : Nat) : l.getD t .junk = nthV l t := (nthV_eq l t).symm

theorem res_sound {s : St} (S : SR F μ s.fr s.h a w) : ∀ (rs : List ResultVar) (xs : List ResV) (vs : List V), chkRes P rs xs = true → resOf s xs = some vs →
    ∃ cvs : List Value, (rs.mapM (resOne a.tmps)).run P w = .ok cvs w ∧ vs.length = cvs.length ∧ ∀ (i : Nat) (c : V) (v : Value), vs[i]? = some c → cvs[i]? = some v → VRel (fbOf F μ (lk s.h)) μ (lk s.h) w c v
  | [], xs, vs, hc, hr => by
    have : xs = [] := by simpa [chkRes] using hc
    subst this
    simp [resOf] at hr; subst hr
    exact ⟨[], by simp, rfl, by simp⟩
  | r :: rs, xs, vs, hc, hr => by
    cases xs with
    | nil => simp [chkRes] at hc
    | cons x xs =>
      simp only [chkRes, Bool.and_eq_true] at hc
      obtain ⟨hc1, hc2⟩ := hc
      have key : ∀ {c : V} {l : List V}, resOf s xs = some l → vs = c :: l → (∃ cv, (resOne a.tmps r).run P w = .ok cv w ∧ VRel (fbOf F μ (lk s.h)) μ (lk s.h) w c cv) →
          ∃ cvs : List Value, ((r :: rs).mapM (resOne a.tmps)).run P w = .ok cvs w ∧ vs.length = cvs.length ∧ ∀ (i : Nat) (c : V) (v : Value), vs[i]? = some c → cvs[i]? = some v → VRel (fbOf F μ (lk s.h)) μ (lk s.h) w c v := fun {c l} h1 h2 ⟨cv, h3, h4⟩ => by
        subst h2
        obtain ⟨cvs, k1, k2, k3⟩ := res_sound S rs xs l hc2 h1
        refine ⟨cv :: cvs, by simp [List.mapM_cons, h3, k1], by simp [k2], fun i c' v h5 h6 => ?_⟩
        cases i with
        | zero => simp at h5 h6; subst h5 h6; exact h4
        | succ i => exact k3 i c' v (by simpa using h5) (by simpa using h6)
      cases r with
      | tmp t =>
        cases x <;> simp at hc1
        subst hc1
        rw [resOf] at hr
        split at hr <;> cases hr
        rename_i l hl
        exact key hl rfl ⟨a.tmps.getD t undef, by simp [resOne], by rw [getD_nth]; exact S.frel.val t⟩
      | cell b t =>
        cases x <;> simp at hc1
        rename_i b' ag n
        obtain ⟨⟨rfl, h1⟩, h2⟩ := hc1
        rw [resOf] at hr
        split at hr <;> cases hr
        rename_i v l hv hl
        obtain ⟨d, hd, hrow⟩ := run_under h2
        rw [getD_nth] at hv
        obtain ⟨cv, k1, k2⟩ := load_sound (P := P) S.hrel hd (by simpa using hrow) h1 (S.frel.val b) hv
        refine key hl rfl ⟨cv, ?_, k2⟩
        unfold Instr.loadAt at k1
        show ((do loadVar t (← asAddr (a.tmps.getD b undef)) : Sem Value).run P w) = .ok cv w
        generalize a.tmps.getD b undef = p at k1 ⊢
        cases p with
        | pointer q => cases q with
          | none => simp [Instr.sureAddr] at k1
          | some q => simpa [Instr.sureAddr, asAddr] using k1
        | _ => simp [Instr.sureAddr] at k1

theorem results_eq (fn : Func) (tmps : Array Value) (cvs : List Value) (h : (fn.results.toList.mapM (resOne tmps)).run P w = .ok cvs w) : (results fn tmps).run P w = .ok (if h : cvs.toArray.size = 1 then cvs.toArray[0] else .tuple cvs.toArray) w := by
  have e : (fn.results.mapM (resOne tmps)).run P w = .ok cvs.toArray w := by
    rw [Array.mapM_eq_mapM_toList]
    simp [h]
  show ((fn.results.mapM (resOne tmps)) >>= fun vs => pure (if h : vs.size = 1 then vs[0] else .tuple vs)).run P w = _
  simp only [Sem.run_bind, e, Result.andThen_ok, Sem.run_pure]

theorem goes_all {h h' : Heap} {μ' : Mu} {a' : Act} (hμ : ∀ b, h.length ≤ b → μ b = none) (G : Goes h.length F μ h a w μ' h' a' w') : Evo All F μ (lk h) w μ' (lk h') w' :=
  have ht : ∀ b, All b → turns (lk h b) (lk h' b) := fun b _ => by
    by_cases hb : b < h.length
    · exact G.evo.turn b hb
    · intro x hx; rw [lk, List.getElem?_eq_none (by omega)] at hx; cases hx
  have hm : ∀ b, All b → ∀ p, μ b = some p → μ' b = some p := fun b _ p hp => G.evo.mu b (Nat.lt_of_not_le fun hle => by rw [hμ b hle] at hp; cases hp) p hp
  ⟨G.evo.os, G.evo.tape, G.evo.output, G.evo.size, G.evo.same, G.evo.arr, ht, hm, G.evo.own⟩

/-- The end of a call: its value and its heap. -/
theorem finish_sound {k : Nat} {res : List ResV} {fn : Func} {s : St} {v : V} {h' : Heap} (S : SR F μ s.fr s.h a w) (hk : k ≤ s.h.length) (hc : chkRes P fn.results.toList res = true) (hf : finish k res s = some (v, h')) :
    ∃ cv μ', (results fn a.tmps).run P w = .ok cv w ∧ HRel F μ' (lk h') w ∧ VRel (fbOf F μ' (lk h')) μ' (lk h') w v cv ∧ Goes k F μ s.h a w μ' h' a w ∧ (∀ b, h'.length ≤ b → μ' b = none) := by
  unfold finish at hf
  split at hf <;> try cases hf
  rename_i vs hvs
  split at hf <;> try cases hf
  rename_i vs2 h2 hr
  simp only [withVL_eq, withH_eq] at hf
  cases hf
  obtain ⟨cvs, hrun, hlen, hrel⟩ := res_sound S fn.results.toList res vs hc hvs
  have hR := rename_spec hr
  have hn := keepOf_nodup s.h k vs
  have hget : ∀ b, b < k → (keepOf s.h k vs)[b]? = some b := fun b hb => keepOf_get hb
  generalize keepOf s.h k vs = ids at *
  obtain ⟨H', hfb⟩ := hR.hrel (F' := F) hn S.hrel fun B hB => .inl hB
  have hval := hR.vals hfb hrel
  have hl2 : vs2.length = cvs.length := by rw [hR.vlen, hlen]
  refine ⟨_, muOf μ ids, results_eq fn a.tmps cvs hrun, H', ?_, ⟨hR.evo hn hget, fun b hb => by simp [muOf, hget b hb], ?_, rfl⟩, fun b hb => ?_⟩
  · cases vs2 with
    | nil =>
      have : cvs = [] := List.eq_nil_of_length_eq_zero (by simpa using hl2.symm)
      subst this
      exact .tup [] [] rfl (by simp)
    | cons x t =>
      cases t with
      | nil =>
        obtain ⟨y, rfl⟩ : ∃ y, cvs = [y] := by
          cases cvs with
          | nil => simp at hl2
          | cons y u => cases u with
            | nil => exact ⟨y, rfl⟩
            | cons _ _ => simp at hl2
        exact hval 0 x y rfl rfl
      | cons x' t =>
        have hne : ¬ cvs.toArray.size = 1 := by simp at hl2 ⊢; omega
        rw [dif_neg hne]
        exact .tup _ cvs hl2 hval
  · rw [hR.len]
    by_cases hk0 : k = 0
    · omega
    · have := (List.getElem?_eq_some_iff.1 (hget (k - 1) (by omega))).1
      omega
  · rw [hR.len] at hb; simp [muOf, List.getElem?_eq_none hb]

def chkFun (P : Program) (drawOk : Array Oper → List AOper → Bool) (f : Nat) (A : AFun) : Bool :=
  (match P.funcs[f]? with
  | some fn => fn.name != "runtime.NumGoroutine" && fn.ntmps == A.ntmps && chkRes P fn.results.toList A.res && (match fn.body with | some c => chkCode P drawOk A.body c | none => false)
  | none => false)

theorem callO_sound {drawOk : Array Oper → List AOper → Bool} (hD : DrawSound P drawOk) {Γ : CallF} (hΓ : Sound P Γ) {n f : Nat} {A : AFun} (hA : chkFun P drawOk f A = true) {args : List V} {h h' : Heap} {v : V} (hr : callO Γ n A args h = some (v, h')) :
    entered P f = true ∧ ∀ (F : Nat → Prop) (μ : Mu) (w : World) (cargs : List Value), HRel F μ (lk h) w → (∀ b, h.length ≤ b → μ b = none) →
    args.length = cargs.length → (∀ (i : Nat) (c : V) (u : Value), args[i]? = some c → cargs[i]? = some u → VRel (fbOf F μ (lk h)) μ (lk h) w c u) →
    Calls P f cargs.toArray w fun e w' => ∃ cv μ', e = .returned cv ∧ Ends F μ h w μ' h' w' v cv := by
  unfold chkFun at hA
  split at hA <;> try cases hA
  rename_i fn hfn
  simp only [Bool.and_eq_true] at hA
  obtain ⟨⟨⟨hname, hnt⟩, hres⟩, hA⟩ := hA
  split at hA <;> try cases hA
  rename_i c hbody
  have hnt : fn.ntmps = A.ntmps := by simpa using hnt
  refine ⟨by simp [entered, hfn, hbody]; simpa using hname, fun F μ w cargs H hμ hal hargs => ?_⟩
  refine calls_of_wp hfn hbody ?_
  have S0 : SR F μ (args ++ List.replicate (A.ntmps - args.length) .junk) h { tmps := cargs.toArray ++ Array.replicate (fn.ntmps - cargs.toArray.size) undef, defers := [] } w := by
    refine ⟨H, FrRel.of_list (by simp [hal, hnt]) fun i x u h1 h2 => ?_, hμ⟩
    simp only [Array.toList_append] at h2
    by_cases hi : i < args.length
    · rw [List.getElem?_append_left hi] at h1
      rw [List.getElem?_append_left (by simpa [← hal] using hi)] at h2
      exact hargs i x u h1 (by simpa using h2)
    · rw [List.getElem?_append_right (by omega)] at h1
      have := List.eq_of_mem_replicate (List.mem_of_getElem? h1)
      subst this
      exact .junk _
  have fin : ∀ {s : St} {o : Out}, exec Γ n h.length A.body ⟨args ++ List.replicate (A.ntmps - args.length) .junk, h⟩ = some (o, s) → finish h.length A.res s = some (v, h') → (o = .normal ∨ o = .ret) →
      c.wp P (bodyPost P fn fun e w' => ∃ cv μ', e = .returned cv ∧ Ends F μ h w μ' h' w' v cv) { tmps := cargs.toArray ++ Array.replicate (fn.ntmps - cargs.toArray.size) undef, defers := [] } w := fun {s o} hx hf ho => by
    refine exec_sound hΓ hD (F := F) (k := h.length) A.body c hA μ _ w _ s o _ S0 (Nat.le_refl _) hx fun μ1 a1 w1 S1 G1 => ?_
    obtain ⟨cv, μ2, k1, k2, k3, k4, k5⟩ := finish_sound (fn := fn) S1 G1.len hres hf
    have G := G1.trans k4
    have post : a1.defers = [] ∧ ∃ v', (results fn a1.tmps).run P w1 = .ok v' w1 ∧ ∃ cv μ', Ending.returned v' = .returned cv ∧ Ends F μ h w μ' h' w1 v cv :=
      ⟨G1.defers, cv, k1, cv, μ2, rfl, goes_all hμ G, k2, k3, G.len, G.keep, k5⟩
    rcases ho with rfl | rfl <;> exact post
  unfold callO at hr
  split at hr
  · cases hr
  · rename_i o s hno hx
    cases o with
    | normal => exact fin hx hr (.inl rfl)
    | ret => exact fin hx hr (.inr rfl)
    | exit id => exact (hno id rfl).elim
  · cases hr

theorem slNil {fb : Nat → Prop} {g : Lk} {sz : Nat} : VRel fb μ g w (.r (.sl sz .nil [])) (.slice none 0 0) :=
  .r _ _ (.sl sz .nil [] none 0 0 0 (fun _ _ => .bool true) (by simp) (by simp) (by simp) (by simp) (by simp) (by simp) (by simp) (by simp) (by simp) (by simp))
theorem slNN {fb : Nat → Prop} {g : Lk} {sz cap : Nat} {p : Addr} : VRel fb μ g w (.r (.sl sz .nn [])) (.slice (some p) 0 cap) :=
  .r _ _ (.sl sz .nn [] (some p) cap 0 0 (fun _ _ => .bool true) (by simp) (by simp) (by simp) (by simp) (by simp) (by simp) (by simp) (by simp) (by simp) (by simp))

theorem split_two {fb : Nat → Prop} {g : Lk} {sz cap : Nat} {base : Option Addr} (h : base = none → cap = 0) :
    VRel fb μ g w (.r (.sl sz .nil [])) (.slice base 0 cap) ∨ VRel fb μ g w (.r (.sl sz .nn [])) (.slice base 0 cap) := by
  cases base with
  | none => have := h rfl; subst this; exact .inl slNil
  | some p => exact .inr slNN

theorem split_sound {fb : Nat → Prop} {g : Lk} {args x y : List V} {cargs : List Value} (hs : splitNil args = some (x, y)) (hl : args.length = cargs.length)
    (hr : ∀ (i : Nat) (c : V) (u : Value), args[i]? = some c → cargs[i]? = some u → VRel fb μ g w c u) :
    x.length = cargs.length ∧ y.length = cargs.length ∧ ((∀ (i : Nat) (c : V) (u : Value), x[i]? = some c → cargs[i]? = some u → VRel fb μ g w c u) ∨ (∀ (i : Nat) (c : V) (u : Value), y[i]? = some c → cargs[i]? = some u → VRel fb μ g w c u)) := by
  cases args with
  | nil => cases hs
  | cons v t =>
    cases cargs with
    | nil => simp at hl
    | cons cv ct =>
      have r1 := hr 0 v cv rfl rfl
      have fin : ∀ {sz : Nat}, (VRel fb μ g w (.r (.sl sz .nil [])) cv ∨ VRel fb μ g w (.r (.sl sz .nn [])) cv) → x = .r (.sl sz .nil []) :: t → y = .r (.sl sz .nn []) :: t →
          x.length = (cv :: ct).length ∧ y.length = (cv :: ct).length ∧ ((∀ (i : Nat) (c : V) (u : Value), x[i]? = some c → (cv :: ct)[i]? = some u → VRel fb μ g w c u) ∨ (∀ (i : Nat) (c : V) (u : Value), y[i]? = some c → (cv :: ct)[i]? = some u → VRel fb μ g w c u)) := fun {sz} h1 h2 h3 => by
        subst h2 h3
        refine ⟨by simpa using hl, by simpa using hl, ?_⟩
        rcases h1 with h1 | h1
        · left; intro i c u hc hu
          cases i with
          | zero => simp at hc hu; subst hc hu; exact h1
          | succ i => exact hr (i + 1) c u (by simpa using hc) hu
        · right; intro i c u hc hu
          cases i with
          | zero => simp at hc hu; subst hc hu; exact h1
          | succ i => exact hr (i + 1) c u (by simpa using hc) hu
      simp only [splitNil] at hs
      split at hs
      · split at hs
        · cases hs
        · cases hs
        · cases hs
          have r := r1.r_inv
          cases r with | sl _ _ _ base cap B o cv' ha hcap hnone => exact fin (split_two hnone) rfl rfl
      · cases hs
        cases r1 with
        | sl _ _ _ _ B lo cap => exact fin (split_two (by simp)) rfl rfl
        | sl0 _ _ _ base => exact fin (split_two (by simp)) rfl rfl
        | slD _ _ _ _ base cap hd hna => exact fin (split_two hna) rfl rfl
      · cases hs

theorem agree_inv {p q : Option (V × Heap)} {v : V} {h : Heap} (hr : agree p q = some (v, h)) : (p = some (v, h) ∧ q = some (v, h)) ∨
    ∃ sz h1 blk j, p = some (.r (.sl sz .nil []), h1) ∧ q = some (.sl sz h1.length j 0, h1 ++ [blk]) ∧ v = .r (.sl sz .any []) ∧ h = h1 ++ [.dead] := by
  unfold agree at hr
  split at hr <;> try cases hr
  rename_i v1 h1 v2 h2
  split at hr
  · left
    cases hr
    rename_i hb
    rw [Bool.and_eq_true] at hb
    have e1 := V.beq_eq _ _ hb.1
    have e2 := beqBlks_eq _ _ hb.2
    subst e1 e2
    exact ⟨rfl, rfl⟩
  · right
    unfold joinE at hr
    split at hr <;> try cases hr
    rename_i sz
    split at hr <;> try cases hr
    rename_i sz' b j
    split at hr <;> cases hr
    rename_i hc
    obtain ⟨rfl, rfl, hl, hb⟩ := hc
    have e := beqBlks_eq _ _ hb
    have hd : h2.drop h1.length = [h2[h1.length]'(by omega)] := by
      rw [List.drop_eq_getElem_cons (by omega), List.drop_of_length_le (by omega)]
    have h2e : h2 = h1 ++ [h2[h1.length]'(by omega)] := by
      conv => lhs; rw [← List.take_append_drop h1.length h2, hd, ← e]
    exact ⟨_, h1, _, j, rfl, by rw [← h2e], rfl, rfl⟩

theorem any_empty {fb : Nat → Prop} {g : Lk} {sz cap : Nat} {ad : Option Addr} (h : ad = none → cap = 0) : VRel fb μ g w (.r (.sl sz .any [])) (.slice ad 0 cap) :=
  .r _ _ (.sl _ .any [] ad cap 0 0 (fun _ _ => .bool true) (by simp) (by simp) h (by simp) (by simp) (by simp) (by simp) (by simp) (by simp) (by simp))

theorem join_nil {μ' : Mu} {h h1 : Heap} {sz : Nat} {cv : Value} (E : Ends F μ h w μ' h1 w' (.r (.sl sz .nil [])) cv) : Ends F μ h w μ' (h1 ++ [.dead]) w' (.r (.sl sz .any [])) cv := by
  refine ⟨E.evo.trans (evo_app E.none), hrel_app E.hrel E.none, ?_, by have := E.len; simp; omega, E.keep, fun b hb => E.none b (by simp at hb; omega)⟩
  have r := E.val.r_inv
  cases r with
  | sl _ _ _ ad cap B o cv' ha hcap hnone => exact any_empty hnone

theorem join_nn {μ' : Mu} {h h1 : Heap} {blk : Blk} {sz j : Nat} {cv : Value} (E : Ends F μ h w μ' (h1 ++ [blk]) w' (.sl sz h1.length j 0) cv) (hh : h.length ≤ (h1 ++ [blk]).length) : Ends F μ h w μ' (h1 ++ [.dead]) w' (.r (.sl sz .any [])) cv := by
  obtain ⟨K1, K2⟩ := kill_sound E.hrel (.sl sz h1.length j 0)
  have hk : kill (h1 ++ [blk]) (.sl sz h1.length j 0) = h1 ++ [.dead] := by
    simp [kill]
  rw [hk] at K1 K2
  refine ⟨E.evo.trans K1, K2, ?_, by simpa using hh, fun b hb => E.keep b hb, fun b hb => E.none b (by simpa using hb)⟩
  have hv := E.val
  cases hv with
  | sl _ _ _ _ B lo cap => exact any_empty (by simp)
  | sl0 _ _ _ ad => exact any_empty fun _ => rfl
  | slD _ _ _ _ ad cap hd hna => exact any_empty hna

/-- THE EVALUATOR IS SOUND. -/
theorem callN_sound {drawOk : Array Oper → List AOper → Bool} (hD : DrawSound P drawOk) {T : Nat → Option AFun} (hT : ∀ f A, T f = some A → chkFun P drawOk f A = true) : ∀ n, Sound P (callN T n)
  | 0 => fun f args h v h' hr => by cases hr
  | n + 1 => fun f args h v h' hr => by
    simp only [callN] at hr
    split at hr <;> try cases hr
    rename_i A hA
    have hc := hT f A hA
    have ih := callN_sound hD hT n
    unfold callA at hr
    split at hr
    · exact callO_sound hD ih hc hr
    · split at hr
      · exact callO_sound hD ih hc hr
      · rename_i x y hs
        rcases agree_inv hr with ⟨h1, h2⟩ | ⟨sz, g1, blk, j, h1, h2, rfl, rfl⟩
        · obtain ⟨e1, k1⟩ := callO_sound hD ih hc h1
          obtain ⟨e2, k2⟩ := callO_sound hD ih hc h2
          refine ⟨e1, fun F μ w cargs H hμ hl hargs => ?_⟩
          obtain ⟨l1, l2, hor⟩ := split_sound hs hl hargs
          rcases hor with hx | hy
          · exact k1 F μ w cargs H hμ l1 hx
          · exact k2 F μ w cargs H hμ l2 hy
        · obtain ⟨e1, k1⟩ := callO_sound hD ih hc h1
          obtain ⟨e2, k2⟩ := callO_sound hD ih hc h2
          refine ⟨e1, fun F μ w cargs H hμ hl hargs => ?_⟩
          obtain ⟨l1, l2, hor⟩ := split_sound hs hl hargs
          rcases hor with hx | hy
          · refine (k1 F μ w cargs H hμ l1 hx).mono ?_
            rintro e w' ⟨cv, μ', rfl, E⟩
            exact ⟨cv, μ', rfl, join_nil E⟩
          · refine (k2 F μ w cargs H hμ l2 hy).mono ?_
            rintro e w' ⟨cv, μ', rfl, E⟩
            exact ⟨cv, μ', rfl, join_nn E E.len⟩
end
end Go.PV
