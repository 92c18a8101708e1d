/- Operations that read temporaries alone. -/
import Derived.Test.YtdaalannljjkjaaGreatChk
import Derived.Laws.Strings
import Derived.ShutString
set_option linter.unusedVariables false
set_option linter.unusedSimpArgs false
namespace Go.PV
variable {P : Program}

/-- The temporaries. -/
structure FrRel (fb : Nat → Prop) (μ : Mu) (g : Lk) (w : World) (fr : List V) (tmps : Array Value) : Prop where
  len : fr.length = tmps.size
  val : ∀ t, VRel fb μ g w (nthV fr t) (tmps.getD t undef)

theorem nthV_eq : ∀ (l : List V) (n : Nat), nthV l n = l.getD n .junk
  | [], n => rfl
  | x :: xs, 0 => rfl
  | x :: xs, n + 1 => by show nthV xs n = _; rw [nthV_eq xs n]; simp

section
variable {fb : Nat → Prop} {μ : Mu} {g : Lk} {w : World} {fr : List V} {a : Act}

mutual
theorem chkConst_rel : ∀ (r : R) (v : Value), chkConst r v = true → RRel fb w r v
  | .int k n, v => by
    cases v <;> simp [chkConst]
    rintro rfl rfl; exact .int _ _
  | .bool b, v => by cases v <;> simp [chkConst]; rintro rfl; exact .bool _
  | .str s, v => by
    cases v <;> simp [chkConst]
    rename_i t
    intro h
    have : t = ⟨s.toArray⟩ := by cases t; simp at h; simp [← h]
    rw [this]; exact .str s
  | .nilp, v => by
    intro h
    have : v = .pointer none := by
      simp only [chkConst, isNilPtr] at h
      split at h <;> first | rfl | cases h
    rw [this]; exact .nilp
  | .nilf, v => by cases v <;> simp [chkConst]; exact .nilf
  | .nili, v => by cases v <;> simp [chkConst]; exact .nili
  | .fn f, v => by simp [chkConst]
  | .rptr cs, v => by simp [chkConst]
  | .sl sz k xs, v => by
    intro h
    simp only [chkConst, Bool.and_eq_true, decide_eq_true_eq] at h
    obtain ⟨⟨rfl, hx⟩, hv⟩ := h
    have : v = .slice none 0 0 := by
      simp only [isNilSl] at hv
      split at hv <;> first | rfl | cases hv
    rw [this]
    have hx : xs = [] := by simpa using hx
    subst hx
    exact .sl sz .nil [] none 0 0 0 (fun _ _ => .bool true) (by simp) (by simp) (by simp) (by simp) (by simp) (by simp) (by simp) (by simp) (by simp) (by simp)
  | .agg cs, v => by
    cases v <;> simp [chkConst]
    rename_i vs
    intro h h1
    obtain ⟨hl, hr⟩ := chkConsts_rel cs vs.toList h
    have := RRel.agg (fb := fb) (w := w) cs vs.toList ⟨hl, fun v hv => by
      obtain ⟨i, hi, rfl⟩ := List.getElem_of_mem hv
      simpa using h1 i (by simpa using hi)⟩ hr
    simpa using this
  | .iface t x, v => by simp [chkConst]
theorem chkConsts_rel : ∀ (cs : List R) (vs : List Value), chkConsts cs vs = true → cs.length = vs.length ∧ ∀ (i : Nat) (c : R) (v : Value), cs[i]? = some c → vs[i]? = some v → RRel fb w c v
  | [], [] => fun _ => ⟨rfl, fun i c v h => by simp at h⟩
  | [], _ :: _ => fun h => by simp [chkConsts] at h
  | _ :: _, [] => fun h => by simp [chkConsts] at h
  | c :: cs, v :: vs => fun h => by
    simp only [chkConsts, Bool.and_eq_true] at h
    obtain ⟨hl, hr⟩ := chkConsts_rel cs vs h.2
    refine ⟨by simp [hl], fun i c' v' h1 h2 => ?_⟩
    cases i with
    | zero => simp at h1 h2; subst h1 h2; exact chkConst_rel c v h.1
    | succ i => simp at h1 h2; exact hr i c' v' h1 h2
end

theorem ev_rel (hf : FrRel fb μ g w fr a.tmps) {x : Operand} {y : AOprd} (h : chkOprd x y = true) : VRel fb μ g w (ev fr y) (a.eval x) := by
  cases x <;> cases y <;> simp [chkOprd] at h
  · subst h; exact hf.val _
  · exact .r _ _ (chkConst_rel _ _ h)
  · rename_i f r
    cases r <;> simp at h
    subst h; exact .r _ _ (.fn f)

theorem evs_rel (hf : FrRel fb μ g w fr a.tmps) : ∀ {xs : List Operand} {ys : List AOprd}, chkOprds xs ys = true →
    (ys.map (ev fr)).length = (xs.map a.eval).length ∧ ∀ (i : Nat) (c : V) (v : Value), (ys.map (ev fr))[i]? = some c → (xs.map a.eval)[i]? = some v → VRel fb μ g w c v
  | [], [], _ => ⟨rfl, fun i c v h => by simp at h⟩
  | [], _ :: _, h => by simp [chkOprds] at h
  | _ :: _, [], h => by simp [chkOprds] at h
  | x :: xs, y :: ys, h => by
    simp only [chkOprds, Bool.and_eq_true] at h
    obtain ⟨hl, hr⟩ := evs_rel hf h.2
    refine ⟨by simpa using hl, fun i c v h1 h2 => ?_⟩
    cases i with
    | zero => simp at h1 h2; subst h1 h2; exact ev_rel hf h.1
    | succ i => simp at h1 h2; exact hr i c v (by simpa using h1) (by simpa using h2)

/-- Shapes of lists of operands. -/
theorem chk1 {x : Operand} {ys : List AOprd} (h : chkOprds [x] ys = true) : ∃ y, ys = [y] ∧ chkOprd x y = true := by
  cases ys with
  | nil => simp [chkOprds] at h
  | cons y t => cases t with
    | nil => simp [chkOprds] at h; exact ⟨y, rfl, h⟩
    | cons _ _ => simp [chkOprds] at h
theorem chk2 {x x' : Operand} {ys : List AOprd} (h : chkOprds [x, x'] ys = true) : ∃ y y', ys = [y, y'] ∧ chkOprd x y = true ∧ chkOprd x' y' = true := by
  cases ys with
  | nil => simp [chkOprds] at h
  | cons y t =>
    simp only [chkOprds, Bool.and_eq_true] at h
    obtain ⟨y', rfl, h'⟩ := chk1 (x := x') (ys := t) (by cases t with
      | nil => simp [chkOprds] at h
      | cons a b => exact (by simpa [chkOprds] using h.2))
    exact ⟨y, y', rfl, h.1, h'⟩
theorem chk3 {x x' x'' : Operand} {ys : List AOprd} (h : chkOprds [x, x', x''] ys = true) :
    ∃ y y' y'', ys = [y, y', y''] ∧ chkOprd x y = true ∧ chkOprd x' y' = true ∧ chkOprd x'' y'' = true := by
  cases ys with
  | nil => simp [chkOprds] at h
  | cons y t =>
    rw [chkOprds, Bool.and_eq_true] at h
    obtain ⟨y', y'', rfl, h1, h2⟩ := chk2 h.2
    exact ⟨y, y', y'', rfl, h.1, h1, h2⟩

/-- What a pure operation must come to. -/
def Gives (P : Program) (fb : Nat → Prop) (μ : Mu) (g : Lk) (w : World) (a : Act) (o : Oper) (v : V) : Prop :=
  ∃ cv, (execOp a.eval o).run P w = .ok (.value cv) w ∧ VRel fb μ g w v cv

theorem VRel.int_inv {k : IntKind} {n : Int} {v : Value} (h : VRel fb μ g w (.r (.int k n)) v) : v = .int k n := by
  cases h with | r _ _ h => cases h; rfl
theorem VRel.bool_inv {b : Bool} {v : Value} (h : VRel fb μ g w (.r (.bool b)) v) : v = .bool b := by
  cases h with | r _ _ h => cases h; rfl
theorem VRel.str_inv {s : List UInt8} {v : Value} (h : VRel fb μ g w (.r (.str s)) v) : v = .string ⟨s.toArray⟩ := by
  cases h with | r _ _ h => cases h; rfl

theorem wrapK_eq (k : IntKind) (n : Int) : wrapK k n = k.wrap n := by
  cases k <;> simp [wrapK, IntKind.wrap, IntKind.bits, IntKind.signed]
theorem bitsK_eq (k : IntKind) : bitsK k = k.bits := by cases k <;> rfl


theorem run_under {t : TypeId} {f : TypeDesc → Bool} (h : isTy P t f = true) : ∃ d, P.underlying t = some d ∧ f d = true := by
  unfold isTy at h
  split at h
  · exact ⟨_, by assumption, h⟩
  · cases h

theorem szIs_info {t : TypeId} {n : Nat} (h : szIs P t n = true) : ∃ i, P.info? t = some i ∧ i.size = n := by
  unfold szIs at h
  split at h
  · rename_i i hi; exact ⟨i, hi, by simpa using h⟩
  · cases h

theorem pure_mov (hf : FrRel fb μ g w fr a.tmps) {o : Oper} {xs : List AOprd} {v : V} (hc : chkP P o.op .mov xs = true) (hr : runP .mov (xs.map (ev fr)) = some v) : Gives P fb μ g w a o v := by
  unfold chkP at hc
  simp only at hc
  split at hc
  · rename_i x hop
    obtain ⟨y, rfl, hy⟩ := chk1 hc
    simp [runP, one] at hr; subst hr
    exact ⟨_, by simp [execOp, hop], ev_rel hf hy⟩
  · rename_i x hop
    obtain ⟨y, rfl, hy⟩ := chk1 hc
    simp [runP, one] at hr; subst hr
    exact ⟨_, by simp [execOp, hop], ev_rel hf hy⟩
  · rename_i args ats hop
    simp only [Bool.and_eq_true] at hc
    obtain ⟨hsize, hc⟩ := hc
    split at hc
    · rename_i t ht
      split at hc
      · rename_i n e hu
        split at hc
        · rename_i m
          simp [runP, one] at hr; subst hr
          simp only [decide_eq_true_eq] at hc
          subst hc
          obtain ⟨x, rfl⟩ : ∃ x, args = #[x] := by
            have : args.size = 1 := by simpa using hsize
            exact ⟨args[0], by apply Array.ext <;> simp [this]; rintro i rfl; rfl⟩
          exact ⟨_, by simp [execOp, hop, resolve, invoke, builtin, Builtin.len_, ht, run_underlying hu, goInt], .r _ _ (.int _ _)⟩
        · cases hc
      · cases hc
    · cases hc
  · cases hc

theorem pure_pick (hf : FrRel fb μ g w fr a.tmps) {o : Oper} {xs : List AOprd} {v : V} (hc : chkP P o.op .pick xs = true) (hr : runP .pick (xs.map (ev fr)) = some v) : Gives P fb μ g w a o v := by
  unfold chkP at hc
  simp only at hc
  split at hc
  · rename_i c x y hop
    obtain ⟨c', x', y', rfl, h1, h2, h3⟩ := chk3 hc
    have r1 := ev_rel hf h1
    have r2 := ev_rel hf h2
    have r3 := ev_rel hf h3
    simp only [runP, List.map, three, two, pickV] at hr
    generalize ev fr c' = vc at *
    generalize ev fr x' = vx at *
    generalize ev fr y' = vy at *
    split at hr
    · rename_i b
      have hcv := r1.bool_inv
      refine ⟨if b then a.eval x else a.eval y, by simp [execOp, hop, hcv, asBool], ?_⟩
      have key : VRel fb μ g w (bif b then vx else vy) (if b then a.eval x else a.eval y) := by cases b <;> simp [r2, r3]
      split at hr
      · split at hr
        · simp at hr; subst hr
          cases b <;> simpa using key
        · simp at hr; subst hr; exact key
      · simp at hr; subst hr; exact key
    · cases hr
  · cases hc

def boOf : BO → BinOp
  | .add => .add | .sub => .sub | .mul => .mul | .quo => .quo | .rem => .rem | .and => .and | .or => .or | .xor => .xor | .andNot => .andNot
  | .shl => .shl | .shr => .shr | .eql => .eql | .neq => .neq | .lss => .lss | .leq => .leq | .gtr => .gtr | .geq => .geq
theorem chkBO_eq {b : BinOp} {op : BO} (h : chkBO b op = true) : b = boOf op := by
  cases b <;> cases op <;> first | rfl | cases h

theorem natK_eq (k : IntKind) (n : Int) : natK k n = (BitVec.ofInt k.bits n).toNat := by
  cases k <;> simp [natK, BitVec.toNat_ofInt, IntKind.bits]

theorem natK_not (k : IntKind) (n : Int) : natK k (-1 - n) = (~~~ BitVec.ofInt k.bits n).toNat := by
  rw [BitVec.toNat_not]
  cases k <;> simp [natK, BitVec.toNat_ofInt, IntKind.bits] <;> (try omega)

theorem run_binI {op : BO} {k k' : IntKind} {m n : Int} {z : R} (t : TypeId) (h : binI op k m k' n = some z) : ∃ cv, (binOp (boOf op) t (.int k m) (.int k' n)).run P w = .ok cv w ∧ RRel fb w z cv := by
  have hw := wrapK_eq
  cases op <;> simp only [binI] at h
  case shl =>
    split at h
    · cases h
    · rename_i hn
      cases h
      exact ⟨.int k _, by simp [boOf, binOp, Op.shift, hn, shlI, wrapK_eq, bitsK_eq], .int _ _⟩
  case shr =>
    split at h
    · cases h
    · rename_i hn
      cases h
      have : m.fdiv (2 ^ min n.toNat k.bits) = shrI k m n := by
        rw [Int.fdiv_eq_ediv_of_nonneg _ (Int.pow_nonneg (by decide))]
        simp [shrI, bitsK_eq]
      exact ⟨.int k _, by simp [boOf, binOp, Op.shift, hn, this], .int _ _⟩
  all_goals (split at h <;> try cases h)
  all_goals (rename_i hk; subst hk)
  case add => exact ⟨.int k _, by simp [boOf, binOp, Op.intArith, wrapK_eq], .int _ _⟩
  case sub => exact ⟨.int k _, by simp [boOf, binOp, Op.intArith, wrapK_eq], .int _ _⟩
  case mul => exact ⟨.int k _, by simp [boOf, binOp, Op.intArith, wrapK_eq], .int _ _⟩
  case quo =>
    split at h
    · cases h
    · rename_i h0; cases h; exact ⟨.int k _, by simp [boOf, binOp, Op.intDiv, h0, wrapK_eq], .int _ _⟩
  case rem =>
    split at h
    · cases h
    · rename_i h0; cases h; exact ⟨.int k _, by simp [boOf, binOp, Op.intDiv, h0], .int _ _⟩
  case and => exact ⟨.int k _, by rw [andI, wrapK_eq, natK_eq, natK_eq, ← BitVec.toNat_and]; simp only [boOf, binOp_and, Op.intBits, Sem.run_pure], .int _ _⟩
  case or => exact ⟨.int k _, by rw [orI, wrapK_eq, natK_eq, natK_eq, ← BitVec.toNat_or]; simp only [boOf, binOp_or, Op.intBits, Sem.run_pure], .int _ _⟩
  case xor => exact ⟨.int k _, by rw [xorI, wrapK_eq, natK_eq, natK_eq, ← BitVec.toNat_xor]; simp only [boOf, binOp_xor, Op.intBits, Sem.run_pure], .int _ _⟩
  case andNot => exact ⟨.int k _, by rw [andNotI, wrapK_eq, natK_eq, natK_not, ← BitVec.toNat_and]; simp only [boOf, binOp_andNot, Op.intBits, Sem.run_pure], .int _ _⟩
  case eql => exact ⟨.bool _, by simp [boOf, binOp, Op.intCmp], .bool _⟩
  case neq => exact ⟨.bool _, by simp [boOf, binOp, Op.intCmp], .bool _⟩
  case lss => exact ⟨.bool _, by simp [boOf, binOp, Op.intCmp], .bool _⟩
  case leq => exact ⟨.bool _, by simp [boOf, binOp, Op.intCmp], .bool _⟩
  case gtr => exact ⟨.bool _, by simp [boOf, binOp, Op.intCmp], .bool _⟩
  case geq => exact ⟨.bool _, by simp [boOf, binOp, Op.intCmp], .bool _⟩

theorem eqGuard_scalar {op : BinOp} {t : TypeId} {x y : Operand} {u v : Value} (h : ∀ cs, u ≠ .agg cs) (h' : u ≠ .nilIface) : eqGuard op t x y u v = pure () := by
  cases op <;> cases u <;> first | rfl | exact absurd rfl h' | exact absurd rfl (h _) | (cases v <;> rfl)

theorem bytesLess_eq : ∀ (a b : List UInt8), Op.bytesLess a b = bytesLess a b
  | _, [] => by unfold Op.bytesLess bytesLess; rfl
  | [], _ :: _ => rfl
  | a :: x, b :: y => by simp [Op.bytesLess, bytesLess, bytesLess_eq x y]

theorem run_binS {op : BO} {s t : List UInt8} {z : R} (ty : TypeId) (h : binS op s t = some z) : ∃ cv, (binOp (boOf op) ty (.string ⟨s.toArray⟩) (.string ⟨t.toArray⟩)).run P w = .ok cv w ∧ RRel fb w z cv := by
  have e1 : (⟨s.toArray⟩ : ByteArray).toList = s := by rw [ByteArray.toList_eq]
  have e2 : (⟨t.toArray⟩ : ByteArray).toList = t := by rw [ByteArray.toList_eq]
  cases op <;> simp only [binS] at h <;> try cases h
  case add =>
    split at h
    · rename_i hl
      cases h
      have h1 : (⟨s.toArray⟩ : ByteArray).size = s.length := by simp [ByteArray.size]
      have h2 : (⟨t.toArray⟩ : ByteArray).size = t.length := by simp [ByteArray.size]
      have h3 : (⟨s.toArray⟩ : ByteArray) ++ ⟨t.toArray⟩ = ⟨(s ++ t).toArray⟩ := by
        apply ByteArray.ext
        apply Array.ext'
        simp
      have h4 : ¬ ((((⟨s.toArray⟩ : ByteArray).size + (⟨t.toArray⟩ : ByteArray).size : Nat) : Int) > IntKind.i64.max) := by
        rw [h1, h2, IntKind.max_i64]; omega
      exact ⟨.string ⟨(s ++ t).toArray⟩, by rw [← h3]; simp only [boOf, binOp, Op.stringOp]; rw [if_neg h4]; rfl, .str _⟩
    · cases h
  all_goals exact ⟨.bool _, by simp [boOf, binOp, Op.stringOp, e1, e2, bytesLess_eq], .bool _⟩

theorem run_equal_bool {s t : Bool} {ty : TypeId} (hu : P.underlying ty = some .bool) : (Op.equal ty (.bool s) (.bool t)).run P w = .ok (s == t) w := by
  unfold Op.equal Op.maxDepth
  rw [show (10000 : Nat) = 9999 + 1 from rfl]
  unfold Op.equalIn
  rw [Sem.run_bind, run_underlying hu]
  rfl

theorem pure_bin (hf : FrRel fb μ g w fr a.tmps) {op : BO} {o : Oper} {xs : List AOprd} {v : V} (hc : chkP P o.op (.bin op) xs = true) (hr : runP (.bin op) (xs.map (ev fr)) = some v) : Gives P fb μ g w a o v := by
  unfold chkP at hc
  simp only at hc
  split at hc
  · rename_i b t x y ty hop
    simp only [Bool.and_eq_true] at hc
    obtain ⟨⟨hb, hxy⟩, ht⟩ := hc
    obtain ⟨x', y', rfl, h1, h2⟩ := chk2 hxy
    have r1 := ev_rel hf h1
    have r2 := ev_rel hf h2
    have hb := chkBO_eq hb
    subst hb
    obtain ⟨d, hd, hd'⟩ := run_under ht
    simp only [runP, List.map, two, bin2] at hr
    generalize ev fr x' = vx at *
    generalize ev fr y' = vy at *
    split at hr <;> try cases hr
    rename_i rx
    split at hr <;> try cases hr
    rename_i ry
    cases hz : binR op rx ry with
    | none => rw [hz] at hr; cases hr
    | some z =>
      rw [hz] at hr; cases hr
      have key : ∃ cv, (binOp (boOf op) t (a.eval x) (a.eval y)).run P w = .ok cv w ∧ RRel fb w z cv ∧ eqGuard (boOf op) t x y (a.eval x) (a.eval y) = pure () := by
        unfold binR at hz
        split at hz
        · split at hz <;> try cases hz
          rw [r1.int_inv, r2.int_inv]
          obtain ⟨cv, h3, h4⟩ := run_binI (P := P) (fb := fb) (w := w) t hz
          exact ⟨cv, h3, h4, eqGuard_scalar (by simp) (by simp)⟩
        · split at hz <;> try cases hz
          rw [r1.str_inv, r2.str_inv]
          obtain ⟨cv, h3, h4⟩ := run_binS (P := P) (fb := fb) (w := w) t hz
          exact ⟨cv, h3, h4, eqGuard_scalar (by simp) (by simp)⟩
        · cases hz
      obtain ⟨cv, h3, h4, h5⟩ := key
      exact ⟨cv, by simp only [execOp, hop, h5]; simp [h3], .r _ _ h4⟩
  · cases hc

theorem neqs {b : BinOp} {neg : Bool} (h : (match b with | .eql => !neg | .neq => neg | _ => false) = true) : (b = .eql ∧ neg = false) ∨ (b = .neq ∧ neg = true) := by
  cases b <;> simp at h <;> simp [h]

theorem run_eqOp {b : BinOp} {neg e : Bool} {t : TypeId} {u v : Value} (hb : (b = .eql ∧ neg = false) ∨ (b = .neq ∧ neg = true))
    (h1 : binOp .eql t u v = (Op.equal t u v >>= fun b => pure (Value.bool b))) (h2 : binOp .neq t u v = (Op.equal t u v >>= fun b => pure (Value.bool (!b))))
    (he : (Op.equal t u v).run P w = .ok e w) : (binOp b t u v).run P w = .ok (.bool (e != neg)) w := by
  rcases hb with ⟨rfl, rfl⟩ | ⟨rfl, rfl⟩
  · rw [h1, Sem.run_bind, he]; cases e <;> rfl
  · rw [h2, Sem.run_bind, he]; cases e <;> rfl

theorem pure_eqb (hf : FrRel fb μ g w fr a.tmps) {neg : Bool} {o : Oper} {xs : List AOprd} {v : V} (hc : chkP P o.op (.eqb neg) xs = true) (hr : runP (.eqb neg) (xs.map (ev fr)) = some v) : Gives P fb μ g w a o v := by
  unfold chkP at hc
  simp only at hc
  split at hc
  · rename_i b t x y ty hop
    simp only [Bool.and_eq_true] at hc
    obtain ⟨⟨hb, hxy⟩, ht⟩ := hc
    obtain ⟨x', y', rfl, h1, h2⟩ := chk2 hxy
    have r1 := ev_rel hf h1
    have r2 := ev_rel hf h2
    obtain ⟨d, hd, hd'⟩ := run_under ht
    have hd : P.underlying t = some .bool := by cases d <;> simp at hd' <;> exact hd
    simp only [runP, List.map, two, eqbV] at hr
    generalize ev fr x' = vx at *
    generalize ev fr y' = vy at *
    split at hr <;> try cases hr
    rename_i m
    split at hr <;> try cases hr
    rename_i n
    have e1 := r1.bool_inv
    have e2 := r2.bool_inv
    refine ⟨.bool ((m == n) != neg), ?_, .r _ _ (.bool _)⟩
    simp only [execOp, hop, e1, e2, eqGuard_at_bool]
    have := run_eqOp (P := P) (w := w) (t := t) (u := .bool m) (v := .bool n) (neqs hb) rfl rfl (run_equal_bool hd)
    simp [this]
  · cases hc

theorem pure_eqp (hf : FrRel fb μ g w fr a.tmps) {neg : Bool} {o : Oper} {xs : List AOprd} {v : V} (hc : chkP P o.op (.eqp neg) xs = true) (hr : runP (.eqp neg) (xs.map (ev fr)) = some v) : Gives P fb μ g w a o v := by
  unfold chkP at hc
  simp only at hc
  split at hc
  · rename_i b t x y ty hop
    simp only [Bool.and_eq_true] at hc
    obtain ⟨⟨hb, hxy⟩, ht⟩ := hc
    obtain ⟨x', y', rfl, h1, h2⟩ := chk2 hxy
    have r1 := ev_rel hf h1
    have r2 := ev_rel hf h2
    obtain ⟨d, hd, hd'⟩ := run_under ht
    obtain ⟨e, hd⟩ : ∃ e, P.underlying t = some (.pointer e) := by cases d <;> simp at hd' <;> exact ⟨_, hd⟩
    simp only [runP, List.map, two, eqpV] at hr
    have nilInv : ∀ {v : Value}, VRel fb μ g w (.r .nilp) v → v = .pointer none := fun h => by cases h with | r _ _ h => cases h; rfl
    have ptrInv : ∀ {b k f : Nat} {v : Value}, VRel fb μ g w (.ptr b k f) v → ∃ a, v = .pointer (some a) := fun h => by cases h <;> exact ⟨_, rfl⟩
    have rptrInv : ∀ {cs : List R} {v : Value}, VRel fb μ g w (.r (.rptr cs)) v → ∃ a, v = .pointer (some a) := fun h => by cases h with | r _ _ h => cases h; exact ⟨_, rfl⟩
    have run1 : ∀ q : Option Addr, (Op.equal t (.pointer none) (.pointer q)).run P w = .ok q.isNone w := fun q => by
      unfold Op.equal Op.maxDepth
      rw [show (10000 : Nat) = 9999 + 1 from rfl]
      unfold Op.equalIn
      rw [Sem.run_bind, run_underlying hd]; rfl
    have run2 : ∀ q : Addr, (Op.equal t (.pointer (some q)) (.pointer none)).run P w = .ok false w := fun q => by
      unfold Op.equal Op.maxDepth
      rw [show (10000 : Nat) = 9999 + 1 from rfl]
      unfold Op.equalIn
      rw [Sem.run_bind, run_underlying hd]; rfl
    have fin : ∀ {e : Bool} {p q : Option Addr}, a.eval x = .pointer p → a.eval y = .pointer q → (Op.equal t (.pointer p) (.pointer q)).run P w = .ok e w → Gives P fb μ g w a o (.r (.bool (e != neg))) := fun {e p q} hp hq he => by
      refine ⟨.bool (e != neg), ?_, .r _ _ (.bool _)⟩
      simp only [execOp, hop, hp, hq, eqGuard_at_pointer]
      have := run_eqOp (P := P) (w := w) (t := t) (u := .pointer p) (v := .pointer q) (neqs hb) (by cases p <;> cases q <;> rfl) (by cases p <;> cases q <;> rfl) he
      simp [this]
    generalize ev fr x' = vx at *
    generalize ev fr y' = vy at *
    split at hr
    · split at hr <;> cases hr
      · exact fin (nilInv r1) (nilInv r2) (run1 _)
      · obtain ⟨q, hq⟩ := ptrInv r2; exact fin (nilInv r1) hq (run1 _)
      · obtain ⟨q, hq⟩ := rptrInv r2; exact fin (nilInv r1) hq (run1 _)
    · split at hr <;> cases hr
      obtain ⟨q, hq⟩ := ptrInv r1; exact fin hq (nilInv r2) (run2 _)
    · split at hr <;> cases hr
      obtain ⟨q, hq⟩ := rptrInv r1; exact fin hq (nilInv r2) (run2 _)
    · cases hr
  · cases hc

theorem pure_un (hf : FrRel fb μ g w fr a.tmps) {op : UO} {o : Oper} {xs : List AOprd} {v : V} (hc : chkP P o.op (.un op) xs = true) (hr : runP (.un op) (xs.map (ev fr)) = some v) : Gives P fb μ g w a o v := by
  unfold chkP at hc
  simp only at hc
  split at hc
  · rename_i u t x hop
    simp only [Bool.and_eq_true] at hc
    obtain ⟨hu, hx⟩ := hc
    obtain ⟨x', rfl, h1⟩ := chk1 hx
    have r1 := ev_rel hf h1
    simp only [runP, List.map, one, unV] at hr
    generalize ev fr x' = vx at *
    cases op <;> simp only at hr <;> split at hr <;> cases hr <;> cases u <;> simp [chkUO] at hu
    · rename_i k n
      refine ⟨.int k (wrapK k (0 - n)), ?_, .r _ _ (.int _ _)⟩
      simp [execOp, hop, r1.int_inv, Op.unary, Op.intArith, wrapK_eq]
    · rename_i k n
      refine ⟨.int k (xorI k (-1) n), ?_, .r _ _ (.int _ _)⟩
      have e : (BitVec.ofInt k.bits (if k.signed then -1 else k.max)) = BitVec.ofInt k.bits (-1) := by cases k <;> decide
      rw [xorI, wrapK_eq, natK_eq, natK_eq, ← BitVec.toNat_xor, ← e]
      simp [execOp, hop, r1.int_inv, Op.unary, Op.intBits]
    · rename_i b
      exact ⟨.bool (!b), by simp [execOp, hop, r1.bool_inv, Op.unary], .r _ _ (.bool _)⟩
  · cases hc

theorem pure_conv (hf : FrRel fb μ g w fr a.tmps) {k : IntKind} {o : Oper} {xs : List AOprd} {v : V} (hc : chkP P o.op (.conv k) xs = true) (hr : runP (.conv k) (xs.map (ev fr)) = some v) : Gives P fb μ g w a o v := by
  unfold chkP at hc
  simp only at hc
  split at hc
  · rename_i s d x hop
    simp only [Bool.and_eq_true] at hc
    obtain ⟨⟨hs, hd⟩, hx⟩ := hc
    obtain ⟨x', rfl, h1⟩ := chk1 hx
    have r1 := ev_rel hf h1
    obtain ⟨dd, hdd, hd'⟩ := run_under hd
    have hdd : P.underlying d = some (.int k) := by
      cases dd <;> simp at hd'
      subst hd'; exact hdd
    simp only [runP, List.map, one, convV] at hr
    generalize ev fr x' = vx at *
    split at hr <;> cases hr
    rename_i k' n
    refine ⟨.int k (wrapK k n), ?_, .r _ _ (.int _ _)⟩
    obtain ⟨ds, hds⟩ := Option.isSome_iff_exists.mp hs
    have : (convert s d (.int k' n)).run P w = .ok (.int k (k.wrap n)) w := by simp [convert, run_underlying hds, run_underlying hdd, Conv.intToInt]
    simp [execOp, hop, r1.int_inv, this, wrapK_eq]
  · cases hc
end
end Go.PV
