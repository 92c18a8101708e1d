/- Rules for running the evaluator by rewriting: each fires when what it looks at is known. -/
import Derived.Test.YtdaalannljjkjaaGreatLim
set_option linter.unusedVariables false
set_option linter.unusedSimpArgs false
namespace Go.PV

theorem get_hit (d : Nat) (v : V) (t : AL) : get ((d, v) :: t) d = v := by simp [get]
theorem get_miss {d i : Nat} (v : V) (t : AL) (h : (d == i) = false) : get ((d, v) :: t) i = get t i := by
  have : ¬ d = i := by simpa using h
  simp [get, this]
attribute [simp] get_hit get_miss

/-! ### loops -/
/-- A loop, round by round: the states at its heads (as canonS leaves them). -/
theorem loop_rounds {d : SDen} {hd : SS → Option SS} (S : Nat → SS) (N : Nat) (s' : SS) (o : Out) (hs : ∀ j, j < N → ∃ s1, d (S j) = some (.normal, s1) ∧ hd s1 = some (S (j + 1))) (he : d (S N) = some (o, s')) (ho : o ≠ .normal) :
    ∀ s, hd s = some (S 0) → loopW d hd s = some (o, s') := by
  have key : ∀ n j, j + n = N → ∀ s, hd s = some (S j) → loopW d hd s = some (o, s') := by
    intro n
    induction n with
    | zero =>
      intro j hj s hh
      have hj : j = N := by omega
      subst hj
      rw [loopW_eq, hh]
      simp only [he]
      cases o with
      | normal => exact absurd rfl ho
      | exit i => rfl
      | ret => rfl
    | succ n ih =>
      intro j hj s hh
      obtain ⟨s1, h1, h2⟩ := hs j (by omega)
      rw [loopW_eq, hh]
      simp only [h1]
      exact ih (j + 1) (by omega) s1 h2
  exact fun s hh => key N 0 (by omega) s hh

/-- One round. -/
theorem loop_one {d : SDen} {hd : SS → Option SS} {s s1 s2 : SS} (h1 : hd s = some s1) (h2 : d s1 = some (.normal, s2)) : loopW d hd s = loopW d hd s2 := by
  rw [loopW_eq, h1]; simp only [h2]; rfl
theorem loop_end {d : SDen} {hd : SS → Option SS} {s s1 s2 : SS} {o : Out} (h1 : hd s = some s1) (h2 : d s1 = some (o, s2)) (ho : o ≠ .normal) : loopW d hd s = some (o, s2) := by
  rw [loopW_eq, h1]; simp only [h2]
  cases o with
  | normal => exact absurd rfl ho
  | exit i => rfl
  | ret => rfl

/-! ### code -/
section
variable (Γ : CallF) (L : LoopF) (k : Nat) (s : SS)
@[simp] theorem execS_skip : execS Γ L k .skip s = some (.normal, s) := rfl
@[simp] theorem execS_seq (a b : ACode) : execS Γ L k (.seq a b) s = seqS (execS Γ L k b) (execS Γ L k a s) := rfl
@[simp] theorem execS_cond (c : AOprd) (a b : ACode) : execS Γ L k (.cond c a b) s = condS (execS Γ L k a) (execS Γ L k b) s (evS s.fr c) := rfl
@[simp] theorem execS_block (id : Nat) (c : ACode) : execS Γ L k (.block id c) s = blockS id (execS Γ L k c s) := rfl
@[simp] theorem execS_loop (live : List Bool) (c : ACode) : execS Γ L k (.loop live c) s = L (execS Γ L k c) (canonS k live) s := rfl
@[simp] theorem execS_exit (id : Nat) : execS Γ L k (.exit id) s = some (.exit id, s) := rfl
@[simp] theorem execS_ret : execS Γ L k .ret s = some (.ret, s) := rfl
@[simp] theorem execS_hint (x : Hint) (c : ACode) : execS Γ L k (.hint x c) s = hintS (execS Γ L k c) (runHS x s) := rfl
@[simp] theorem hintS_some (y : SDen) : hintS y (some s) = y s := rfl
@[simp] theorem seqS_normal (y : SDen) : seqS y (some (.normal, s)) = y s := rfl
@[simp] theorem seqS_exit (y : SDen) (i : Nat) : seqS y (some (.exit i, s)) = some (.exit i, s) := rfl
@[simp] theorem seqS_ret (y : SDen) : seqS y (some (.ret, s)) = some (.ret, s) := rfl
@[simp] theorem condS_true (x y : SDen) : condS x y s (.r (.bool true)) = x s := rfl
@[simp] theorem condS_false (x y : SDen) : condS x y s (.r (.bool false)) = y s := rfl
@[simp] theorem blockS_normal (i : Nat) : blockS i (some (.normal, s)) = some (.normal, s) := rfl
@[simp] theorem blockS_exit (i j : Nat) : blockS i (some (.exit j, s)) = if j = i then some (.normal, s) else some (.exit j, s) := rfl
@[simp] theorem blockS_ret (i : Nat) : blockS i (some (.ret, s)) = some (.ret, s) := rfl

def regE (draw : Bool) (x : Option RS) : Option (Out × SS) :=
  match x with
  | none => none
  | some r => match draw with
    | false => some (.normal, ⟨r.fr, r.h⟩)
    | true => match ldsOk (r.segs ++ [r.h]) r.lds && nwsOk (r.segs ++ [r.h]) r.nws with
      | true => some (.normal, ⟨r.fr, r.h⟩)
      | false => none
@[simp] theorem execS_region (d : Bool) (ops : List AOper) : execS Γ L k (.region d ops) s = regE d (runOpsS Γ ops ⟨s.fr, s.h, [], [], []⟩) := rfl
@[simp] theorem regE_false (fr : AL) (h : Heap) (a : List Heap) (b : List Ld) (c : List Nw) : regE false (some ⟨fr, h, a, b, c⟩) = some (.normal, ⟨fr, h⟩) := rfl
@[simp] theorem regE_true (fr : AL) (h : Heap) (a : List Heap) : regE true (some ⟨fr, h, a, [], []⟩) = some (.normal, ⟨fr, h⟩) := rfl
theorem regE_lds (fr : AL) (h : Heap) (a : List Heap) (b : List Ld) (c : List Nw) (hb : ldsOk (a ++ [h]) b = true) (hc : nwsOk (a ++ [h]) c = true) : regE true (some ⟨fr, h, a, b, c⟩) = some (.normal, ⟨fr, h⟩) := by
  simp [regE, hb, hc]
@[simp] theorem runOpsS_nil (r : RS) : runOpsS Γ [] r = some r := rfl
@[simp] theorem runOpsS_cons (r : RS) (ix : Nat) (d : Option Nat) (op : AOp) (af : List Nat) (l : List AOper) : runOpsS Γ (⟨ix, d, op, af, none⟩ :: l) r = runK d (runOpsS Γ l) (runOpS Γ op r) := rfl
@[simp] theorem runOpsS_guard (r : RS) (ix : Nat) (d : Option Nat) (op : AOp) (af : List Nat) (g : Nat) (w : Bool) (l : List AOper) : runOpsS Γ (⟨ix, d, op, af, some (g, w)⟩ :: l) r = guardK w (fun r => runK d (runOpsS Γ l) (runOpS Γ op r)) (skipK op.isC d (runOpsS Γ l)) r (get r.fr g) := rfl
@[simp] theorem guardK_tt (yes no : RK) (r : RS) : guardK true yes no r (.r (.bool true)) = yes r := rfl
@[simp] theorem guardK_tf (yes no : RK) (r : RS) : guardK true yes no r (.r (.bool false)) = no r := rfl
@[simp] theorem guardK_ft (yes no : RK) (r : RS) : guardK false yes no r (.r (.bool true)) = no r := rfl
@[simp] theorem guardK_ff (yes no : RK) (r : RS) : guardK false yes no r (.r (.bool false)) = yes r := rfl
@[simp] theorem guardK_no (w : Bool) (yes no : RK) (r : RS) : guardK w yes no r (.tup []) = no r := rfl
@[simp] theorem skipK_c (d : Option Nat) (op : COp) (xs : List AOprd) (kk : RK) (fr : AL) (h : Heap) (a : List Heap) (b : List Ld) (c : List Nw) : skipK (AOp.isC (.c op xs)) d kk ⟨fr, h, a, b, c⟩ = kk ⟨putS d (.tup []) fr, h, a ++ [h], b, c⟩ := rfl
@[simp] theorem skipK_p (d : Option Nat) (op : POp) (xs : List AOprd) (kk : RK) (fr : AL) (h : Heap) (a : List Heap) (b : List Ld) (c : List Nw) : skipK (AOp.isC (.p op xs)) d kk ⟨fr, h, a, b, c⟩ = kk ⟨putS d (.tup []) fr, h, a, b, c⟩ := rfl
@[simp] theorem skipK_ld (d : Option Nat) (ag : Bool) (n : Nat) (x : AOprd) (lo hi : Nat) (kk : RK) (fr : AL) (h : Heap) (a : List Heap) (b : List Ld) (c : List Nw) : skipK (AOp.isC (.ld ag n x lo hi)) d kk ⟨fr, h, a, b, c⟩ = kk ⟨putS d (.tup []) fr, h, a, b, c⟩ := rfl
@[simp] theorem skipK_n (d : Option Nat) (op : NOp) (xs : List AOprd) (lo hi : Nat) (kk : RK) (fr : AL) (h : Heap) (a : List Heap) (b : List Ld) (c : List Nw) : skipK (AOp.isC (.n op xs lo hi)) d kk ⟨fr, h, a, b, c⟩ = kk ⟨putS d (.tup []) fr, h, a, b, c⟩ := rfl
@[simp] theorem skipK_b (d : Option Nat) (x : AOprd) (kk : RK) (fr : AL) (h : Heap) (a : List Heap) (b : List Ld) (c : List Nw) : skipK (AOp.isC (.b2s x)) d kk ⟨fr, h, a, b, c⟩ = kk ⟨putS d (.tup []) fr, h, a, b, c⟩ := rfl
@[simp] theorem skipK_bad (d : Option Nat) (kk : RK) (fr : AL) (h : Heap) (a : List Heap) (b : List Ld) (c : List Nw) : skipK (AOp.isC .bad) d kk ⟨fr, h, a, b, c⟩ = kk ⟨putS d (.tup []) fr, h, a, b, c⟩ := rfl
@[simp] theorem runK_some (d : Option Nat) (kk : RK) (v : V) (fr : AL) (h : Heap) (a : List Heap) (b : List Ld) (c : List Nw) : runK d kk (some (v, ⟨fr, h, a, b, c⟩)) = kk ⟨putS d v fr, h, a, b, c⟩ := rfl
@[simp] theorem putS_some (d : Nat) (v : V) (fr : AL) : putS (some d) v fr = (d, v) :: fr := rfl
@[simp] theorem putS_none (v : V) (fr : AL) : putS none v fr = fr := rfl
@[simp] theorem evS_t (fr : AL) (n : Nat) : evS fr (.t n) = get fr n := rfl
@[simp] theorem evS_c (fr : AL) (x : R) : evS fr (.c x) = .r x := rfl

/-! ### operations -/
@[simp] theorem runOpS_p (op : POp) (xs : List AOprd) (r : RS) : runOpS Γ (.p op xs) r = (runP op (xs.map (evS r.fr))).map fun v => (v, r) := by
  simp only [runOpS]; cases runP op (xs.map (evS r.fr)) <;> rfl
@[simp] theorem runOpS_ld (ag : Bool) (n lo hi : Nat) (x : AOprd) (r : RS) : runOpS Γ (.ld ag n x lo hi) r = (loadH r.h ag n (evS r.fr x)).map fun v => (v, if lo < hi then ⟨r.fr, r.h, r.segs, ⟨evS r.fr x, ag, n, v, lo, hi⟩ :: r.lds, r.nws⟩ else r) := by
  simp only [runOpS]; cases loadH r.h ag n (evS r.fr x) <;> rfl
@[simp] theorem runOpS_b2s (x : AOprd) (r : RS) : runOpS Γ (.b2s x) r = ((elemsS r.h (evS r.fr x)).bind u8s).map fun l => (.r (.str l), r) := by
  simp only [runOpS]
  cases elemsS r.h (evS r.fr x) with
  | none => rfl
  | some xs => simp only [Option.bind_some]; cases u8s xs <;> rfl
@[simp] theorem runOpS_n (op : NOp) (xs : List AOprd) (lo hi : Nat) (r : RS) : runOpS Γ (.n op xs lo hi) r = (runN op (xs.map (evS r.fr))).map fun p => (p.2 r.h.length, ⟨r.fr, r.h ++ [p.1], r.segs, r.lds, if lo < hi then ⟨r.h.length, p.1, lo, hi⟩ :: r.nws else r.nws⟩) := by
  simp only [runOpS]; cases runN op (xs.map (evS r.fr)) <;> rfl
@[simp] theorem runOpS_c (op : COp) (xs : List AOprd) (r : RS) : runOpS Γ (.c op xs) r = (runCU Γ op (xs.map (evS r.fr)) r.h).map fun p => (p.1, ⟨r.fr, p.2, r.segs ++ [r.h], r.lds, r.nws⟩) := by
  simp only [runOpS]; cases runCU Γ op (xs.map (evS r.fr)) r.h <;> rfl

@[simp] theorem P_mov (x : V) : runP .mov [x] = some x := rfl
@[simp] theorem P_pick_t (a b : V) : runP .pick [.r (.bool true), a, b] = some a := by
  simp only [runP, three, two, pickV]
  split
  · split <;> rfl
  · rfl
@[simp] theorem P_pick_f (a b : V) : runP .pick [.r (.bool false), a, b] = some b := by
  simp only [runP, three, two, pickV]
  split
  · split
    · rfl
    · rfl
  · rfl
@[simp] theorem P_bin_int (op : BO) (k k' : IntKind) (a b : Int) : runP (.bin op) [.r (.int k a), .r (.int k' b)] = opR (binI op k a k' b) := rfl
@[simp] theorem P_bin_str (op : BO) (a b : List UInt8) : runP (.bin op) [.r (.str a), .r (.str b)] = opR (binS op a b) := rfl
@[simp] theorem opRs (x : R) : opR (some x) = some (.r x) := rfl
@[simp] theorem I_add (k : IntKind) (a b : Int) : binI .add k a k b = some (.int k (wrapK k (a + b))) := if_pos rfl
@[simp] theorem I_sub (k : IntKind) (a b : Int) : binI .sub k a k b = some (.int k (wrapK k (a - b))) := if_pos rfl
@[simp] theorem I_mul (k : IntKind) (a b : Int) : binI .mul k a k b = some (.int k (wrapK k (a * b))) := if_pos rfl
@[simp] theorem I_quo (k : IntKind) (a b : Int) : binI .quo k a k b = if b = 0 then none else some (.int k (wrapK k (a.tdiv b))) := if_pos rfl
@[simp] theorem I_rem (k : IntKind) (a b : Int) : binI .rem k a k b = if b = 0 then none else some (.int k (a.tmod b)) := if_pos rfl
@[simp] theorem I_and (k : IntKind) (a b : Int) : binI .and k a k b = some (.int k (andI k a b)) := if_pos rfl
@[simp] theorem I_or (k : IntKind) (a b : Int) : binI .or k a k b = some (.int k (orI k a b)) := if_pos rfl
@[simp] theorem I_xor (k : IntKind) (a b : Int) : binI .xor k a k b = some (.int k (xorI k a b)) := if_pos rfl
@[simp] theorem I_shl (k k' : IntKind) (a b : Int) : binI .shl k a k' b = if b < 0 then none else some (.int k (shlI k a b)) := rfl
@[simp] theorem I_shr (k k' : IntKind) (a b : Int) : binI .shr k a k' b = if b < 0 then none else some (.int k (shrI k a b)) := rfl
@[simp] theorem I_eql (k : IntKind) (a b : Int) : binI .eql k a k b = some (.bool (decide (a = b))) := by simp [binI]; rfl
@[simp] theorem I_neq (k : IntKind) (a b : Int) : binI .neq k a k b = some (.bool (!decide (a = b))) := by
  simp only [binI, if_true]; congr 2
@[simp] theorem I_lss (k : IntKind) (a b : Int) : binI .lss k a k b = some (.bool (decide (a < b))) := if_pos rfl
@[simp] theorem I_leq (k : IntKind) (a b : Int) : binI .leq k a k b = some (.bool (decide (a ≤ b))) := if_pos rfl
@[simp] theorem I_gtr (k : IntKind) (a b : Int) : binI .gtr k a k b = some (.bool (decide (b < a))) := if_pos rfl
@[simp] theorem I_geq (k : IntKind) (a b : Int) : binI .geq k a k b = some (.bool (decide (b ≤ a))) := if_pos rfl
@[simp] theorem S_eql (a b : List UInt8) : binS .eql a b = some (.bool (a == b)) := rfl
@[simp] theorem S_neq (a b : List UInt8) : binS .neq a b = some (.bool (!(a == b))) := rfl
@[simp] theorem S_add (a b : List UInt8) : binS .add a b = if a.length + b.length ≤ 2 ^ 62 then some (.str (a ++ b)) else none := rfl
@[simp] theorem P_eqb (n a b : Bool) : runP (.eqb n) [.r (.bool a), .r (.bool b)] = some (.r (.bool ((a == b) != n))) := rfl
@[simp] theorem P_not (b : Bool) : runP (.un .not) [.r (.bool b)] = some (.r (.bool (!b))) := rfl
@[simp] theorem P_neg (k : IntKind) (n : Int) : runP (.un .neg) [.r (.int k n)] = some (.r (.int k (wrapK k (0 - n)))) := rfl
@[simp] theorem P_conv (k k' : IntKind) (n : Int) : runP (.conv k) [.r (.int k' n)] = some (.r (.int k (wrapK k n))) := rfl
@[simp] theorem P_nilc (b k f : Nat) : runP .nilc [.ptr b k f] = some (.ptr b k f) := rfl
@[simp] theorem P_eqp_nil (n : Bool) : runP (.eqp n) [.r .nilp, .r .nilp] = some (.r (.bool (true != n))) := rfl
@[simp] theorem P_eqp_ptr (n : Bool) (b k f : Nat) : runP (.eqp n) [.ptr b k f, .r .nilp] = some (.r (.bool (false != n))) := rfl
@[simp] theorem P_fld (o b k f : Nat) : runP (.fld o) [.ptr b k f] = some (.ptr b k (f + o)) := rfl
@[simp] theorem P_fldv (ag : Bool) (n o : Nat) (cs : List R) : runP (.fldv ag n o) [.r (.agg cs)] = opR (partR ag n cs o) := rfl
@[simp] theorem P_fldvV (ag : Bool) (n o : Nat) (cs : List V) : runP (.fldv ag n o) [.agg cs] = partV ag n cs o := rfl
@[simp] theorem P_ext (i : Nat) (xs : List V) : runP (.ext i) [.tup xs] = xs[i]? := rfl
@[simp] theorem P_len_r (sz : Nat) (kd : SK) (xs : List R) : runP .len [.r (.sl sz kd xs)] = some (.r (.int .i64 xs.length)) := rfl
@[simp] theorem P_len_s (sz b k n : Nat) : runP .len [.sl sz b k n] = some (.r (.int .i64 n)) := rfl
@[simp] theorem P_len_i (b k f sz : Nat) (ag : Bool) (n : Nat) : runP .len [.isl b k f sz ag n] = some (.r (.int .i64 n)) := rfl
@[simp] theorem P_lens (s : List UInt8) : runP .lens [.r (.str s)] = some (.r (.int .i64 s.length)) := rfl
@[simp] theorem P_cap_nil (sz : Nat) (xs : List R) : runP .cap [.r (.sl sz .nil xs)] = some (.r (.int .i64 0)) := rfl
@[simp] theorem P_cap_full (sz : Nat) (xs : List R) : runP .cap [.r (.sl sz .full xs)] = some (.r (.int .i64 xs.length)) := rfl
@[simp] theorem P_bld (z : List R) (ps : List (Nat × Nat)) (xs : List V) : runP (.bld z ps) xs = bldV z ps xs := rfl
@[simp] theorem P_ixa (len sz b k f : Nat) (kk : IntKind) (i : Int) : runP (.ixa len sz) [.ptr b k f, .r (.int kk i)] = if 0 ≤ i ∧ i < len then some (.ptr b k (f + i.toNat * sz)) else none := rfl
@[simp] theorem P_ixv (len sz : Nat) (ag : Bool) (cs : List R) (kk : IntKind) (i : Int) : runP (.ixv len ag sz) [.r (.agg cs), .r (.int kk i)] = if 0 ≤ i ∧ i < len then opR (partR ag sz cs (i.toNat * sz)) else none := rfl
@[simp] theorem P_ixvV (len sz : Nat) (ag : Bool) (cs : List V) (kk : IntKind) (i : Int) : runP (.ixv len ag sz) [.agg cs, .r (.int kk i)] = if 0 ≤ i ∧ i < len then partV ag sz cs (i.toNat * sz) else none := rfl
@[simp] theorem P_ixs (sz : Nat) (x : V) (y : V) : runP (.ixs sz) [x, y] = ixsV sz x y := rfl
@[simp] theorem P_ixstr (x y : V) : runP .ixstr [x, y] = ixstrV x y := rfl
@[simp] theorem P_eqn (n : Bool) (x : V) : runP (.eqn n) [x] = eqnV n x := rfl
@[simp] theorem P_eqa (n : Bool) (ks : List Bool) (x y : V) : runP (.eqa n ks) [x, y] = eqaV n ks x y := rfl
@[simp] theorem P_slsl (sz : Nat) (l h m : Bool) (xs : List V) : runP (.slsl sz l h m) xs = slslV sz l h m xs := rfl
@[simp] theorem P_slstr (l h : Bool) (xs : List V) : runP (.slstr l h) xs = slstrV l h xs := rfl
@[simp] theorem P_slar (n sz : Nat) (ag l h : Bool) (xs : List V) : runP (.slar n sz ag l h) xs = slarV n sz ag l h xs := rfl
end

/-- An element of a read-only slice. -/
theorem ixs_r {sz : Nat} {kd : SK} {xs : List R} {kk : IntKind} {i : Int} {x : R} (hi : 0 ≤ i) (hx : xs[i.toNat]? = some x) : ixsV sz (.r (.sl sz kd xs)) (.r (.int kk i)) = some (.r (.rptr x.cells)) := by
  simp [ixsV, hi, hx]
@[simp] theorem ixs_s (sz b k n : Nat) (kk : IntKind) (i : Int) : ixsV sz (.sl sz b k n) (.r (.int kk i)) = if 0 ≤ i ∧ i < n then some (.ptr b (k + i.toNat) 0) else none := by
  simp [ixsV]
@[simp] theorem load_r (h : Heap) (ag : Bool) (n : Nat) (cs : List R) : loadH h ag n (.r (.rptr cs)) = opR (partR ag n cs 0) := by
  simp only [loadH]; cases partR ag n cs 0 <;> rfl
@[simp] theorem partR_f (n : Nat) (cs : List R) (f : Nat) : partR false n cs f = cs[f]? := rfl
@[simp] theorem partR_t (n : Nat) (cs : List R) (f : Nat) : partR true n cs f = if f + n ≤ cs.length then some (.agg ((cs.drop f).take n)) else none := rfl
@[simp] theorem partV_f (n : Nat) (cs : List V) (f : Nat) : partV false n cs f = cs[f]? := rfl
@[simp] theorem partV_t (n : Nat) (cs : List V) (f : Nat) : partV true n cs f = if f + n ≤ cs.length then some (mkAgg ((cs.drop f).take n)) else none := rfl
@[simp] theorem cells_int (k : IntKind) (n : Int) : R.cells (.int k n) = [.int k n] := rfl
@[simp] theorem cells_bool (b : Bool) : R.cells (.bool b) = [.bool b] := rfl
@[simp] theorem cells_str (s : List UInt8) : R.cells (.str s) = [.str s] := rfl
@[simp] theorem cells_sl (sz : Nat) (k : SK) (xs : List R) : R.cells (.sl sz k xs) = [.sl sz k xs] := rfl
@[simp] theorem cells_agg (cs : List R) : R.cells (.agg cs) = cs := rfl
@[simp] theorem cells_nilp : R.cells .nilp = [.nilp] := rfl
@[simp] theorem vcells_r (x : R) : V.cells (.r x) = x.cells.map V.r := rfl
@[simp] theorem vcells_agg (cs : List V) : V.cells (.agg cs) = cs := rfl
@[simp] theorem vcells_sl (sz b k n : Nat) : V.cells (.sl sz b k n) = [.sl sz b k n] := rfl
@[simp] theorem vcells_ptr (b k f : Nat) : V.cells (.ptr b k f) = [.ptr b k f] := rfl
attribute [simp] bldV fill setRange mkAgg allR setAll

/-! ### new blocks, stores -/
@[simp] theorem N_alloc (z : R) : runN (.alloc z) [] = some (.rows z.cells.length [z], fun b => .ptr b 0 0) := rfl
@[simp] theorem N_box_r (sz : Nat) (x : R) : runN (.box sz) [.r x] = if x.cells.length = sz then some (.rows sz [x], fun b => .ptr b 0 0) else none := rfl
@[simp] theorem N_box_agg (sz : Nat) (cs : List V) : runN (.box sz) [.agg cs] = if cs.length = sz then some (.mix sz cs, fun b => .ptr b 0 0) else none := rfl
@[simp] theorem N_box_sl (sz a b k n : Nat) : runN (.box sz) [.sl a b k n] = if 1 = sz then some (.mix sz [.sl a b k n], fun b => .ptr b 0 0) else none := rfl
@[simp] theorem N_bsl (sz : Nat) (z : R) (len : Nat) (ats : List Nat) (xs : List V) : runN (.bsl sz z len ats) xs = bslN sz z len ats xs := rfl
@[simp] theorem N_mk (sz eb : Nat) (z : R) (x y : V) : runN (.mk sz eb z) [x, y] = mkN sz eb z x y := rfl
@[simp] theorem C_store (Γ : CallF) (n : Nat) (a v : V) (h : Heap) : runCU Γ (.store n) [a, v] h = (storeH h n v a).map fun h => (.tup [], h) := by
  simp only [runCU, runC, twoC, storeC]; cases storeH h n v a <;> rfl
@[simp] theorem C_app (Γ : CallF) (sz eb : Nat) (a v : V) (h : Heap) : runCU Γ (.app sz eb) [a, v] h = appH h sz eb a v := rfl
@[simp] theorem C_copy (Γ : CallF) (sz : Nat) (a v : V) (h : Heap) : runCU Γ (.copy sz) [a, v] h = copyH h sz a v := rfl
@[simp] theorem C_appz (Γ : CallF) (sz eb : Nat) (z : R) (a v : V) (h : Heap) : runCU Γ (.appz sz eb z) [a, v] h = appzC h sz eb z a v := rfl
@[simp] theorem C_slx (Γ : CallF) (sz : Nat) (l hh m : Bool) (xs : List V) (h : Heap) : runCU Γ (.slx sz l hh m) xs h = (slxH h sz l hh m xs).map fun v => (v, h) := by
  simp only [runCU, runC]; cases slxH h sz l hh m xs <;> rfl
@[simp] theorem C_call (Γ : CallF) (f : Nat) (xs : List V) (h : Heap) : runCU Γ (.call f) xs h = doCallU Γ f xs h := rfl
@[simp] theorem C_callv (Γ : CallF) (xs : List V) (h : Heap) : runCU Γ .callv xs h = callvCU Γ xs h := rfl

/-! ### heads of loops, ends, calls -/
theorem canonS_mk (k : Nat) (live : List Bool) (fr : AL) (h : Heap) : canonS k live ⟨fr, h⟩ = (rename h (keepOf h k ((liveIdx 0 live).map (get fr))) ((liveIdx 0 live).map (get fr))).map fun p => ⟨(liveIdx 0 live).zip p.1, p.2⟩ := by
  simp only [canonS]; cases rename h (keepOf h k ((liveIdx 0 live).map (get fr))) ((liveIdx 0 live).map (get fr)) <;> rfl
theorem endS_normal (k : Nat) (res : List ResV) (fr : AL) (h : Heap) : endS k res (some (.normal, ⟨fr, h⟩)) = finishS k res ⟨fr, h⟩ := rfl
theorem endS_ret (k : Nat) (res : List ResV) (fr : AL) (h : Heap) : endS k res (some (.ret, ⟨fr, h⟩)) = finishS k res ⟨fr, h⟩ := rfl
theorem finishS_mk (k : Nat) (res : List ResV) (fr : AL) (h : Heap) : finishS k res ⟨fr, h⟩ = (resS ⟨fr, h⟩ res).bind fun vs => (rename h (keepOf h k vs) vs).map fun p => (packRes p.1, p.2) := by
  simp only [finishS]
  cases resS ⟨fr, h⟩ res with
  | none => rfl
  | some vs => simp only [Option.bind_some]; cases rename h (keepOf h k vs) vs <;> rfl
theorem resS_tmp (s : SS) (t : Nat) (r : List ResV) : resS s (.tmp t :: r) = (resS s r).map fun l => get s.fr t :: l := by
  simp only [resS]; cases resS s r <;> rfl
theorem resS_cell (s : SS) (t : Nat) (ag : Bool) (n : Nat) (r : List ResV) : resS s (.cell t ag n :: r) = (loadH s.h ag n (get s.fr t)).bind fun v => (resS s r).map fun l => v :: l := by
  simp only [resS]; cases loadH s.h ag n (get s.fr t) <;> cases resS s r <;> rfl
theorem resS_nil (s : SS) : resS s [] = some [] := rfl
@[simp] theorem packRes_one (v : V) : packRes [v] = v := rfl
@[simp] theorem packRes_two (v u : V) (l : List V) : packRes (v :: u :: l) = .tup (v :: u :: l) := rfl
theorem callAS_false (Γ : CallF) (L : LoopF) (nt : Nat) (res : List ResV) (body : ACode) (args : List V) (h : Heap) : callAS Γ L ⟨false, nt, res, body⟩ args h = endS h.length res (execS Γ L h.length body ⟨initS 0 args, h⟩) := rfl
attribute [simp] canonS_mk endS_normal endS_ret finishS_mk resS_tmp resS_cell resS_nil callAS_false initS liveIdx

/-- Renaming when nothing leads anywhere. -/
theorem rename_eq (h : Heap) (keep : List Nat) (vs : List V) : rename h keep vs = (V.trL (idxIn keep) vs).bind fun vs => (pickBlks h keep).bind fun l => (trBlks (idxIn keep) l).map fun l => (vs, l) := by
  unfold rename
  cases V.trL (idxIn keep) vs <;> cases pickBlks h keep <;> try rfl
  simp only [Option.bind_some]
  rename_i l
  cases trBlks (idxIn keep) l <;> rfl
theorem trL_cons (σ : Nat → Option Nat) (v : V) (t : List V) : V.trL σ (v :: t) = (v.tr σ).bind fun v => (V.trL σ t).map fun t => v :: t := by
  simp only [V.trL]; cases v.tr σ <;> cases V.trL σ t <;> rfl
theorem trDL_cons (σ : Nat → Option Nat) (v : V) (t : List V) : V.trDL σ (v :: t) = (v.trD σ).bind fun v => (V.trDL σ t).map fun t => v :: t := by
  simp only [V.trDL]; cases v.trD σ <;> cases V.trDL σ t <;> rfl
theorem tr_ptr (σ : Nat → Option Nat) (b k f : Nat) : V.tr σ (.ptr b k f) = (σ b).map fun b => .ptr b k f := by
  simp only [V.tr]; cases σ b <;> rfl
theorem tr_sl (σ : Nat → Option Nat) (sz b k n : Nat) : V.tr σ (.sl sz b k n) = (σ b).map fun b => .sl sz b k n := by
  simp only [V.tr]; cases σ b <;> rfl
theorem trD_ptr (σ : Nat → Option Nat) (b k f : Nat) : V.trD σ (.ptr b k f) = (σ b).map fun b => .ptr b k f := by
  simp only [V.trD]; cases σ b <;> rfl
theorem trD_sl (σ : Nat → Option Nat) (sz b k n : Nat) : V.trD σ (.sl sz b k n) = (σ b).map fun b => .sl sz b k n := by
  simp only [V.trD]; cases σ b <;> rfl
theorem tr_r (σ : Nat → Option Nat) (x : R) : V.tr σ (.r x) = some (.r x) := rfl
theorem trD_r (σ : Nat → Option Nat) (x : R) : V.trD σ (.r x) = some (.r x) := by simp [V.trD]
theorem tr_junk (σ : Nat → Option Nat) : V.tr σ .junk = some .junk := rfl
theorem tr_agg (σ : Nat → Option Nat) (cs : List V) : V.tr σ (.agg cs) = (V.trDL σ cs).map V.agg := by
  simp only [V.tr, V.trD]; cases V.trDL σ cs <;> rfl
theorem tr_tup (σ : Nat → Option Nat) (cs : List V) : V.tr σ (.tup cs) = (V.trDL σ cs).map V.tup := by
  simp only [V.tr, V.trD]; cases V.trDL σ cs <;> rfl
theorem trDL_nil (σ : Nat → Option Nat) : V.trDL σ [] = some [] := by simp [V.trDL]
theorem ids_r (x : R) : V.ids (.r x) = [] := rfl
theorem ids_ptr (b k f : Nat) : V.ids (.ptr b k f) = [b] := rfl
theorem ids_sl (sz b k n : Nat) : V.ids (.sl sz b k n) = [b] := rfl
theorem ids_junk : V.ids .junk = [] := rfl
theorem ids_agg (cs : List V) : V.ids (.agg cs) = V.idsDL cs := by simp [V.ids, V.idsD]
theorem ids_tup (cs : List V) : V.ids (.tup cs) = V.idsDL cs := by simp [V.ids, V.idsD]
theorem idsDL_nil : V.idsDL [] = [] := by simp [V.idsDL]
theorem idsDL_cons (v : V) (t : List V) : V.idsDL (v :: t) = v.idsD ++ V.idsDL t := by simp [V.idsDL]
theorem idsD_r (x : R) : V.idsD (.r x) = [] := by simp [V.idsD]
theorem idsD_ptr (b k f : Nat) : V.idsD (.ptr b k f) = [b] := by simp [V.idsD]
theorem idsD_sl (sz b k n : Nat) : V.idsD (.sl sz b k n) = [b] := by simp [V.idsD]
theorem pick_cons (h : Heap) (b : Nat) (t : List Nat) : pickBlks h (b :: t) = h[b]?.bind fun k => (pickBlks h t).map fun l => k :: l := by
  simp only [pickBlks]; cases h[b]? <;> cases pickBlks h t <;> rfl
theorem trB_cons (σ : Nat → Option Nat) (b : Blk) (t : List Blk) : trBlks σ (b :: t) = (b.tr σ).bind fun b => (trBlks σ t).map fun t => b :: t := by
  simp only [trBlks]; cases b.tr σ <;> cases trBlks σ t <;> rfl
theorem btr_rows (σ : Nat → Option Nat) (sz : Nat) (els : List R) : Blk.tr σ (.rows sz els) = some (.rows sz els) := rfl
theorem btr_dead (σ : Nat → Option Nat) : Blk.tr σ .dead = some .dead := rfl
theorem btr_mix (σ : Nat → Option Nat) (sz : Nat) (cs : List V) : Blk.tr σ (.mix sz cs) = (V.trL σ cs).map fun cs => .mix sz cs := by
  simp only [Blk.tr]; cases V.trL σ cs <;> rfl
theorem bids_rows (sz : Nat) (els : List R) : Blk.ids (.rows sz els) = [] := rfl
theorem bids_dead : Blk.ids .dead = [] := rfl
theorem bids_mix (sz : Nat) (cs : List V) : Blk.ids (.mix sz cs) = V.idsL cs := rfl
theorem reach_nil (h : Heap) (n : Nat) (seen : List Nat) : reach h (n + 1) [] seen = seen := by simp [reach]
theorem reach_cons (h : Heap) (n b : Nat) (todo seen : List Nat) : reach h (n + 1) (b :: todo) seen = if seen.contains b then reach h n todo seen else reach h n (((h[b]?.map Blk.ids).getD []) ++ todo) (seen ++ [b]) := by
  simp only [reach]; cases h[b]? <;> rfl
theorem idsL_nil : V.idsL [] = [] := rfl
theorem idsL_cons (v : V) (t : List V) : V.idsL (v :: t) = v.ids ++ V.idsL t := rfl
theorem doCallU_eq2 (Γ : CallF) (f : Nat) (args : List V) (h : Heap) : doCallU Γ f args h = (rename h (reach h fuelR (V.idsL args) []) args).bind fun p => (Γ f p.1 p.2).bind fun q =>
    (q.1.tr (backσ (reach h fuelR (V.idsL args) []) h.length)).bind fun v => (trBlks (backσ (reach h fuelR (V.idsL args) []) h.length) q.2).bind fun lh =>
      if (reach h fuelR (V.idsL args) []).length ≤ lh.length then some (v, putBlks h (reach h fuelR (V.idsL args) []) (lh.take (reach h fuelR (V.idsL args) []).length) ++ lh.drop (reach h fuelR (V.idsL args) []).length) else none := by
  unfold doCallU
  cases rename h (reach h fuelR (V.idsL args) []) args with
  | none => rfl
  | some p =>
    simp only [Option.bind_some]
    cases Γ f p.1 p.2 with
    | none => rfl
    | some q =>
      simp only [Option.bind_some]
      cases q.1.tr (backσ (reach h fuelR (V.idsL args) []) h.length) <;> cases trBlks (backσ (reach h fuelR (V.idsL args) []) h.length) q.2 <;> rfl
attribute [simp] rename_eq trL_cons trDL_cons tr_ptr tr_sl tr_r tr_junk tr_agg tr_tup trD_ptr trD_sl trD_r trDL_nil ids_r ids_ptr ids_sl ids_junk ids_agg ids_tup idsDL_nil idsDL_cons idsD_r idsD_ptr idsD_sl pick_cons trB_cons btr_rows btr_dead btr_mix bids_rows bids_dead bids_mix reach_nil reach_cons idsL_nil idsL_cons fuelR
attribute [simp] keepOf idxIn backσ putBlks
@[simp] theorem trL_nil (σ : Nat → Option Nat) : V.trL σ [] = some [] := rfl
@[simp] theorem pick_nil (h : Heap) : pickBlks h [] = some [] := rfl
@[simp] theorem trB_nil (σ : Nat → Option Nat) : trBlks σ [] = some [] := rfl

/-- A call whose arguments lead to no block. -/
theorem call_pure {Γ : CallF} {f : Nat} {args : List V} {h lh : Heap} {v : V} (hids : V.idsL args = []) (htr : V.trL (idxIn []) args = some args) (hΓ : Γ f args [] = some (v, lh)) :
    doCallU Γ f args h = (v.tr (backσ [] h.length)).bind fun v => (trBlks (backσ [] h.length) lh).map fun lh => (v, h ++ lh) := by
  rw [doCallU_eq2, hids]
  have hr : reach h fuelR [] [] = [] := by simp [reach, fuelR]
  rw [hr]
  have hn : rename h [] args = some (args, []) := by rw [rename_eq, htr]; rfl
  rw [hn]
  simp only [Option.bind_some, hΓ]
  cases v.tr (backσ [] h.length) with
  | none => rfl
  | some v => simp only [Option.bind_some]; cases trBlks (backσ [] h.length) lh <;> simp [putBlks]

@[simp] theorem H_own (t sz : Nat) (fr : AL) (h : Heap) : runHS (.own t sz) ⟨fr, h⟩ = some ⟨(t, (ownV h sz (get fr t)).1) :: fr, (ownV h sz (get fr t)).2⟩ := rfl
@[simp] theorem own_nil (h : Heap) (sz : Nat) : ownV h sz (.r (.sl sz .nil [])) = (.sl sz h.length 0 0, h ++ [.rows sz []]) := by simp [ownV]
@[simp] theorem H_freeze (t : Nat) (fr : AL) (h : Heap) : runHS (.freeze t) ⟨fr, h⟩ = (freezeV h (get fr t)).map fun p => ⟨(t, p.1) :: fr, p.2⟩ := by
  simp only [runHS]; cases freezeV h (get fr t) <;> rfl
@[simp] theorem freeze_r (h : Heap) (x : R) : freezeV h (.r x) = some (.r x, h) := rfl
@[simp] theorem freeze_sl (h : Heap) (sz b k n : Nat) : freezeV h (.sl sz b k n) = (elemsR h (.sl sz b k n)).map fun xs => (.r (.sl sz .any xs), h.set b .dead) := by
  simp only [freezeV, freeze1]; cases elemsR h (.sl sz b k n) <;> rfl
theorem elems_whole {h : Heap} {sz b n : Nat} {els : List R} (hb : h[b]? = some (.rows sz els)) (hn : els.length = n) : elemsR h (.sl sz b 0 n) = some els := by
  simp only [elemsR, hb]
  rw [if_pos ⟨trivial, by omega⟩, List.drop_zero, List.take_of_length_le (by omega)]

/-! ### bytes -/
def byR (c : UInt8) : R := .int .u8 c.toNat
def bys (l : List UInt8) : List R := l.map byR
end Go.PV
