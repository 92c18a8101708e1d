/- Sums and differences with a carry. -/
import Derived.Test.YtdaalannljjkjaaGreatEqA
import Derived.Laws.Externs
import Derived.KernelRfl
set_option linter.unusedVariables false
set_option linter.unusedSimpArgs false
namespace Go.PV
variable {P : Program}
section
variable {fb : Nat → Prop} {μ : Mu} {g : Lk} {w : World} {fr : List V} {a : Act}

def sub64Entry : Array Value → Sem Value := fun args => do
  let (x, y, b) ← Extern.MathBitsCarry.three "Sub64" args
  pure (Extern.MathBitsCarry.pair ((x + Extern.MathBitsCarry.m64 - y - b) % Extern.MathBitsCarry.m64) (if x < y + b then 1 else 0))

theorem find_add64 {fn : Func} (h1 : fn.name = "math/bits.Add64") : Extern.find fn = some add64Entry := by
  cases fn; simp at h1; subst h1; kernel_rfl
theorem find_sub64 {fn : Func} (h1 : fn.name = "math/bits.Sub64") : Extern.find fn = some sub64Entry := by
  cases fn; simp at h1; subst h1; kernel_rfl
theorem next_add64 {fn : Func} (h1 : fn.name = "math/bits.Add64") (h2 : fn.origin = "") : Extern.findNext fn = none := by
  cases fn; simp at h1 h2; subst h1 h2; kernel_rfl
theorem next_sub64 {fn : Func} (h1 : fn.name = "math/bits.Sub64") (h2 : fn.origin = "") : Extern.findNext fn = none := by
  cases fn; simp at h1 h2; subst h1 h2; kernel_rfl

theorem run_three {s : String} {x y c : Int} (hc : ¬ c.toNat > 1) (kx ky kc : IntKind) : (Extern.MathBitsCarry.three s #[.int kx x, .int ky y, .int kc c]).run P w = .ok (x.toNat, y.toNat, c.toNat) w := by
  show ((do
    let c := (← asInt (.int kc c)).toNat
    if c > 1 then unsupported (.noEntry ("extern/math/bits." ++ s ++ ": a carry that is neither 0 nor 1"))
    pure ((← asInt (.int kx x)).toNat, (← asInt (.int ky y)).toNat, c) : Sem (Nat × Nat × Nat)).run P w) = _
  simp [asInt, asIntOf]; omega

theorem u64of_inv {x : V} {n : Nat} {v : Value} (h : u64of x = some n) (hv : VRel fb μ g w x v) : ∃ m : Int, v = .int .u64 m ∧ m.toNat = n := by
  unfold u64of at h
  split at h <;> cases h
  have := hv.int_inv
  exact ⟨_, this, rfl⟩

theorem tup2 {n m : Nat} : VRel fb μ g w (.tup [.r (.int .u64 (n : Int)), .r (.int .u64 (m : Int))]) (Extern.MathBitsCarry.pair n m) :=
  .tup _ [.int .u64 (n : Int), .int .u64 (m : Int)] rfl fun i c v h1 h2 => by
    rcases i with _ | _ | i
    · simp at h1 h2; subst h1 h2; exact .r _ _ (.int _ _)
    · simp at h1 h2; subst h1 h2; exact .r _ _ (.int _ _)
    · simp at h1

theorem pure_add64 (hf : FrRel fb μ g w fr a.tmps) {o : Oper} {xs : List AOprd} {v : V} (hc : chkP P o.op .add64 xs = true) (hr : runP .add64 (xs.map (ev fr)) = some v) : Gives P fb μ g w a o v := by
  unfold chkP at hc
  simp only at hc
  split at hc
  · rename_i f args ats hop
    simp only [Bool.and_eq_true] at hc
    obtain ⟨hx, hfn⟩ := hc
    split at hfn <;> try cases hfn
    rename_i fn hfn'
    simp only [Bool.and_eq_true, beq_iff_eq] at hfn
    obtain ⟨⟨hname, horig⟩, hbody⟩ := hfn
    simp only [runP] at hr
    obtain ⟨x1, x2, x3, hx1, hr1⟩ := three_inv hr
    obtain ⟨y1, y2, y3, rfl, e1, e2, e3⟩ := map3 hx1
    obtain ⟨z1, z2, z3, rfl, k1, k2, k3⟩ := arr3 hx
    have r1 := ev_rel hf k1
    have r2 := ev_rel hf k2
    have r3 := ev_rel hf k3
    rw [e1] at r1; rw [e2] at r2; rw [e3] at r3
    unfold add64V at hr1
    split at hr1 <;> try cases hr1
    rename_i n1 n2 n3 u1 u2 u3
    split at hr1 <;> cases hr1
    rename_i hc1
    obtain ⟨m1, v1, rfl⟩ := u64of_inv u1 r1
    obtain ⟨m2, v2, rfl⟩ := u64of_inv u2 r2
    obtain ⟨m3, v3, rfl⟩ := u64of_inv u3 r3
    refine ⟨_, ?_, tup2⟩
    have hcall := run_callFunc_extern (P := P) hfn' (by rw [hname]; rfl) hbody (next_add64 hname horig) (find_add64 hname)
    have hef : a.eval (Operand.func f) = .func (.func f) #[] #[] := rfl
    simp [execOp, hop, resolve, invoke, hef, Deferred.ofValue, v1, v2, v3, hcall, add64Entry, run_three hc1, Extern.MathBitsCarry.m64]
  · cases hc

theorem pure_sub64 (hf : FrRel fb μ g w fr a.tmps) {o : Oper} {xs : List AOprd} {v : V} (hc : chkP P o.op .sub64 xs = true) (hr : runP .sub64 (xs.map (ev fr)) = some v) : Gives P fb μ g w a o v := by
  unfold chkP at hc
  simp only at hc
  split at hc
  · rename_i f args ats hop
    simp only [Bool.and_eq_true] at hc
    obtain ⟨hx, hfn⟩ := hc
    split at hfn <;> try cases hfn
    rename_i fn hfn'
    simp only [Bool.and_eq_true, beq_iff_eq] at hfn
    obtain ⟨⟨hname, horig⟩, hbody⟩ := hfn
    simp only [runP] at hr
    obtain ⟨x1, x2, x3, hx1, hr1⟩ := three_inv hr
    obtain ⟨y1, y2, y3, rfl, e1, e2, e3⟩ := map3 hx1
    obtain ⟨z1, z2, z3, rfl, k1, k2, k3⟩ := arr3 hx
    have r1 := ev_rel hf k1
    have r2 := ev_rel hf k2
    have r3 := ev_rel hf k3
    rw [e1] at r1; rw [e2] at r2; rw [e3] at r3
    unfold sub64V at hr1
    split at hr1 <;> try cases hr1
    rename_i n1 n2 n3 u1 u2 u3
    split at hr1 <;> cases hr1
    rename_i hc1
    obtain ⟨m1, v1, rfl⟩ := u64of_inv u1 r1
    obtain ⟨m2, v2, rfl⟩ := u64of_inv u2 r2
    obtain ⟨m3, v3, rfl⟩ := u64of_inv u3 r3
    refine ⟨_, ?_, tup2⟩
    have hcall := run_callFunc_extern (P := P) hfn' (by rw [hname]; rfl) hbody (next_sub64 hname horig) (find_sub64 hname)
    have hef : a.eval (Operand.func f) = .func (.func f) #[] #[] := rfl
    simp [execOp, hop, resolve, invoke, hef, Deferred.ofValue, v1, v2, v3, hcall, sub64Entry, run_three hc1, Extern.MathBitsCarry.m64]
  · cases hc

/-- All pure operations. -/
theorem pure_sound (hf : FrRel fb μ g w fr a.tmps) {op : POp} {o : Oper} {xs : List AOprd} {v : V} (hc : chkP P o.op op xs = true) (hr : runP op (xs.map (ev fr)) = some v) : Gives P fb μ g w a o v := by
  cases op with
  | mov => exact pure_mov hf hc hr
  | pick => exact pure_pick hf hc hr
  | bin op => exact pure_bin hf hc hr
  | eqb neg => exact pure_eqb hf hc hr
  | eqa neg ks => exact pure_eqa hf hc hr
  | eqp neg => exact pure_eqp hf hc hr
  | eqn neg => exact pure_eqn hf hc hr
  | tas t z => exact pure_tas hf hc hr
  | un op => exact pure_un hf hc hr
  | conv k => exact pure_conv hf hc hr
  | nilc => exact pure_nilc hf hc hr
  | fld off => exact pure_fld hf hc hr
  | fldv ag n off => exact pure_fldv hf hc hr
  | ixa len sz => exact pure_ixa hf hc hr
  | ixs sz => exact pure_ixs hf hc hr
  | ixv len ag sz => exact pure_ixv hf hc hr
  | ixstr => exact pure_ixstr hf hc hr
  | slstr lo hi => exact pure_slstr hf hc hr
  | slsl sz lo hi mx => exact pure_slsl hf hc hr
  | slar n sz ag lo hi => exact pure_slar hf hc hr
  | len => exact pure_len hf hc hr
  | lens => exact pure_lens hf hc hr
  | cap => exact pure_cap hf hc hr
  | mn => exact pure_mn hf hc hr
  | mx => exact pure_mx hf hc hr
  | bld z parts => exact pure_bld hf hc hr
  | mkif t => exact pure_mkif hf hc hr
  | mkfn f first => exact pure_mkfn hf hc hr
  | ext i => exact pure_ext hf hc hr
  | add64 => exact pure_add64 hf hc hr
  | sub64 => exact pure_sub64 hf hc hr
  | ovl => cases hc
end
end Go.PV
