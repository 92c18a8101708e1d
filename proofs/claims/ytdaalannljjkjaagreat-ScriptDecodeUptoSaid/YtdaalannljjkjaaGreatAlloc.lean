/- Operations that make a block. -/
import Derived.Test.YtdaalannljjkjaaGreatExt
import Derived.Laws.MakeOwn
import Derived.Laws.IdiomStrings
import Derived.Great.BuildSlice
set_option linter.unusedVariables false
set_option linter.unusedSimpArgs false
namespace Go.PV
variable {P : Program}

def Blk.cs : Blk → List V
  | .rows _ els => (els.flatMap R.cells).map V.r
  | .mix _ cs => cs
  | .dead => []
def Blk.ok : Blk → Prop
  | .rows sz els => ∀ (k : Nat) (x : R), els[k]? = some x → x.cells.length = sz
  | .mix _ _ => True
  | .dead => False

theorem Blk.ok.live {b : Blk} (h : b.ok) : b.live = true := by cases b <;> first | rfl | cases h

section
variable {fb : Nat → Prop} {F : Nat → Prop} {μ : Mu} {g : Lk} {w w' : World} {fr : List V} {a : Act}

theorem BRel.of_cs {B lo : Nat} {blk : Blk} (ok : blk.ok) (h : ∀ (j : Nat) (c : V), blk.cs[j]? = some c → ∃ v, cellIs w ⟨B, lo + j, none⟩ v ∧ VRel fb μ g w c v) : BRel fb μ g w B lo blk := by
  cases blk with
  | rows sz els =>
    refine .rows sz els ok fun k x f c hk hf => ?_
    have hlt : f < sz := by have := (List.getElem?_eq_some_iff.1 hf).1; rw [ok k x hk] at this; exact this
    have := (flat_spec ok).2 k x f hk hlt
    obtain ⟨v, h1, h2⟩ := h (k * sz + f) (.r c) (by simp [Blk.cs, this, hf])
    exact ⟨v, by rwa [← Nat.add_assoc] at h1, h2.r_inv⟩
  | mix sz cs => exact .mix sz cs h
  | dead => cases ok

theorem BRel.cs {B lo : Nat} {blk : Blk} (h : BRel fb μ g w B lo blk) : blk.ok ∧ ∀ (j : Nat) (c : V), blk.cs[j]? = some c → ∃ v, cellIs w ⟨B, lo + j, none⟩ v ∧ VRel fb μ g w c v := by
  cases h with
  | rows sz els hsz hc =>
    refine ⟨hsz, fun j c hj => ?_⟩
    simp only [Blk.cs, List.getElem?_map] at hj
    cases hq : (els.flatMap R.cells)[j]? with
    | none => rw [hq] at hj; cases hj
    | some c' =>
      rw [hq] at hj; cases hj
      obtain ⟨i, x, f, hx, hf, rfl⟩ := flat_inv hsz hq
      obtain ⟨v, h1, h2⟩ := hc i x f c' hx hf
      exact ⟨v, by rwa [Nat.add_assoc] at h1, .r _ _ h2⟩
  | mix sz cs hc => exact ⟨trivial, hc⟩

def setMu (μ : Mu) (b0 B0 lo : Nat) : Mu := fun b => if b = b0 then some (B0, lo) else μ b
def setLk (g : Lk) (b0 : Nat) (blk : Blk) : Lk := fun b => if b = b0 then some blk else g b

/-- A new block whose cells are known. -/
theorem HRel.allocd {b0 : Nat} {blk : Blk} {arr : Array Value} {e : TypeId} {fr : Nat × Nat} (H : HRel F μ g w) (hheap : w'.heap = w.heap.push (Obj.cells arr e fr)) (hos : w'.os = w.os) (htape : w'.tape = w.tape) (hout : w'.output = w.output)
    (hfr : ∀ i : Nat, i < arr.size → ¬ (fr.1 ≤ i ∧ i < fr.2)) (ok : blk.ok) (hold : g b0 = none ∨ g b0 = some blk) (hμ : μ b0 = none)
    (hcs : ∀ (j : Nat) (c : V), blk.cs[j]? = some c → ∃ v, arr[j]? = some v ∧ v.oneCell' = true ∧ VRel (fbOf F μ g) μ g w c v) :
    Evo All F μ g w (setMu μ b0 w.heap.size 0) (setLk g b0 blk) w' ∧ HRel F (setMu μ b0 w.heap.size 0) (setLk g b0 blk) w' := by
  have hc : w'.heap[w.heap.size]? = some (Obj.cells arr e fr) := by rw [hheap]; simp
  refine H.newBlk (B0 := w.heap.size) hos htape hout (by rw [hheap]; simp) (fun B hB => by rw [hheap, Array.getElem?_push_lt hB]; simp [hB]) (Nat.le_refl _) hc hfr ok.live hold hμ
    fun {fb μ2 g2} hv hr => .of_cs ok fun j c hj => ?_
  obtain ⟨v, h1, h2, h3⟩ := hcs j c hj
  exact ⟨v, ⟨by simp [World.cell?, hc, h1], h2⟩, hv h3⟩

/-- What an operation that makes a block must come to. -/
def NGives (P : Program) (F : Nat → Prop) (μ : Mu) (g : Lk) (w : World) (a : Act) (o : Oper) (b0 : Nat) (blk : Blk) (v : V) : Prop :=
  ∃ cv w', (execOp a.eval o).run P w = .ok (.value cv) w' ∧ Evo All F μ g w (setMu μ b0 w.heap.size 0) (setLk g b0 blk) w' ∧ HRel F (setMu μ b0 w.heap.size 0) (setLk g b0 blk) w' ∧
    VRel (fbOf F (setMu μ b0 w.heap.size 0) (setLk g b0 blk)) (setMu μ b0 w.heap.size 0) (setLk g b0 blk) w' v cv

theorem liveAt_set {b0 : Nat} {blk : Blk} (ok : blk.ok) : liveAt (setLk g b0 blk) b0 blk.sz := ⟨blk, by simp [setLk], ok.live, rfl⟩
theorem mu_set {b0 B lo : Nat} : setMu μ b0 B lo b0 = some (B, lo) := by simp [setMu]

theorem ptr_new {b0 sz B : Nat} {blk : Blk} (ok : blk.ok) (hsz : blk.sz = sz) : VRel fb (setMu μ b0 B 0) (setLk g b0 blk) w (.ptr b0 0 0) (.pointer (some ⟨B, 0, none⟩)) := by
  have := VRel.ptr (fb := fb) (w := w) b0 0 0 sz B 0 (hsz ▸ liveAt_set (g := g) ok) (mu_set (μ := μ))
  simpa using this

theorem sl_new {b0 sz B n cap : Nat} {blk : Blk} {arr : Array Value} {e : TypeId} {fr : Nat × Nat} (ok : blk.ok) (hsz : blk.sz = sz) (hB : w.heap[B]? = some (Obj.cells arr e fr)) (hn : n ≤ cap) (hcap : cap * sz ≤ arr.size) (hcnt : cntB blk ≤ cap) :
    VRel fb (setMu μ b0 B 0) (setLk g b0 blk) w (.sl sz b0 0 n) (.slice (some ⟨B, 0, none⟩) n cap) := by
  have := VRel.sl (fb := fb) (w := w) sz b0 0 n B 0 cap (hsz ▸ liveAt_set (g := g) ok) (mu_set (μ := μ)) hn ⟨arr, e, fr, hB, by simpa using hcap⟩ (by simpa [cntAt, setLk] using hcnt)
  simpa using this

theorem heap_alloc (w : World) (x : Obj) : (w.alloc x).heap[w.heap.size]? = some x := by
  show (w.heap.push x)[w.heap.size]? = _
  simp

theorem run_newVar (t : TypeId) (v : Value) : (newVar t v).run P w = .ok ⟨w.heap.size, 0, none⟩ (w.alloc (.cells v.cells t)) := by
  simp [newVar, newRow]

theorem fr0 {arr : Array Value} : ∀ i : Nat, i < arr.size → ¬ (((0, 0) : Nat × Nat).1 ≤ i ∧ i < ((0, 0) : Nat × Nat).2) := by simp

theorem new_box (H : HRel F μ g w) (hf : FrRel (fbOf F μ g) μ g w fr a.tmps) {sz : Nat} {o : Oper} {xs : List AOprd} {blk : Blk} {mkv : Nat → V} (hc : chkN P o.op (.box sz) xs = true)
    (hr : runN (.box sz) (xs.map (ev fr)) = some (blk, mkv)) {b0 : Nat} (hold : g b0 = none ∨ g b0 = some blk) (hμ : μ b0 = none) : NGives P F μ g w a o b0 blk (mkv b0) := by
  unfold chkN at hc
  simp only at hc
  split at hc
  · rename_i t x hop
    simp only [Bool.and_eq_true] at hc
    obtain ⟨⟨hx, hs⟩, hz⟩ := hc
    have hz : sz ≠ 0 := by simpa using hz
    obtain ⟨y, rfl, hy⟩ := chk1 hx
    have r1 := ev_rel hf hy
    simp only [runN, List.map, boxN] at hr
    generalize ev fr y = vy at *
    obtain ⟨ok, hcs, hsz, hmk⟩ : blk.ok ∧ blk.cs = vy.cells ∧ blk.sz = sz ∧ mkv = (fun b => .ptr b 0 0) := by
      split at hr
      · rename_i x'
        split at hr <;> cases hr
        rename_i hl
        refine ⟨fun k x hk => ?_, by simp [Blk.cs, V.cells], rfl, rfl⟩
        cases k with
        | zero => simp at hk; subst hk; exact hl
        | succ k => simp at hk
      · split at hr <;> cases hr
        exact ⟨trivial, rfl, rfl, rfl⟩
    have hlen : vy.cells.length = sz := by
      split at hr
      · split at hr <;> cases hr; rename_i hl; simpa [V.cells] using hl
      · split at hr <;> cases hr; assumption
    have hcr := r1.cells_rel (by rw [hlen]; exact hz)
    subst hmk
    obtain ⟨E, H'⟩ := H.allocd (b0 := b0) (blk := blk) (w' := w.alloc (.cells (a.eval x).cells t)) rfl rfl rfl rfl fr0 ok hold hμ fun j c hj => by
      rw [hcs] at hj
      have hlt := (List.getElem?_eq_some_iff.1 hj).1
      have hl := hcr.1.1
      have hv : (a.eval x).cells.toList[j]? = some (a.eval x).cells.toList[j] := List.getElem?_eq_getElem (by omega)
      exact ⟨_, by simp, hcr.1.2 _ (List.getElem_mem _), hcr.2 j c _ hj hv⟩
    exact ⟨.pointer (some ⟨w.heap.size, 0, none⟩), w.alloc (.cells (a.eval x).cells t), by simp [execOp, hop, Instr.box, run_newVar], E, H', ptr_new ok hsz⟩
  · cases hc

theorem new_alloc (H : HRel F μ g w) (hf : FrRel (fbOf F μ g) μ g w fr a.tmps) {z : R} {o : Oper} {xs : List AOprd} {blk : Blk} {mkv : Nat → V} (hc : chkN P o.op (.alloc z) xs = true)
    (hr : runN (.alloc z) (xs.map (ev fr)) = some (blk, mkv)) {b0 : Nat} (hold : g b0 = none ∨ g b0 = some blk) (hμ : μ b0 = none) : NGives P F μ g w a o b0 blk (mkv b0) := by
  unfold chkN at hc
  simp only at hc
  split at hc
  · rename_i t hop
    simp only [Bool.and_eq_true] at hc
    obtain ⟨⟨hx, hz⟩, hi⟩ := hc
    have hx : xs = [] := by simpa using hx
    subst hx
    split at hi <;> try cases hi
    rename_i inf hinf
    split at hi <;> try cases hi
    rename_i zv hzero
    simp only [runN, List.map] at hr
    cases hr
    have hcr := (chkConst_rel (fb := fbOf F μ g) (w := w) z zv hi).cells_rel (μ := μ) (g := g)
    have ok : (Blk.rows z.cells.length [z]).ok := fun k x hk => by
      cases k with
      | zero => simp at hk; subst hk; rfl
      | succ k => simp at hk
    obtain ⟨E, H'⟩ := H.allocd (b0 := b0) (blk := .rows z.cells.length [z]) (w' := w.alloc (.cells zv.cells t)) rfl rfl rfl rfl fr0 ok hold hμ fun j c hj => by
      simp only [Blk.cs, List.flatMap_cons, List.flatMap_nil, List.append_nil] at hj
      have hlt := (List.getElem?_eq_some_iff.1 hj).1
      have hl := hcr.1.1
      have hv : zv.cells.toList[j]? = some zv.cells.toList[j] := List.getElem?_eq_getElem (by omega)
      exact ⟨_, by simp, hcr.1.2 _ (List.getElem_mem _), hcr.2 j c _ hj hv⟩
    exact ⟨.pointer (some ⟨w.heap.size, 0, none⟩), w.alloc (.cells zv.cells t), by simp [execOp, hop, Instr.alloc, run_newVar, zeroValue, typeInfo, hinf, hzero], E, H', ptr_new ok rfl⟩
  · cases hc

theorem rep_flat {α β : Type} (f : α → List β) (x : α) : ∀ (n j : Nat), j < n * (f x).length → ((List.replicate n x).flatMap f)[j]? = (f x)[j % (f x).length]?
  | 0, j, h => by simp at h
  | n + 1, j, h => by
    rw [List.replicate_succ, List.flatMap_cons]
    by_cases hj : j < (f x).length
    · rw [List.getElem?_append_left hj, Nat.mod_eq_of_lt hj]
    · rw [List.getElem?_append_right (by omega), rep_flat f x n _ (by rw [Nat.add_mul] at h; omega), Nat.mod_eq_sub_mod (a := j) (b := (f x).length) (by omega)]

theorem rep_flat_len {α β : Type} (f : α → List β) (x : α) (n : Nat) : ((List.replicate n x).flatMap f).length = n * (f x).length := by
  induction n with
  | zero => simp
  | succ n ih => rw [List.replicate_succ, List.flatMap_cons, List.length_append, ih, Nat.add_mul]; omega

theorem madeCells_get {z : Array Value} {n j : Nat} (hz : 0 < z.size) (hj : j < n) : (madeCells z n)[j]? = z[j % z.size]? := by
  have h : j % z.size < z.size := Nat.mod_lt _ hz
  simp [madeCells, hj, h]

theorem new_mk (H : HRel F μ g w) (hf : FrRel (fbOf F μ g) μ g w fr a.tmps) {sz eb : Nat} {z : R} {o : Oper} {xs : List AOprd} {blk : Blk} {mkv : Nat → V} (hc : chkN P o.op (.mk sz eb z) xs = true)
    (hr : runN (.mk sz eb z) (xs.map (ev fr)) = some (blk, mkv)) {b0 : Nat} (hold : g b0 = none ∨ g b0 = some blk) (hμ : μ b0 = none) : NGives P F μ g w a o b0 blk (mkv b0) := by
  unfold chkN at hc
  simp only at hc
  split at hc
  · rename_i t l c hop
    simp only [Bool.and_eq_true] at hc
    obtain ⟨⟨⟨hsz, heb⟩, hx⟩, hty⟩ := hc
    have hsz : sz ≠ 0 := by simpa using hsz
    have heb : eb ≠ 0 := by simpa using heb
    split at hty <;> try cases hty
    rename_i e hu
    split at hty <;> try cases hty
    rename_i inf hinf
    simp only [Bool.and_eq_true, beq_iff_eq] at hty
    obtain ⟨⟨h1, h2⟩, hty⟩ := hty
    split at hty <;> try cases hty
    rename_i zv hzero
    obtain ⟨y1, y2, rfl, k1, k2⟩ := chk2 hx
    have r1 := ev_rel hf k1
    have r2 := ev_rel hf k2
    simp only [runN, List.map, mkN] at hr
    generalize ev fr y1 = v1 at *
    generalize ev fr y2 = v2 at *
    split at hr <;> try cases hr
    rename_i l'
    split at hr <;> try cases hr
    rename_i c'
    split at hr <;> cases hr
    rename_i hcond
    obtain ⟨hl0, hlc, hb, hzl⟩ := hcond
    have e1 := r1.int_inv
    have e2 := r2.int_inv
    have hcr := (chkConst_rel (fb := fbOf F μ g) (w := w) z zv hty).cells_rel (μ := μ) (g := g)
    have hcl := hcr.1.1
    rw [List.length_map, hzl] at hcl
    have hcl : zv.cells.size = sz := by simpa using hcl.symm
    have hbn : c'.toNat ≤ 70368744177664 := by
      have : c'.toNat * 1 ≤ c'.toNat * eb := Nat.mul_le_mul_left _ (by omega)
      simp at hb; omega
    have hrun := run_make (P := P) w t e inf zv hu hinf hzero .i64 .i64 l' c' hl0 hlc (by
      have : ((c'.toNat * eb : Nat) : Int) ≤ 70368744177664 := by simp at hb; omega
      rw [Int.natCast_mul, Int.toNat_of_nonneg (by omega)] at this
      rw [h2, Int.mul_comm]; omega) (by omega)
    rw [h1] at hrun
    have ok : (Blk.rows sz (List.replicate l'.toNat z)).ok := fun k x hk => by
      have := List.mem_of_getElem? hk
      rw [List.eq_of_mem_replicate this]; exact hzl
    have hle : l'.toNat * sz ≤ c'.toNat * sz := Nat.mul_le_mul_right _ (by omega)
    obtain ⟨E, H'⟩ := H.allocd (b0 := b0) (blk := .rows sz (List.replicate l'.toNat z)) (w' := w.alloc (.cells (madeCells zv.cells (c'.toNat * sz)) e)) rfl rfl rfl rfl fr0 ok hold hμ fun j cc hj => by
      have hlt := (List.getElem?_eq_some_iff.1 hj).1
      simp only [Blk.cs, List.length_map, rep_flat_len] at hlt
      rw [hzl] at hlt
      simp only [Blk.cs, List.getElem?_map] at hj
      rw [rep_flat _ _ _ _ (by rw [hzl]; exact hlt), hzl, ← List.getElem?_map] at hj
      rw [madeCells_get (by omega) (by omega), hcl]
      have hv : zv.cells.toList[j % sz]? = some (zv.cells.toList[j % sz]'(by have := Nat.mod_lt j (show 0 < sz by omega); simp [hcl]; exact this)) := List.getElem?_eq_getElem _
      exact ⟨_, by simp, hcr.1.2 _ (List.getElem_mem _), hcr.2 _ cc _ hj hv⟩
    refine ⟨.slice (some ⟨w.heap.size, 0, none⟩) l'.toNat c'.toNat, _, by simp [execOp, hop, e1, e2, hrun], E, H', ?_⟩
    refine sl_new (arr := madeCells zv.cells (c'.toNat * sz)) (e := e) (fr := (0, 0)) ok rfl (heap_alloc w _) (by omega) (by rw [size_madeCells]; exact Nat.le_refl _) (by simp [cntB]; omega)
  · cases hc

theorem new_s2b (H : HRel F μ g w) (hf : FrRel (fbOf F μ g) μ g w fr a.tmps) {o : Oper} {xs : List AOprd} {blk : Blk} {mkv : Nat → V} (hc : chkN P o.op .s2b xs = true)
    (hr : runN .s2b (xs.map (ev fr)) = some (blk, mkv)) {b0 : Nat} (hold : g b0 = none ∨ g b0 = some blk) (hμ : μ b0 = none) : NGives P F μ g w a o b0 blk (mkv b0) := by
  unfold chkN at hc
  simp only at hc
  split at hc
  · rename_i s d x hop
    simp only [Bool.and_eq_true] at hc
    obtain ⟨⟨hx, hs⟩, hd⟩ := hc
    obtain ⟨ds, hs1, hs2⟩ := run_under hs
    split at hs2 <;> try cases hs2
    split at hd <;> try cases hd
    rename_i e hu
    obtain ⟨de, he1, he2⟩ := run_under hd
    split at he2 <;> try cases he2
    obtain ⟨y, rfl, hy⟩ := chk1 hx
    have r1 := ev_rel hf hy
    simp only [runN, List.map] at hr
    generalize ev fr y = vy at *
    split at hr <;> cases hr
    rename_i l
    have e1 := r1.str_inv
    have hrun := run_bytes_of_string (P := P) w s d e ⟨l.toArray⟩ hs1 hu he1
    generalize hcap : grownCap w (ByteArray.mk l.toArray).size 0 e = cap at hrun
    have hsize : (ByteArray.mk l.toArray).size = l.length := by simp [ByteArray.size]
    have hcap' : l.length ≤ cap := by
      rw [← hcap, hsize]
      simp [grownCap, Question.cut]
    have hrow : (bytesRow ⟨l.toArray⟩ cap).size = cap := by simp [bytesRow, hsize]; omega
    have ok : (Blk.rows 1 (l.map fun c => R.int .u8 c.toNat)).ok := fun k x hk => by
      rw [List.getElem?_map] at hk
      cases hq : l[k]? with
      | none => rw [hq] at hk; cases hk
      | some q => rw [hq] at hk; cases hk; rfl
    have hflat : (l.map fun c => R.int .u8 c.toNat).flatMap R.cells = l.map fun c => R.int .u8 c.toNat := by
      clear ok hrun hcap hrow hsize hcap' e1 r1 hold
      induction l with
      | nil => rfl
      | cons c t ih => simp [ih, R.cells]
    obtain ⟨E, H'⟩ := H.allocd (b0 := b0) (blk := .rows 1 (l.map fun c => .int .u8 c.toNat)) (w' := w.drew.alloc (.cells (bytesRow ⟨l.toArray⟩ cap) e ((bytesRow ⟨l.toArray⟩ cap).size, (bytesRow ⟨l.toArray⟩ cap).size + 1)))
      rfl rfl rfl rfl (fun i hi => by simp; omega) ok hold hμ fun j c hj => by
      simp only [Blk.cs, hflat, List.getElem?_map] at hj
      cases hq : l[j]? with
      | none => rw [hq] at hj; cases hj
      | some q =>
        rw [hq] at hj; cases hj
        have hlt := (List.getElem?_eq_some_iff.1 hq).1
        refine ⟨.int .u8 q.toNat, ?_, rfl, .r _ _ (.int _ _)⟩
        rw [bytesRow, Array.getElem?_append_left (by simpa using hlt)]
        simp [hq]
    refine ⟨.slice (some ⟨w.heap.size, 0, none⟩) (ByteArray.mk l.toArray).size cap, _, by simp [execOp, hop, e1, hrun], E, H', ?_⟩
    rw [hsize]
    refine sl_new (arr := bytesRow ⟨l.toArray⟩ cap) (e := e) (fr := _) ok rfl (heap_alloc w.drew _) hcap' (by rw [hrow]; simp) (by simp [cntB]; exact hcap')
  · cases hc

/-! slices that are built -/
theorem flat_set {sz : Nat} : ∀ (l : List V) (i : Nat) (v : V), (∀ x ∈ l, x.cells.length = sz) → i < l.length → v.cells.length = sz →
    (l.set i v).flatMap V.cells = setRange (l.flatMap V.cells) (i * sz) v.cells
  | [], i, v, _, hi, _ => by simp at hi
  | x :: l, 0, v, h, hi, hv => by
    have hx := h x (by simp)
    simp [setRange, hv, ← hx]
  | x :: l, i + 1, v, h, hi, hv => by
    have hx := h x (by simp)
    have ih := flat_set l i v (fun y hy => h y (by simp [hy])) (by simpa using hi) hv
    simp only [List.set_cons_succ, List.flatMap_cons, ih, setRange]
    rw [show (i + 1) * sz = x.cells.length + i * sz by rw [hx, Nat.add_mul]; omega, List.take_length_add_append, Nat.add_assoc x.cells.length, List.drop_length_add_append]
    simp

theorem flatV_len {sz : Nat} {l : List V} (h : ∀ x ∈ l, x.cells.length = sz) : (l.flatMap V.cells).length = l.length * sz := by
  induction l with
  | nil => simp
  | cons x l ih => rw [List.flatMap_cons, List.length_append, ih (fun y hy => h y (by simp [hy])), h x (by simp), List.length_cons, Nat.add_mul]; omega

theorem setAll_fill {sz : Nat} : ∀ (ps : List (Nat × V)) (l l' : List V), (∀ x ∈ l, x.cells.length = sz) → (∀ p ∈ ps, p.2.cells.length = sz) → setAll l ps = some l' →
    (∀ x ∈ l', x.cells.length = sz) ∧ fill (l.flatMap V.cells) (ps.map fun p => ((p.1 * sz, sz), p.2)) = some (l'.flatMap V.cells)
  | [], l, l', hl, _, h => by simp [setAll] at h; subst h; exact ⟨hl, rfl⟩
  | (i, v) :: ps, l, l', hl, hp, h => by
    simp only [setAll] at h
    split at h <;> try cases h
    rename_i hi
    have hv := hp (i, v) (by simp)
    have hl2 : ∀ x ∈ l.set i v, x.cells.length = sz := fun x hx => by
      rcases List.mem_or_eq_of_mem_set hx with hx | rfl
      · exact hl x hx
      · exact hv
    obtain ⟨h1, h2⟩ := setAll_fill ps (l.set i v) l' hl2 (fun p hp' => hp p (by simp [hp'])) h
    refine ⟨h1, ?_⟩
    simp only [List.map_cons, fill]
    rw [if_pos ⟨hv, by
      rw [flatV_len hl, ← Nat.succ_mul]
      exact Nat.mul_le_mul_right _ hi⟩, ← flat_set l i v hl hi hv]
    exact h2

theorem rows_flat (rs : List R) : (rs.map V.r).flatMap V.cells = (rs.flatMap R.cells).map V.r := by
  induction rs with
  | nil => rfl
  | cons r rs ih => simp [V.cells, ih]

theorem zip_map_fst {α β γ : Type} (f : α → γ) : ∀ (l : List α) (m : List β), (l.zip m).map (fun p => (f p.1, p.2)) = (l.map f).zip m
  | [], _ => rfl
  | _ :: _, [] => rfl
  | a :: l, b :: m => by simp [zip_map_fst f l m]

theorem new_bsl (H : HRel F μ g w) (hf : FrRel (fbOf F μ g) μ g w fr a.tmps) {sz : Nat} {z : R} {len : Nat} {at_ : List Nat} {o : Oper} {xs : List AOprd} {blk : Blk} {mkv : Nat → V} (hc : chkN P o.op (.bsl sz z len at_) xs = true)
    (hr : runN (.bsl sz z len at_) (xs.map (ev fr)) = some (blk, mkv)) {b0 : Nat} (hold : g b0 = none ∨ g b0 = some blk) (hμ : μ b0 = none) : NGives P F μ g w a o b0 blk (mkv b0) := by
  unfold chkN at hc
  simp only at hc
  split at hc
  · rename_i t n parts hop
    simp only [Bool.and_eq_true, beq_iff_eq, decide_eq_true_eq] at hc
    obtain ⟨⟨⟨⟨⟨rfl, hsz⟩, hsmall⟩, hat⟩, hx⟩, hty⟩ := hc
    have hsz : sz ≠ 0 := by simpa using hsz
    split at hty <;> try cases hty
    rename_i e hu
    split at hty <;> try cases hty
    rename_i inf hinf
    simp only [Bool.and_eq_true, beq_iff_eq] at hty
    obtain ⟨h1, hty⟩ := hty
    split at hty <;> try cases hty
    rename_i zv hzero
    obtain ⟨hl, hrel⟩ := evs_rel hf hx
    simp only [runN, bslN] at hr
    split at hr <;> try cases hr
    rename_i hcond
    obtain ⟨hlen, hall, hzl⟩ := hcond
    split at hr <;> try cases hr
    rename_i l' hset
    have hxs : ∀ x ∈ xs.map (ev fr), x.cells.length = sz := fun x hx => by simpa using List.all_eq_true.1 hall x hx
    obtain ⟨hl', hfill⟩ := setAll_fill (sz := sz) (at_.zip (xs.map (ev fr))) (List.replicate n (V.r z)) l'
      (fun x hx => by rw [List.eq_of_mem_replicate hx]; simpa [V.cells] using hzl) (fun p hp => hxs _ (List.of_mem_zip hp).2) hset
    have hl'len : l'.length = n := by
      have := (flatV_len hl').symm
      have k : ∀ (ps : List (Nat × V)) (l l' : List V), setAll l ps = some l' → l'.length = l.length := by
        intro ps
        induction ps with
        | nil => intro l l' h; simp [setAll] at h; rw [h]
        | cons p ps ih =>
          intro l l' h
          obtain ⟨i, v⟩ := p
          simp only [setAll] at h
          split at h <;> try cases h
          rw [ih _ _ h]; simp
      rw [k _ _ _ hset]; simp
    have hcr := (chkConst_rel (fb := fbOf F μ g) (w := w) z zv hty).cells_rel (μ := μ) (g := g)
    have hcl : zv.cells.size = sz := by have := hcr.1.1; rw [List.length_map, hzl] at this; simpa using this.symm
    have hbase : CsRel (fbOf F μ g) μ g w ((List.replicate n (V.r z)).flatMap V.cells) ((Array.range (n * sz)).map (zv.cells[· % zv.cells.size]!)).toList := by
      have hlz : (V.r z).cells.length = sz := by simpa [V.cells] using hzl
      refine ⟨⟨by rw [rep_flat_len, hlz]; simp, fun v hv => ?_⟩, fun j c v hj hv => ?_⟩
      · obtain ⟨j, hj, rfl⟩ := List.getElem_of_mem hv
        have hj' : j % sz < sz := Nat.mod_lt _ (by omega)
        have : zv.cells.toList[j % sz]'(by simpa [hcl] using hj') ∈ zv.cells.toList := List.getElem_mem _
        have := hcr.1.2 _ this
        simpa [hcl, hj'] using this
      · have hlt := (List.getElem?_eq_some_iff.1 hv).1
        have hlt : j < n * sz := by simpa using hlt
        rw [rep_flat _ _ _ _ (by rw [hlz]; exact hlt), hlz] at hj
        have hj' : j % sz < sz := Nat.mod_lt _ (by omega)
        refine hcr.2 (j % sz) c v (by simpa [V.cells] using hj) ?_
        rw [← hv]
        simp [hlt, hcl, hj']
    have hkey : ∃ cells, Instr.fill (fun i => some (i * sz, sz)) ((Array.range (n * sz)).map (zv.cells[· % zv.cells.size]!)) (parts.map fun (i, x) => (i, a.eval x)).toList = some cells ∧ CsRel (fbOf F μ g) μ g w (l'.flatMap V.cells) cells.toList := by
      have hzip : ((at_.zip (xs.map (ev fr))).map fun p => ((p.1 * sz, sz), p.2)) = (at_.map fun i => (i * sz, sz)).zip (xs.map (ev fr)) := zip_map_fst (fun i => (i * sz, sz)) _ _
      rw [hzip] at hfill
      refine fill_rel (place := fun i => some (i * sz, sz)) (parts := at_.map fun i => (i * sz, sz)) ?_ (fun p hp => ?_) (by simpa using hlen.symm) (fun i x v h3 h4 => hrel i x v h3 ?_) hbase hfill
      · rw [← hat, Array.toList_map, List.map_map, List.map_map, List.map_map]; rfl
      · obtain ⟨i, _, rfl⟩ := List.mem_map.1 hp; exact hsz
      · rw [Array.toList_map, List.map_map] at h4
        rw [List.map_map]; exact h4
    obtain ⟨cells, hrf, hcells⟩ := hkey
    obtain ⟨ok, hcs, hbsz, hmk, hcnt⟩ : blk.ok ∧ blk.cs = l'.flatMap V.cells ∧ blk.sz = sz ∧ mkv = (fun b => .sl sz b 0 n) ∧ cntB blk ≤ n := by
      split at hr <;> cases hr
      · rename_i rs hrs
        have := allR_map hrs
        subst this
        refine ⟨fun k x hk => ?_, by simp [Blk.cs, rows_flat], rfl, rfl, by simp [cntB] at hl'len ⊢; omega⟩
        have := hl' (.r x) (by simpa using List.mem_of_getElem? hk)
        simpa [V.cells] using this
      · refine ⟨trivial, rfl, rfl, rfl, ?_⟩
        simp only [cntB, flatV_len hl', hl'len]
        rw [Nat.mul_div_cancel _ (by omega)]; exact Nat.le_refl _
    subst hmk
    have hcsz : cells.size = n * sz := by have := hcells.1.1; rw [flatV_len hl', hl'len] at this; simpa using this.symm
    have hrun : (Instr.buildSlice t n (parts.map fun (i, x) => (i, a.eval x))).run P w = .ok (.slice (some ⟨w.heap.size, 0, none⟩) n n) (w.alloc (.cells cells e)) := by
      by_cases hn : n = 0
      · subst hn
        simp only [Nat.zero_mul] at hrf hcsz
        simp [Instr.buildSlice, run_underlying hu, sizeOf, typeInfo, hinf, newRow]
        have hempty : (Array.map (fun x => zv.cells[x % zv.cells.size]!) (Array.range 0)) = Array.map (fun x => default) (Array.range 0) := by apply Array.ext <;> simp
        rw [hempty, Array.toList_map] at hrf
        subst h1
        rw [hrf]
        simp
      · exact run_buildSlice w t e n _ cells inf zv hu hinf hzero (by rw [h1]; omega) (by rw [h1]; exact Nat.mul_ne_zero hn hsz) (by rw [h1]; exact hrf)
    obtain ⟨E, H'⟩ := H.allocd (b0 := b0) (blk := blk) (w' := w.alloc (.cells cells e)) rfl rfl rfl rfl fr0 ok hold hμ fun j c hj => by
      rw [hcs] at hj
      have hlt := (List.getElem?_eq_some_iff.1 hj).1
      have hl := hcells.1.1
      have hv : cells.toList[j]? = some cells.toList[j] := List.getElem?_eq_getElem (by omega)
      exact ⟨_, by simp, hcells.1.2 _ (List.getElem_mem _), hcells.2 j c _ hj hv⟩
    exact ⟨.slice (some ⟨w.heap.size, 0, none⟩) n n, _, by simp [execOp, hop, hrun], E, H', sl_new (arr := cells) (e := e) (fr := (0, 0)) ok hbsz (heap_alloc w _) (Nat.le_refl _) (by rw [hcsz]; exact Nat.le_refl _) hcnt⟩
  · cases hc

theorem new_sound (H : HRel F μ g w) (hf : FrRel (fbOf F μ g) μ g w fr a.tmps) {op : NOp} {o : Oper} {xs : List AOprd} {blk : Blk} {mkv : Nat → V} (hc : chkN P o.op op xs = true)
    (hr : runN op (xs.map (ev fr)) = some (blk, mkv)) {b0 : Nat} (hold : g b0 = none ∨ g b0 = some blk) (hμ : μ b0 = none) : NGives P F μ g w a o b0 blk (mkv b0) := by
  cases op with
  | box sz => exact new_box H hf hc hr hold hμ
  | alloc z => exact new_alloc H hf hc hr hold hμ
  | bsl sz z len at_ => exact new_bsl H hf hc hr hold hμ
  | mk sz eb z => exact new_mk H hf hc hr hold hμ
  | s2b => exact new_s2b H hf hc hr hold hμ
end
end Go.PV
