/- The relation between the evaluator's values and heap and the program's memory, and how it stands while memory grows. -/
import Derived.Test.YtdaalannljjkjaaGreatEv
import Derived.Orders
import Derived.LoopN
import Derived.Deep.AppendSrc
import Derived.Deep.MidRow
import Derived.Below
set_option linter.unusedVariables false
namespace Go.PV

/-- A lookup of blocks. -/
abbrev Lk := Nat → Option Blk
abbrev Mu := Nat → Option (Nat × Nat)

def Blk.live : Blk → Bool | .dead => false | _ => true
def Blk.sz : Blk → Nat | .rows sz _ => sz | .mix sz _ => sz | .dead => 0

/-- The concrete blocks that the live abstract ones lie in. -/
def own (μ : Mu) (g : Lk) (B : Nat) : Prop := ∃ b blk lo, g b = some blk ∧ blk.live = true ∧ μ b = some (B, lo)

/-- A cell of memory holds this, and it is one cell's content. -/
def cellIs (w : World) (a : Addr) (v : Value) : Prop := w.cell? a = some v ∧ v.oneCell' = true
def Ones (n : Nat) (vs : List Value) : Prop := n = vs.length ∧ ∀ v ∈ vs, v.oneCell' = true

inductive RRel (fb : Nat → Prop) (w : World) : R → Value → Prop
  | int (k : IntKind) (n : Int) : RRel fb w (.int k n) (.int k n)
  | bool (b : Bool) : RRel fb w (.bool b) (.bool b)
  | str (s : List UInt8) : RRel fb w (.str s) (.string ⟨s.toArray⟩)
  | nilp : RRel fb w .nilp (.pointer none)
  | nilf : RRel fb w .nilf .nilFunc
  | nili : RRel fb w .nili .nilIface
  | fn (f : Nat) : RRel fb w (.fn f) (.func (.func f) #[] #[])
  | rptr (cs : List R) (B o : Nat) (cv : Nat → Value)
      (hf : ∀ i : Nat, i < cs.length → ¬ fb B)
      (hc : ∀ (i : Nat) (c : R), cs[i]? = some c → cellIs w ⟨B, o + i, none⟩ (cv i))
      (hr : ∀ (i : Nat) (c : R), cs[i]? = some c → RRel fb w c (cv i)) : RRel fb w (.rptr cs) (.pointer (some ⟨B, o, none⟩))
  | sl (sz : Nat) (k : SK) (xs : List R) (a : Option Addr) (cap B o : Nat) (cv : Nat → Nat → Value)
      (ha : 0 < xs.length → a = some ⟨B, o, none⟩)
      (hcap : xs.length ≤ cap) (hnone : a = none → cap = 0)
      (hnil : k = .nil → a = none ∧ xs = []) (hfull : k = .full → cap = xs.length) (hnn : k = .nn → a ≠ none)
      (hf : ∀ (i : Nat) (x : R) (f : Nat) (c : R), xs[i]? = some x → x.cells[f]? = some c → ¬ fb B)
      (hsz : ∀ (i : Nat) (x : R), xs[i]? = some x → x.cells.length = sz)
      (hc : ∀ (i : Nat) (x : R) (f : Nat) (c : R), xs[i]? = some x → x.cells[f]? = some c → cellIs w ⟨B, o + i * sz + f, none⟩ (cv i f))
      (hr : ∀ (i : Nat) (x : R) (f : Nat) (c : R), xs[i]? = some x → x.cells[f]? = some c → RRel fb w c (cv i f)) :
      RRel fb w (.sl sz k xs) (.slice a xs.length cap)
  | agg (cs : List R) (vs : List Value) (hl : Ones cs.length vs)
      (hr : ∀ (i : Nat) (c : R) (v : Value), cs[i]? = some c → vs[i]? = some v → RRel fb w c v) : RRel fb w (.agg cs) (.agg vs.toArray)
  | iface (t : Nat) (x : R) (v : Value) (h : RRel fb w x v) : RRel fb w (.iface t x) (.iface t v)

theorem cell_lt {w : World} {B o : Nat} {v : Value} (h : w.cell? ⟨B, o, none⟩ = some v) : B < w.heap.size := World.block_lt_of_cell? (a := ⟨B, o, none⟩) w h
theorem cell_same {w w' : World} {B o : Nat} (h : w'.heap[B]? = w.heap[B]?) : w'.cell? ⟨B, o, none⟩ = w.cell? ⟨B, o, none⟩ :=
  World.cell?_of_block (a := ⟨B, o, none⟩) h
theorem cellIs_same {w w' : World} {B o : Nat} {v : Value} (h : w'.heap[B]? = w.heap[B]?) : cellIs w' ⟨B, o, none⟩ v = cellIs w ⟨B, o, none⟩ v := by
  unfold cellIs; rw [cell_same h]

/-- What stays: a smaller forbidden set, and what was not forbidden reads as before. -/
structure Stay (fb fb' : Nat → Prop) (w w' : World) : Prop where
  sub : ∀ B, B < w.heap.size → fb' B → fb B
  same : ∀ B, B < w.heap.size → ¬ fb B → w'.heap[B]? = w.heap[B]?

theorem RRel.mono {fb fb' : Nat → Prop} {w w' : World} {x : R} {v : Value} (h : RRel fb w x v) (hs : Stay fb fb' w w') : RRel fb' w' x v := by
  induction h with
  | int k n => exact .int k n
  | bool b => exact .bool b
  | str s => exact .str s
  | nilp => exact .nilp
  | nilf => exact .nilf
  | nili => exact .nili
  | fn f => exact .fn f
  | rptr cs B o cv hf hc hr ih =>
    have hB : ∀ i, i < cs.length → B < w.heap.size := fun i hi => cell_lt (hc i _ (List.getElem?_eq_getElem hi)).1
    refine .rptr cs B o cv (fun i hi h' => hf i hi (hs.sub B (hB i hi) h')) (fun i c hic => ?_) ih
    have hi : i < cs.length := (List.getElem?_eq_some_iff.1 hic).1
    rw [cellIs_same (hs.same B (hB i hi) (hf i hi))]
    exact hc i c hic
  | sl sz k xs a cap B o cv ha hcap hnone hnil hfull hnn hf hsz hc hr ih =>
    refine .sl sz k xs a cap B o cv ha hcap hnone hnil hfull hnn (fun i x f c h1 h2 h' => hf i x f c h1 h2 (hs.sub B (cell_lt (hc i x f c h1 h2).1) h')) hsz (fun i x f c h1 h2 => ?_) ih
    rw [cellIs_same (hs.same B (cell_lt (hc i x f c h1 h2).1) (hf i x f c h1 h2))]
    exact hc i x f c h1 h2
  | agg cs vs hl hr ih => exact .agg cs vs hl ih
  | iface t x v h ih => exact .iface t x v ih

/-- The block is there, and lives, with elements of sz cells. -/
def liveAt (g : Lk) (b sz : Nat) : Prop := ∃ blk, g b = some blk ∧ blk.live = true ∧ blk.sz = sz
def cntAt (g : Lk) (b : Nat) : Nat := match g b with | some blk => cntB blk | none => 0
def deadAt (g : Lk) (b : Nat) : Prop := g b = some .dead

/-- Room: the concrete block reaches so far. -/
def room (w : World) (B n : Nat) : Prop := ∃ (arr : Array Value) (e : TypeId) (fr : Nat × Nat), w.heap[B]? = some (Obj.cells arr e fr) ∧ n ≤ arr.size

inductive VRel (fb : Nat → Prop) (μ : Mu) (g : Lk) (w : World) : V → Value → Prop
  | r (x : R) (v : Value) (h : RRel fb w x v) : VRel fb μ g w (.r x) v
  | ptr (b k f sz B lo : Nat) (hl : liveAt g b sz) (hm : μ b = some (B, lo)) :
      VRel fb μ g w (.ptr b k f) (.pointer (some ⟨B, lo + k * sz + f, none⟩))
  | ptrD (b k f : Nat) (a : Addr) (hd : deadAt g b) : VRel fb μ g w (.ptr b k f) (.pointer (some a))
  | sl (sz b k n B lo cap : Nat) (hl : liveAt g b sz) (hm : μ b = some (B, lo)) (hn : n ≤ cap)
      (hroom : room w B (lo + (k + cap) * sz)) (hcnt : cntAt g b ≤ k + cap) :
      VRel fb μ g w (.sl sz b k n) (.slice (some ⟨B, lo + k * sz, none⟩) n cap)
  | sl0 (sz b k : Nat) (a : Option Addr) (hl : liveAt g b sz) (hcnt : cntAt g b ≤ k) : VRel fb μ g w (.sl sz b k 0) (.slice a 0 0)
  | slD (sz b k n : Nat) (a : Option Addr) (cap : Nat) (hd : deadAt g b) (hna : a = none → cap = 0) (hn : n ≤ cap) : VRel fb μ g w (.sl sz b k n) (.slice a n cap)
  | isl (b k f sz : Nat) (ag : Bool) (n s B lo cap : Nat) (hl : liveAt g b s) (hm : μ b = some (B, lo)) (hn : n ≤ cap) :
      VRel fb μ g w (.isl b k f sz ag n) (.slice (some ⟨B, lo + k * s + f, none⟩) n cap)
  | islD (b k f sz : Nat) (ag : Bool) (n : Nat) (a : Addr) (cap : Nat) (hd : deadAt g b) (hn : n ≤ cap) : VRel fb μ g w (.isl b k f sz ag n) (.slice (some a) n cap)
  | isl0 (b k f sz : Nat) (ag : Bool) (a : Option Addr) (cap : Nat) : VRel fb μ g w (.isl b k f sz ag 0) (.slice a 0 cap)
  | agg (cs : List V) (vs : List Value) (hl : Ones cs.length vs)
      (hr : ∀ (i : Nat) (c : V) (v : Value), cs[i]? = some c → vs[i]? = some v → VRel fb μ g w c v) : VRel fb μ g w (.agg cs) (.agg vs.toArray)
  | tup (cs : List V) (vs : List Value) (hl : cs.length = vs.length)
      (hr : ∀ (i : Nat) (c : V) (v : Value), cs[i]? = some c → vs[i]? = some v → VRel fb μ g w c v) : VRel fb μ g w (.tup cs) (.tuple vs.toArray)
  | fn (f : Nat) (a c : List V) (va vc : List Value) (ha : a.length = va.length) (hc : c.length = vc.length)
      (hra : ∀ (i : Nat) (c : V) (v : Value), a[i]? = some c → va[i]? = some v → VRel fb μ g w c v)
      (hrc : ∀ (i : Nat) (x : V) (v : Value), c[i]? = some x → vc[i]? = some v → VRel fb μ g w x v) :
      VRel fb μ g w (.fn f a c) (.func (.func f) va.toArray vc.toArray)
  | iface (t : Nat) (x : V) (v : Value) (h : VRel fb μ g w x v) : VRel fb μ g w (.iface t x) (.iface t v)
  | junk (v : Value) : VRel fb μ g w .junk v

/-- How blocks may turn: they die, or live on with elements of the same size and no more of them. -/
def turns (o : Option Blk) (o' : Option Blk) : Prop :=
  ∀ blk, o = some blk → ∃ blk', o' = some blk' ∧ (blk' = .dead ∨ (blk.live = true ∧ blk'.live = true ∧ blk'.sz = blk.sz ∧ cntB blk' ≤ cntB blk))

/-- A step of the run: D: the numbers that keep their meaning. -/
structure Evo (D : Nat → Prop) (F : Nat → Prop) (μ : Mu) (g : Lk) (w : World) (μ' : Mu) (g' : Lk) (w' : World) : Prop where
  os : w'.os = w.os
  tape : w'.tape = w.tape
  output : w'.output = w.output
  size : w.heap.size ≤ w'.heap.size
  same : ∀ B, B < w.heap.size → ¬ own μ g B → w'.heap[B]? = w.heap[B]?
  arr : ∀ (B : Nat) (arr : Array Value) (e : TypeId) (fr : Nat × Nat), w.heap[B]? = some (Obj.cells arr e fr) → ∃ arr' : Array Value, w'.heap[B]? = some (Obj.cells arr' e fr) ∧ arr'.size = arr.size
  turn : ∀ b, D b → turns (g b) (g' b)
  mu : ∀ b, D b → ∀ p, μ b = some p → μ' b = some p
  own : ∀ B, B < w.heap.size → own μ' g' B → own μ g B

def fbOf (F : Nat → Prop) (μ : Mu) (g : Lk) (B : Nat) : Prop := F B ∨ own μ g B

theorem Evo.stay {D F : Nat → Prop} {μ μ' : Mu} {g g' : Lk} {w w' : World} (h : Evo D F μ g w μ' g' w') : Stay (fbOf F μ g) (fbOf F μ' g') w w' :=
  ⟨fun B hB hf => hf.imp id (h.own B hB), fun B hB hf => h.same B hB fun ho => hf (.inr ho)⟩

theorem liveAt.turn {g g' : Lk} {b sz : Nat} (h : liveAt g b sz) (ht : turns (g b) (g' b)) : deadAt g' b ∨ liveAt g' b sz := by
  obtain ⟨blk, hb, hl, hs⟩ := h
  obtain ⟨blk', hb', h' | ⟨_, hl', hs', _⟩⟩ := ht blk hb
  · exact .inl (by rw [deadAt, hb', h'])
  · exact .inr ⟨blk', hb', hl', by rw [hs', hs]⟩

theorem deadAt.turn {g g' : Lk} {b : Nat} (h : deadAt g b) (ht : turns (g b) (g' b)) : deadAt g' b := by
  obtain ⟨blk', hb', h' | ⟨hl, _⟩⟩ := ht _ h
  · rw [deadAt, hb', h']
  · cases hl

theorem cntAt.turn {g g' : Lk} {b sz : Nat} (h : liveAt g b sz) (ht : turns (g b) (g' b)) : cntAt g' b ≤ cntAt g b := by
  obtain ⟨blk, hb, hl, hs⟩ := h
  obtain ⟨blk', hb', h' | ⟨_, hl', hs', hc⟩⟩ := ht blk hb
  · subst h'; simp [cntAt, hb', cntB]
  · simpa [cntAt, hb, hb'] using hc

theorem room.evo {D F : Nat → Prop} {μ μ' : Mu} {g g' : Lk} {w w' : World} (h : Evo D F μ g w μ' g' w') {B n : Nat} (hr : room w B n) : room w' B n := by
  obtain ⟨arr, e, fr, hB, hn⟩ := hr
  obtain ⟨arr', hB', hs⟩ := h.arr B arr e fr hB
  exact ⟨arr', e, fr, hB', by omega⟩

/-- The numbers that a value names are those of D. -/
theorem VRel.evo {D F : Nat → Prop} {μ μ' : Mu} {g g' : Lk} {w w' : World} (h : Evo D F μ g w μ' g' w') (hD : ∀ b, (g b).isSome → D b)
    {x : V} {v : Value} (hv : VRel (fbOf F μ g) μ g w x v) : VRel (fbOf F μ' g') μ' g' w' x v := by
  have dl : ∀ {b sz}, liveAt g b sz → D b := fun {b sz} hl => hD b (by obtain ⟨blk, hb, _⟩ := hl; simp [hb])
  have dd : ∀ {b}, deadAt g b → D b := fun {b} hl => hD b (by rw [deadAt] at hl; simp [hl])
  induction hv with
  | r x v hx => exact .r x v (hx.mono h.stay)
  | ptr b k f sz B lo hl hm =>
    rcases hl.turn (h.turn b (dl hl)) with hd | hl'
    · exact .ptrD b k f _ hd
    · exact .ptr b k f sz B lo hl' (h.mu b (dl hl) _ hm)
  | ptrD b k f a hd => exact .ptrD b k f a (hd.turn (h.turn b (dd hd)))
  | sl sz b k n B lo cap hl hm hn hroom hcnt =>
    rcases hl.turn (h.turn b (dl hl)) with hd | hl'
    · exact .slD sz b k n _ cap hd (by simp) hn
    · exact .sl sz b k n B lo cap hl' (h.mu b (dl hl) _ hm) hn (hroom.evo h) (Nat.le_trans (cntAt.turn hl (h.turn b (dl hl))) hcnt)
  | sl0 sz b k a hl hcnt =>
    rcases hl.turn (h.turn b (dl hl)) with hd | hl'
    · exact .slD sz b k 0 a 0 hd (by simp) (by simp)
    · exact .sl0 sz b k a hl' (Nat.le_trans (cntAt.turn hl (h.turn b (dl hl))) hcnt)
  | slD sz b k n a cap hd hna hn => exact .slD sz b k n a cap (hd.turn (h.turn b (dd hd))) hna hn
  | isl b k f sz ag n s B lo cap hl hm hn =>
    rcases hl.turn (h.turn b (dl hl)) with hd | hl'
    · exact .islD b k f sz ag n _ cap hd hn
    · exact .isl b k f sz ag n s B lo cap hl' (h.mu b (dl hl) _ hm) hn
  | islD b k f sz ag n a cap hd hn => exact .islD b k f sz ag n a cap (hd.turn (h.turn b (dd hd))) hn
  | isl0 b k f sz ag a cap => exact .isl0 b k f sz ag a cap
  | agg cs vs hl hr ih => exact .agg cs vs hl ih
  | tup cs vs hl hr ih => exact .tup cs vs hl ih
  | fn f a c va vc ha hc hra hrc iha ihc => exact .fn f a c va vc ha hc iha ihc
  | iface t x v hx ih => exact .iface t x v ih
  | junk v => exact .junk v

theorem Evo.refl (D F : Nat → Prop) (μ : Mu) (g : Lk) (w : World) (hD : ∀ b blk, D b → g b = some blk → blk = .dead ∨ blk.live = true) : Evo D F μ g w μ g w :=
  ⟨rfl, rfl, rfl, Nat.le_refl _, fun _ _ _ => rfl, fun B arr e fr h => ⟨arr, h, rfl⟩,
    fun b hb blk hg => ⟨blk, hg, (hD b blk hb hg).imp id fun hl => ⟨hl, hl, rfl, Nat.le_refl _⟩⟩, fun _ _ _ h => h, fun _ _ h => h⟩

theorem turns.refl (o : Option Blk) : turns o o := fun blk h => ⟨blk, h, by cases blk <;> simp [Blk.live]⟩
theorem turns.trans {a b c : Option Blk} (h : turns a b) (k : turns b c) : turns a c := by
  intro blk hb
  obtain ⟨blk', hb', h1⟩ := h blk hb
  obtain ⟨blk'', hb'', h2⟩ := k blk' hb'
  refine ⟨blk'', hb'', ?_⟩
  rcases h2 with h2 | ⟨l1, l2, s2, c2⟩
  · exact .inl h2
  · rcases h1 with h1 | ⟨m1, m2, s1, c1⟩
    · subst h1; cases l1
    · exact .inr ⟨m1, l2, s2.trans s1, Nat.le_trans c2 c1⟩

theorem Evo.trans {D F : Nat → Prop} {μ μ' μ'' : Mu} {g g' g'' : Lk} {w w' w'' : World} (h : Evo D F μ g w μ' g' w') (k : Evo D F μ' g' w' μ'' g'' w'') :
    Evo D F μ g w μ'' g'' w'' where
  os := k.os.trans h.os
  tape := k.tape.trans h.tape
  output := k.output.trans h.output
  size := Nat.le_trans h.size k.size
  same B hB hn := by rw [k.same B (Nat.lt_of_lt_of_le hB h.size) (fun ho => hn (h.own B hB ho)), h.same B hB hn]
  arr B arr e fr hB := by
    obtain ⟨arr', h1, s1⟩ := h.arr B arr e fr hB
    obtain ⟨arr'', h2, s2⟩ := k.arr B arr' e fr h1
    exact ⟨arr'', h2, s2.trans s1⟩
  turn b hb := (h.turn b hb).trans (k.turn b hb)
  mu b hb p hp := k.mu b hb p (h.mu b hb p hp)
  own B hB ho := h.own B hB (k.own B (Nat.lt_of_lt_of_le hB h.size) ho)

theorem Evo.weaken {D D' F : Nat → Prop} {μ μ' : Mu} {g g' : Lk} {w w' : World} (h : Evo D F μ g w μ' g' w') (hD : ∀ b, D' b → D b) : Evo D' F μ g w μ' g' w' :=
  ⟨h.os, h.tape, h.output, h.size, h.same, h.arr, fun b hb => h.turn b (hD b hb), fun b hb => h.mu b (hD b hb), h.own⟩

/-- A block's cells, as they lie in the concrete block. -/
inductive BRel (fb : Nat → Prop) (μ : Mu) (g : Lk) (w : World) (B lo : Nat) : Blk → Prop
  | rows (sz : Nat) (els : List R) (hsz : ∀ (k : Nat) (x : R), els[k]? = some x → x.cells.length = sz)
      (hc : ∀ (k : Nat) (x : R) (f : Nat) (c : R), els[k]? = some x → x.cells[f]? = some c → ∃ v, cellIs w ⟨B, lo + k * sz + f, none⟩ v ∧ RRel fb w c v) :
      BRel fb μ g w B lo (.rows sz els)
  | mix (sz : Nat) (cs : List V) (hc : ∀ (i : Nat) (c : V), cs[i]? = some c → ∃ v, cellIs w ⟨B, lo + i, none⟩ v ∧ VRel fb μ g w c v) :
      BRel fb μ g w B lo (.mix sz cs)

structure HRel (F : Nat → Prop) (μ : Mu) (g : Lk) (w : World) : Prop where
  wf : ∀ B, F B → B < w.heap.size
  apart : ∀ (b : Nat) (blk : Blk) (B lo : Nat), g b = some blk → blk.live = true → μ b = some (B, lo) → ¬ F B
  cells : ∀ (b : Nat) (blk : Blk) (B lo : Nat), g b = some blk → blk.live = true → μ b = some (B, lo) → ∃ (arr : Array Value) (e : TypeId) (fr : Nat × Nat), w.heap[B]? = some (Obj.cells arr e fr) ∧ ∀ i : Nat, i < arr.size → ¬ (fr.1 ≤ i ∧ i < fr.2)
  rel : ∀ (b : Nat) (blk : Blk) (B lo : Nat), g b = some blk → blk.live = true → μ b = some (B, lo) → BRel (fbOf F μ g) μ g w B lo blk
  inj : ∀ (b b' : Nat) (blk blk' : Blk) (B lo lo' : Nat), g b = some blk → blk.live = true → g b' = some blk' → blk'.live = true → μ b = some (B, lo) → μ b' = some (B, lo') → b = b'

theorem HRel.lt {F : Nat → Prop} {μ : Mu} {g : Lk} {w : World} (h : HRel F μ g w) {B : Nat} (ho : own μ g B) : B < w.heap.size := by
  obtain ⟨b, blk, lo, hb, hl, hm⟩ := ho
  obtain ⟨arr, e, fr, hB, _⟩ := h.cells b blk B lo hb hl hm
  exact (Array.getElem?_eq_some_iff.1 hB).1

end Go.PV
