/- Regions that draw: what holds when some of the operations have run. -/
import Derived.Test.YtdaalannljjkjaaGreatDraw1
set_option linter.unusedVariables false
set_option linter.unusedSimpArgs false
namespace Go.PV
variable {P : Program} {Γ : CallF}

/-! ### frames -/
def fs (inS : Nat → Bool) (fr : List V) : List TI → List V
  | [] => fr
  | t :: T => fs inS (match inS t.o.ix with | true => putF fr t.o.dst t.v | false => fr) T

theorem putF_len (fr : List V) (d : Option Nat) (v : V) : (putF fr d v).length = fr.length := by cases d <;> simp [putF]
theorem putF_ne {fr : List V} {d : Option Nat} {v : V} {x : Nat} (h : d ≠ some x) : nthV (putF fr d v) x = nthV fr x := by
  cases d with
  | none => rfl
  | some d =>
    rw [nthV_eq, nthV_eq, putF, List.getD, List.getD, List.getElem?_set_ne]
    intro h'; exact h (by rw [h'])
theorem putF_eq {fr fr' : List V} {v : V} {x : Nat} (h : fr.length = fr'.length) : nthV (putF fr (some x) v) x = nthV (putF fr' (some x) v) x := by
  rw [nthV_eq, nthV_eq, putF, putF, List.getD, List.getD, List.getElem?_set, List.getElem?_set]
  simp [h]

theorem fs_append (inS : Nat → Bool) : ∀ (A B : List TI) (fr : List V), fs inS fr (A ++ B) = fs inS (fs inS fr A) B
  | [], B, fr => rfl
  | t :: A, B, fr => by simp only [List.cons_append, fs]; exact fs_append inS A B _

theorem fs_agree {inS : Nat → Bool} {x : Nat} : ∀ (A : List TI) (fr fr' : List V), (∀ u ∈ A, u.o.dst = some x → inS u.o.ix = true) → fr.length = fr'.length → nthV fr x = nthV fr' x → nthV (fs inS fr A) x = nthV (frAll fr' A) x
  | [], fr, fr', _, _, h => h
  | t :: A, fr, fr', hA, hl, h => by
    simp only [fs, frAll]
    have hA' : ∀ u ∈ A, u.o.dst = some x → inS u.o.ix = true := fun u hu => hA u (List.mem_cons_of_mem _ hu)
    by_cases hd : t.o.dst = some x
    · rw [hA t (List.mem_cons_self ..) hd]
      simp only
      refine fs_agree A _ _ hA' (by rw [putF_len, putF_len, hl]) ?_
      rw [hd]; exact putF_eq hl
    · cases inS t.o.ix with
      | true => exact fs_agree A _ _ hA' (by rw [putF_len, putF_len, hl]) (by rw [putF_ne hd, putF_ne hd, h])
      | false => exact fs_agree A _ _ hA' (by rw [putF_len, hl]) (by rw [putF_ne hd, h])

theorem fs_skip {inS : Nat → Bool} {x : Nat} : ∀ (B : List TI) (fr : List V), (∀ u ∈ B, u.o.dst = some x → inS u.o.ix = false) → nthV (fs inS fr B) x = nthV fr x
  | [], fr, _ => rfl
  | t :: B, fr, hB => by
    have hB' : ∀ u ∈ B, u.o.dst = some x → inS u.o.ix = false := fun u hu => hB u (List.mem_cons_of_mem _ hu)
    simp only [fs]
    by_cases hd : t.o.dst = some x
    · rw [hB t (List.mem_cons_self ..) hd]
      exact fs_skip B fr hB'
    · cases inS t.o.ix with
      | true => simp only; rw [fs_skip B _ hB', putF_ne hd]
      | false => exact fs_skip B fr hB'

theorem fs_len (inS : Nat → Bool) : ∀ (A : List TI) (fr : List V), (fs inS fr A).length = fr.length
  | [], fr => rfl
  | t :: A, fr => by
    simp only [fs]
    rw [fs_len inS A]
    split
    · exact putF_len ..
    · rfl

theorem fs_congr {inS inS' : Nat → Bool} : ∀ (A : List TI) (fr : List V), (∀ u ∈ A, inS u.o.ix = inS' u.o.ix) → fs inS fr A = fs inS' fr A
  | [], fr, _ => rfl
  | t :: A, fr, hA => by
    simp only [fs]
    rw [hA t (List.mem_cons_self ..)]
    exact fs_congr A _ fun u hu => hA u (List.mem_cons_of_mem _ hu)

theorem putF_comm {fr : List V} {d d' : Option Nat} {v v' : V} (h : ∀ x, d = some x → d' ≠ some x) : putF (putF fr d v) d' v' = putF (putF fr d' v') d v := by
  cases d with
  | none => rfl
  | some d =>
    cases d' with
    | none => rfl
    | some d' => exact List.set_comm _ _ fun e => h d rfl (by rw [e])

theorem fs_comm {inS : Nat → Bool} {d : Option Nat} {v : V} : ∀ (B : List TI) (fr : List V), (∀ u ∈ B, ∀ x, u.o.dst = some x → d = some x → inS u.o.ix = false) → fs inS (putF fr d v) B = putF (fs inS fr B) d v
  | [], fr, _ => rfl
  | t :: B, fr, hB => by
    have hB' := fun u hu => hB u (List.mem_cons_of_mem _ hu)
    simp only [fs]
    cases hs : inS t.o.ix with
    | true =>
      simp only
      rw [putF_comm (d := d) (d' := t.o.dst), fs_comm B _ hB']
      intro x hx hx'
      rw [hB t (List.mem_cons_self ..) x hx' hx] at hs
      cases hs
    | false => exact fs_comm B fr hB'

/-! ### more blocks; another count of draws -/
section
variable {F : Nat → Prop} {μ : Mu} {w w' : World} {a : Act} {k : Nat}

theorem lk_app {h e : Heap} {b : Nat} {x : Blk} (hb : lk h b = some x) : lk (h ++ e) b = some x := by
  have := lk_lt hb
  rw [lk, List.getElem?_append_left this]; exact hb

theorem evo_app {h e : Heap} (hn : ∀ b, h.length ≤ b → μ b = none) : Evo All F μ (lk h) w μ (lk (h ++ e)) w := by
  refine ⟨rfl, rfl, rfl, Nat.le_refl _, fun _ _ _ => rfl, fun B arr e fr h => ⟨arr, h, rfl⟩, fun b _ blk hb => ?_, fun _ _ _ h => h, fun B hB ho => ?_⟩
  · exact ⟨blk, lk_app hb, by cases blk <;> simp [Blk.live]⟩
  · obtain ⟨b, blk, lo, h1, h2, h3⟩ := ho
    have hb : b < h.length := Nat.lt_of_not_le fun hle => by rw [hn b hle] at h3; cases h3
    rw [lk, List.getElem?_append_left hb] at h1
    exact ⟨b, blk, lo, h1, h2, h3⟩

theorem hrel_app {h e : Heap} (H : HRel F μ (lk h) w) (hn : ∀ b, h.length ≤ b → μ b = none) : HRel F μ (lk (h ++ e)) w := by
  have back : ∀ {b : Nat} {blk : Blk} {p : Nat × Nat}, lk (h ++ e) b = some blk → μ b = some p → lk h b = some blk := fun {b blk p} h1 h3 => by
    have hb : b < h.length := Nat.lt_of_not_le fun hle => by rw [hn b hle] at h3; cases h3
    rw [lk, List.getElem?_append_left hb] at h1
    exact h1
  exact H.of_evo (evo_app hn) (fun b blk B lo h1 h2 h3 => .inl ⟨back h1 h3, h3, rfl⟩) fun b b' blk blk' B lo lo' h1 h2 h3 h4 h5 h6 => H.inj b b' blk blk' B lo lo' (back h1 h5) h2 (back h3 h6) h4 h5 h6

theorem SR.app {fr : List V} {h e : Heap} (S : SR F μ fr h a w) : SR F μ fr (h ++ e) a w :=
  ⟨hrel_app S.hrel S.none, S.frel.evo (evo_app S.none), fun b hb => S.none b (by simp at hb; omega)⟩

theorem Goes.app {h e : Heap} (hk : k ≤ h.length) (hn : ∀ b, h.length ≤ b → μ b = none) : Goes k F μ h a w μ (h ++ e) a w :=
  ⟨(evo_app hn).weaken fun _ _ => trivial, fun _ _ => rfl, by simp; omega, rfl⟩

theorem evo_drawn {g : Lk} (hh : w'.heap = w.heap) (hos : w'.os = w.os) (ht : w'.tape = w.tape) (ho : w'.output = w.output) : Evo All F μ g w μ g w' :=
  ⟨hos, ht, ho, by rw [hh]; exact Nat.le_refl _, fun B _ _ => by rw [hh], fun B arr e fr h => ⟨arr, by rw [hh]; exact h, rfl⟩, fun b _ => turns.refl _, fun _ _ _ h => h, fun _ _ h => h⟩

theorem SR.drawn {fr : List V} {h : Heap} (hh : w'.heap = w.heap) (hos : w'.os = w.os) (ht : w'.tape = w.tape) (ho : w'.output = w.output) (S : SR F μ fr h a w) : SR F μ fr h a w' :=
  ⟨S.hrel.of_evo (evo_drawn hh hos ht ho) (fun b blk B lo h1 h2 h3 => .inl ⟨h1, h3, by rw [hh]⟩) S.hrel.inj, S.frel.evo (evo_drawn hh hos ht ho), S.none⟩
theorem Goes.drawn {h : Heap} (hh : w'.heap = w.heap) (hos : w'.os = w.os) (ht : w'.tape = w.tape) (ho : w'.output = w.output) (hk : k ≤ h.length) : Goes k F μ h a w μ h a w' :=
  ⟨(evo_drawn hh hos ht ho).weaken fun _ _ => trivial, fun _ _ => rfl, hk, rfl⟩
end

/-! ### reading a longer heap -/
theorem get_app {h e : Heap} {b : Nat} {x : Blk} (hb : h[b]? = some x) : (h ++ e)[b]? = some x := lk_app hb

theorem loadH_app {h e : Heap} {ag : Bool} {n : Nat} {a v : V} (hr : loadH h ag n a = some v) : loadH (h ++ e) ag n a = some v := by
  unfold loadH at hr ⊢
  cases a with
  | ptr b k f =>
    simp only at hr ⊢
    cases hb : h[b]? with
    | none => rw [hb] at hr; cases hr
    | some x => rw [hb] at hr; rw [get_app hb]; exact hr
  | r x => cases x <;> exact hr
  | _ => exact hr

theorem elemsR_app {h e : Heap} {x : V} {l : List R} (hr : elemsR h x = some l) : elemsR (h ++ e) x = some l := by
  unfold elemsR at hr ⊢
  cases x with
  | sl sz b k len =>
    simp only at hr ⊢
    cases hb : h[b]? with
    | none => rw [hb] at hr; cases hr
    | some x => rw [hb] at hr; rw [get_app hb]; exact hr
  | isl b k f sz ag len =>
    simp only at hr ⊢
    cases hb : h[b]? with
    | none => rw [hb] at hr; cases hr
    | some x => rw [hb] at hr; rw [get_app hb]; exact hr
  | r x => cases x <;> exact hr
  | _ => exact hr

theorem elemsS_app {h e : Heap} {x : V} {l : List R} (hr : elemsS h x = some l) : elemsS (h ++ e) x = some l := by
  cases x with
  | r x => cases x <;> exact hr
  | sl sz b k n => exact elemsR_app (x := .sl sz b k n) hr
  | isl b k f sz ag n => exact elemsR_app (x := .isl b k f sz ag n) hr
  | _ => exact hr

/-! ### where an item lies -/
theorem split_cases {t u : TI} {B B2 : List TI} : ∀ {A A2 : List TI}, A ++ t :: B = A2 ++ u :: B2 →
    (∃ C, A = A2 ++ u :: C) ∨ (A = A2 ∧ t = u ∧ B = B2) ∨ (∃ C, B = C ++ u :: B2 ∧ A2 = A ++ t :: C)
  | [], [], h => by cases h; exact .inr (.inl ⟨rfl, rfl, rfl⟩)
  | [], x :: A2, h => by cases h; exact .inr (.inr ⟨A2, rfl, rfl⟩)
  | y :: A, [], h => by cases h; exact .inl ⟨A, rfl⟩
  | y :: A, x :: A2, h => by
    have hx : y = x := by simpa using congrArg List.head? h
    subst hx
    rcases split_cases (A := A) (A2 := A2) (by simpa using h) with ⟨C, h1⟩ | ⟨h1, h2, h3⟩ | ⟨C, h1, h2⟩
    · exact .inl ⟨C, by rw [h1]; rfl⟩
    · exact .inr (.inl ⟨by rw [h1], h2, h3⟩)
    · exact .inr (.inr ⟨C, h1, by rw [h2]; rfl⟩)

theorem exists_chain : ∀ {T : List TI} {j : Nat}, j < cc T → ∃ A u B, T = A ++ u :: B ∧ u.o.op.isC = true ∧ cc A = j
  | [], j, h => by simp [cc] at h
  | t :: T, j, h => by
    cases hC : t.o.op.isC with
    | false =>
      simp only [cc, hC] at h
      obtain ⟨A, u, B, h1, h2, h3⟩ := exists_chain (T := T) (j := j) (by omega)
      exact ⟨t :: A, u, B, by rw [h1]; rfl, h2, by simp only [cc, hC]; omega⟩
    | true =>
      simp only [cc, hC] at h
      cases j with
      | zero => exact ⟨[], t, T, rfl, hC, rfl⟩
      | succ j =>
        obtain ⟨A, u, B, h1, h2, h3⟩ := exists_chain (T := T) (j := j) (by omega)
        exact ⟨t :: A, u, B, by rw [h1]; rfl, h2, by simp only [cc, hC]; omega⟩

/-! ### what an operation reads -/
def tOf : List AOprd → List Nat
  | [] => []
  | .t n :: xs => n :: tOf xs
  | .c _ :: xs => tOf xs
def AOp.oprds : AOp → List AOprd
  | .p _ xs => xs
  | .ld _ _ x _ _ => [x]
  | .b2s x => [x]
  | .n _ xs _ _ => xs
  | .c _ xs => xs
  | .bad => []
def AOper.reads (o : AOper) : List Nat :=
  match o.guard with
  | some (g, _) => g :: tOf o.op.oprds
  | none => tOf o.op.oprds

def AOp.isP : AOp → Bool | .p _ _ => true | .bad => true | _ => false
def hiOk : AOp → Nat → Bool
  | .ld _ _ _ _ hi, c => decide (hi ≤ c)
  | .n _ _ _ hi, c => decide (hi ≤ c)
  | .b2s _, _ => true
  | .c _ _, _ => true
  | _, _ => false
def loOk : AOp → Nat → Bool
  | .ld _ _ _ lo _, c => lo == c
  | .n _ _ lo _, c => lo == c
  | _, _ => true

/-- An operation that is ready: what the edges say of those before and behind it. -/
structure Rdy (T A : List TI) (t : TI) (B : List TI) (inS : Nat → Bool) : Prop where
  eq : T = A ++ t :: B
  out : inS t.o.ix = false
  ixA : ∀ u ∈ A, u.o.ix ≠ t.o.ix
  ixB : ∀ u ∈ B, u.o.ix ≠ t.o.ix
  before : ∀ u ∈ A, ∀ x, u.o.dst = some x → x ∈ t.o.reads → inS u.o.ix = true
  after : ∀ u ∈ B, ∀ x, u.o.dst = some x → x ∈ t.o.reads → inS u.o.ix = false
  wr : ∀ u ∈ B, ∀ x, u.o.dst = some x → t.o.dst = some x → inS u.o.ix = false
  chainA : t.o.op.isP = false → ∀ u ∈ A, u.o.op.isC = true → inS u.o.ix = true
  hiB : ∀ B1 u B2, B = B1 ++ u :: B2 → u.o.op.isC = true → hiOk t.o.op (cc (A ++ t :: B1)) = true → inS u.o.ix = false
  lo : loOk t.o.op (cc A) = true

theorem Rdy.reads {T A : List TI} {t : TI} {B : List TI} {inS : Nat → Bool} (R : Rdy T A t B inS) (fr : List V) (x : Nat) (hx : x ∈ t.o.reads) : nthV (fs inS fr T) x = nthV (frAll fr A) x := by
  rw [R.eq, fs_append]
  simp only [fs]
  rw [R.out]
  simp only
  rw [fs_skip B _ fun u hu hd => R.after u hu x hd hx]
  exact fs_agree A fr fr (fun u hu hd => R.before u hu x hd hx) rfl rfl

theorem ev_reads {fr fr' : List V} : ∀ {xs : List AOprd}, (∀ x ∈ tOf xs, nthV fr x = nthV fr' x) → xs.map (ev fr) = xs.map (ev fr')
  | [], _ => rfl
  | .t n :: xs, h => by
    simp only [List.map_cons, ev]
    rw [h n (by simp [tOf]), ev_reads (xs := xs) fun x hx => h x (by simp [tOf, hx])]
  | .c r :: xs, h => by
    simp only [List.map_cons, ev]
    rw [ev_reads (xs := xs) fun x hx => h x (by simpa [tOf] using hx)]

theorem guard_reads {fr fr' : List V} {o : AOper} (h : ∀ x ∈ o.reads, nthV fr x = nthV fr' x) : guardB fr o.guard = guardB fr' o.guard := by
  unfold AOper.reads at h
  cases hg : o.guard with
  | none => rfl
  | some p =>
    obtain ⟨g, w⟩ := p
    rw [hg] at h
    simp only [guardB]
    rw [h g (by simp)]

theorem oprd_reads {fr fr' : List V} {o : AOper} (h : ∀ x ∈ o.reads, nthV fr x = nthV fr' x) : o.op.oprds.map (ev fr) = o.op.oprds.map (ev fr') := by
  refine ev_reads fun x hx => h x ?_
  unfold AOper.reads
  split <;> simp [hx]

def withI (inS : Nat → Bool) (i : Nat) : Nat → Bool := fun x => inS x || x == i

theorem Rdy.put {T A : List TI} {t : TI} {B : List TI} {inS : Nat → Bool} (R : Rdy T A t B inS) (fr : List V) : fs (withI inS t.o.ix) fr T = putF (fs inS fr T) t.o.dst t.v := by
  have eA : fs (withI inS t.o.ix) fr A = fs inS fr A := fs_congr A fr fun u hu => by simp [withI, R.ixA u hu]
  have eB : ∀ fr, fs (withI inS t.o.ix) fr B = fs inS fr B := fun fr => fs_congr B fr fun u hu => by simp [withI, R.ixB u hu]
  rw [R.eq, fs_append, fs_append]
  simp only [fs]
  rw [eA, eB, R.out, show withI inS t.o.ix t.o.ix = true by simp [withI]]
  exact fs_comm B _ fun u hu x h1 h2 => R.wr u hu x h1 h2
end Go.PV
