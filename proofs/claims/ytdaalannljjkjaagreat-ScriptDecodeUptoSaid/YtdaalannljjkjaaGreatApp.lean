/- append. -/
import Derived.Test.YtdaalannljjkjaaGreatWr
import Derived.Room.Entries
set_option linter.unusedVariables false
set_option linter.unusedSimpArgs false
namespace Go.PV
variable {P : Program}

theorem slTy_inv {t : TypeId} {sz eb : Nat} (h : slTy P t sz eb = true) : ∃ e i z, P.underlying t = some (.slice e) ∧ P.info? e = some i ∧ i.size = sz ∧ i.bytes = eb ∧ i.zero = some z ∧ z.cells.size = sz := by
  unfold slTy at h
  split at h <;> try cases h
  rename_i e hu
  split at h <;> try cases h
  rename_i i hi
  simp only [Bool.and_eq_true, beq_iff_eq] at h
  obtain ⟨⟨h1, h2⟩, h3⟩ := h
  split at h3 <;> try cases h3
  rename_i z hz
  exact ⟨e, i, z, hu, hi, h1, h2, hz, by simpa using h3⟩

section
variable {F : Nat → Prop} {μ : Mu} {h h' : Heap} {w w' : World} {fr : List V} {a : Act}

/-- What an append's second argument yields: elements, or a number of zeros. -/
inductive SrcA (P : Program) (i : TypeInfo) (tx : TypeId) (x : Value) (n : Nat) (news : List Value) (w : World) : Prop
  | src (h : Src P i.size tx x n news w)
  | zero (k : IntKind) (z : Value) (hk : P.underlying tx = some (.int k)) (hx : x = .int .i64 n) (h62 : n ≤ 2 ^ 62) (hb : n * i.bytes ≤ 2 ^ 48) (hz : i.zero = some z) (hzs : z.cells.size = i.size)
      (hn : news.toArray = Builtin.zeroCells z.cells n) (one : ∀ u ∈ news, u.oneCell' = true)

theorem wrap_i64 {n : Nat} (h : n ≤ 2 ^ 62) : IntKind.i64.wrap (n : Int) = n := by
  simp [IntKind.wrap, IntKind.bits, IntKind.signed]
  omega

theorem nb48 {n b : Nat} (h : n * b ≤ 2 ^ 48) : ¬ (281474976710656 < (n : Int) * (b : Int)) := by
  rw [← Int.natCast_mul]; omega

theorem zeroCells_nil {z : Value} {n : Nat} (h : n * z.cells.size = 0) : Builtin.zeroCells z.cells n = #[] := by
  simp [Builtin.zeroCells, h]

theorem run_append_zero (t tx ty e : TypeId) (i : TypeInfo) (ht : P.underlying t = some (.slice e)) (hi : P.info? e = some i) (base : Option Addr) (sLen sCap : Nat) (hle : sLen ≤ sCap) (x : Value) (hs : SrcA P i tx x 0 [] w) :
    (Builtin.append_ #[t, tx] ty #[.slice base sLen sCap, x]).run P w = .ok (.slice base sLen sCap) w := by
  cases hs with
  | src hs => rcases hs.kind with ⟨e', hk⟩ | hk <;> cases base <;> simp [Builtin.append_, run_underlying ht, run_underlying hk, sizeOf, typeInfo, hi, hs.len, hle, hs.cells, storeCells]
  | zero k z hk hx h62 hb hz hzs hn one =>
    subst hx
    have hw : IntKind.i64.wrap 0 = 0 := by simpa using wrap_i64 h62
    cases base <;> simp [Builtin.append_, run_underlying ht, run_underlying hk, sizeOf, typeInfo, hi, hle, storeCells, asInt, asIntOf, hw]

theorem run_append_room_a (t tx ty e : TypeId) (i : TypeInfo) (ht : P.underlying t = some (.slice e)) (hi : P.info? e = some i) (b off sLen sCap : Nat) (x : Value) (n : Nat) (news : List Value) (hs : SrcA P i tx x n news w)
    (hroom : sLen + n ≤ sCap) (hc : ∀ j, j < news.length → (w.cell? ⟨b, off + sLen * i.size + j, none⟩).isSome = true) (hf : ∀ j, j < news.length → w.frozen? ⟨b, off + sLen * i.size + j, none⟩ = false) :
    (Builtin.append_ #[t, tx] ty #[.slice (some ⟨b, off, none⟩) sLen sCap, x]).run P w = .ok (.slice (some ⟨b, off, none⟩) (sLen + n) sCap) (w.setCells b (off + sLen * i.size) news) := by
  cases hs with
  | src hs => exact run_append_room_src w t tx ty e i ht hi b off sLen sCap x n news hs hroom hc hf
  | zero k z hk hx h62 hb hz hzs hn one =>
    subst hx
    have hst := run_storeCells_cells (P := P) b (off + sLen * i.size) news 0 w (by simpa using hc) (by simpa using hf) one
    simp only [Nat.add_zero] at hst
    have hw := wrap_i64 h62
    have hb' : ¬ (281474976710656 < (n : Int) * (i.bytes : Int)) := nb48 hb
    have hneg : ¬ ((n : Int) < 0) := by omega
    have hl : news = (Builtin.zeroCells z.cells n).toList := by rw [← hn]
    by_cases h0 : n * i.size = 0
    · have hz0 := zeroCells_nil (z := z) (n := n) (by rw [hzs]; exact h0)
      have hnil : news = [] := by rw [hl, hz0]
      subst hnil
      simp [Builtin.append_, run_underlying ht, run_underlying hk, sizeOf, typeInfo, hi, hroom, asInt, asIntOf, hw, hneg, hb', h0, Addr.add_lit, hst]
    · simp [Builtin.append_, run_underlying ht, run_underlying hk, sizeOf, typeInfo, zeroValue, hz, hi, hroom, asInt, asIntOf, hw, hneg, hb', h0, Addr.add_lit, ← hl, hst]

theorem run_append_grow_a (t tx ty e : TypeId) (i : TypeInfo) (z : Value) (ht : P.underlying t = some (.slice e)) (hi : P.info? e = some i) (hz : i.zero = some z) (base : Option Addr) (sLen sCap : Nat) (olds : List Value)
    (hold : (Builtin.firstCells i.size sLen (.slice base sLen sCap)).run P w.drew = .ok olds.toArray w.drew) (x : Value) (n : Nat) (news : List Value) (hs : SrcA P i tx x n news w)
    (hg : sCap < sLen + n) (h63 : ((sLen + n : Nat) : Int) ≤ 9223372036854775807) (hfit : Builtin.nextslicecap (sLen + n) sCap * i.bytes ≤ 281474976710656) :
    (Builtin.append_ #[t, tx] ty #[.slice base sLen sCap, x]).run P w =
      .ok (.slice (some ⟨w.heap.size, 0, none⟩) (sLen + n) (grownCap w (sLen + n) sCap e))
        (w.drew.alloc (.cells ((olds ++ news).toArray ++ Builtin.zeroCells z.cells (grownCap w (sLen + n) sCap e - (sLen + n))) e)) := by
  cases hs with
  | src hs => exact run_append_grow_src w t tx ty e i z ht hi hz base sLen sCap olds hold x n news hs hg h63 hfit
  | zero k z' hk hx h62 hb hz' hzs hn' one =>
    rw [hz] at hz'; cases hz'
    subst hx
    have hw := wrap_i64 h62
    have hb' : ¬ (281474976710656 < (n : Int) * (i.bytes : Int)) := nb48 hb
    have hneg : ¬ ((n : Int) < 0) := by omega
    have hn : ¬ (sLen + n ≤ sCap) := by omega
    have h63' : ¬ (9223372036854775807 < ((sLen : Int) + (n : Int))) := by omega
    have h48' : ¬ (281474976710656 < Builtin.nextslicecap (sLen + n) sCap * i.bytes) := by omega
    have hl : news = (Builtin.zeroCells z.cells n).toList := by rw [← hn']
    by_cases h0 : n * i.size = 0
    · have hz0 := zeroCells_nil (z := z) (n := n) (by rw [hzs]; exact h0)
      have hnil : news = [] := by rw [hl, hz0]
      subst hnil
      simp [Builtin.append_, run_underlying ht, run_underlying hk, sizeOf, typeInfo, zeroValue, hi, hz, asInt, asIntOf, hw, hneg, hb', h0, hn, h63', h48', Question.forced, hold, newRow, grownCap]
    · simp [Builtin.append_, run_underlying ht, run_underlying hk, sizeOf, typeInfo, zeroValue, hi, hz, asInt, asIntOf, hw, hneg, hb', h0, hn, h63', h48', Question.forced, hold, newRow, grownCap]
      congr 2
      apply Array.ext'
      simp [List.append_assoc, hl]

theorem cat_cs (sz : Nat) (a b : Els) : (catEls sz a b).cs = a.cells ++ b.cells := by
  cases a <;> cases b <;> simp [catEls, Blk.cs, Els.cells]
theorem cat_sz (sz : Nat) (a b : Els) : (catEls sz a b).sz = sz := by cases a <;> cases b <;> rfl
theorem cat_ok {sz : Nat} {a b : Els} (ha : a.ok sz) (hb : b.ok sz) : (catEls sz a b).ok := by
  cases a <;> cases b <;> try exact trivial
  rename_i x y
  intro k z hk
  rw [List.getElem?_append] at hk
  split at hk
  · exact ha k z hk
  · exact hb _ z hk
theorem cat_cnt {sz n : Nat} {a b : Els} (h0 : sz ≠ 0) (ha : a.ok sz) (hb : b.ok sz) (hn : (a.cells ++ b.cells).length = n * sz) : cntB (catEls sz a b) = n := by
  have hok := cat_ok ha hb
  rw [← cat_cs sz] at hn
  cases a <;> cases b <;> simp only [catEls, cntB, Blk.cs] at hn hok ⊢
  · rw [List.length_map, (flat_spec hok).1] at hn
    exact Nat.eq_of_mul_eq_mul_right (Nat.pos_of_ne_zero h0) hn
  all_goals rw [hn, Nat.mul_div_cancel _ (Nat.pos_of_ne_zero h0)]

theorem CsRel.append {fb : Nat → Prop} {g : Lk} {cs ds : List V} {vs us : List Value} (h : CsRel fb μ g w cs vs) (k : CsRel fb μ g w ds us) : CsRel fb μ g w (cs ++ ds) (vs ++ us) := by
  refine ⟨⟨by simp [h.1.1, k.1.1], fun v hv => ?_⟩, fun i c v h1 h2 => ?_⟩
  · rcases List.mem_append.1 hv with hv | hv
    · exact h.1.2 v hv
    · exact k.1.2 v hv
  · have hl := h.1.1
    by_cases hi : i < cs.length
    · rw [List.getElem?_append_left hi] at h1
      rw [List.getElem?_append_left (by omega)] at h2
      exact h.2 i c v h1 h2
    · rw [List.getElem?_append_right (by omega)] at h1 h2
      rw [← hl] at h2
      exact k.2 _ c v h1 h2

/-- A value with elements that is no string is a slice. -/
theorem slice_inv {fb : Nat → Prop} {g : Lk} {x : V} {cx : Value} (hx : VRel fb μ g w x cx) {sz m : Nat} (hs : strideOf x = some sz) (hm : lenV x = some m) (hns : ∀ s, x ≠ .r (.str s)) : ∃ ad cap, cx = .slice ad m cap := by
  unfold strideOf at hs
  split at hs <;> try cases hs
  · have r := hx.r_inv
    cases r with | sl sz k xs ad cap => simp [lenV] at hm; subst hm; exact ⟨_, _, rfl⟩
  · rename_i s; exact absurd rfl (hns s)
  · simp [lenV] at hm; subst hm
    cases hx <;> exact ⟨_, _, rfl⟩
  · simp [lenV] at hm; subst hm
    cases hx <;> exact ⟨_, _, rfl⟩

/-- What is appended: its cells, and what the run reads of it. -/
theorem src_sound (H : HRel F μ (lk h) w) {x : V} {cx : Value} (hx : VRel (fbOf F μ (lk h)) μ (lk h) w x cx) {tx : TypeId} (ht : isTy P tx (fun d => match d with | .slice _ => true | .string => true | _ => false) = true)
    {sz m : Nat} {ex : Els} (hsz : sz ≠ 0) (hs : strideOf x = some sz) (hm : lenV x = some m) (he : elsOf h x = some ex) :
    ex.ok sz ∧ ∃ vs : List Value, CsRel (fbOf F μ (lk h)) μ (lk h) w ex.cells vs ∧ vs.length = m * sz ∧ Src P sz tx cx m vs w ∧ ((∀ s, x ≠ .r (.str s)) → ∃ ad cap, cx = .slice ad m cap ∧ (0 < vs.length → ∃ B o, ad = some ⟨B, o, none⟩ ∧ w.rangeAt B o vs)) := by
  have kind : (∃ e', P.underlying tx = some (.slice e')) ∨ P.underlying tx = some .string := by
    obtain ⟨d, hd, hd'⟩ := run_under ht
    split at hd'
    · exact .inl ⟨_, hd⟩
    · exact .inr hd
    · cases hd'
  by_cases hstr : ∃ s, x = .r (.str s)
  · obtain ⟨s, rfl⟩ := hstr
    have hv := hx.str_inv
    subst hv
    simp [strideOf] at hs; subst hs
    simp [lenV] at hm; subst hm
    simp [elsOf, elemsR] at he; subst he
    have hflat : (s.map fun c => R.int .u8 c.toNat).flatMap R.cells = s.map fun c => R.int .u8 c.toNat := by
      clear hx
      induction s with
      | nil => rfl
      | cons c t ih => simp [ih, R.cells]
    refine ⟨fun k x hk => ?_, s.map fun c => Value.int .u8 c.toNat, ⟨⟨by simp [Els.cells, hflat], fun v hv => ?_⟩, fun i c v h1 h2 => ?_⟩, by simp, ?_, fun hn => absurd rfl (hn s)⟩
    · rw [List.getElem?_map] at hk
      cases hq : s[k]? with
      | none => rw [hq] at hk; cases hk
      | some q => rw [hq] at hk; cases hk; rfl
    · obtain ⟨c, _, rfl⟩ := List.mem_map.1 hv; rfl
    · simp only [Els.cells, hflat, List.getElem?_map] at h1
      rw [List.getElem?_map] at h2
      cases hq : s[i]? with
      | none => rw [hq] at h1; cases h1
      | some q => rw [hq] at h1 h2; cases h1; cases h2; exact .r _ _ (.int _ _)
    · have hb : byteCells ⟨s.toArray⟩ = s.map fun c => Value.int .u8 c.toNat := by simp [byteCells]
      have hsize : (ByteArray.mk s.toArray).size = s.length := by simp [ByteArray.size]
      have h1 := firstCells_string (P := P) ⟨s.toArray⟩ w
      have h2 := firstCells_string (P := P) ⟨s.toArray⟩ w.drew
      rw [hb, hsize] at h1 h2
      refine ⟨kind, fun w' => ?_, h1, h2, by simp, fun v hv => ?_⟩
      · have : (Builtin.lenOf (.string ⟨s.toArray⟩)).run P w' = .ok (ByteArray.mk s.toArray).size w' := rfl
        rw [hsize] at this; exact this
      · obtain ⟨c, _, rfl⟩ := List.mem_map.1 hv; rfl
  · have hns : ∀ s, x ≠ .r (.str s) := fun s hs => hstr ⟨s, hs⟩
    obtain ⟨ad, cap, rfl⟩ := slice_inv hx hs hm hns
    obtain ⟨hok, vs, h1, h2, h3, h4⟩ := elsOf_sound H hx hs he
    refine ⟨hok, vs, ⟨h1, h4⟩, h2, ?_, fun _ => ⟨ad, cap, rfl, h3⟩⟩
    by_cases hvs : vs.length = 0
    · have : vs = [] := List.eq_nil_of_length_eq_zero hvs
      subst this
      have hm0 : m = 0 := by
        rcases Nat.mul_eq_zero.1 h2.symm with h | h
        · exact h
        · exact absurd h hsz
      subst hm0
      cases ad with
      | none => exact ⟨kind, fun _ => rfl, run_firstCells_none w sz 0 0 cap, run_firstCells_none w.drew sz 0 0 cap, by simp, by simp⟩
      | some ad => exact ⟨kind, fun _ => rfl, run_firstCells_some w sz 0 ad 0 cap [] (by simp) (by simp), run_firstCells_some w.drew sz 0 ad 0 cap [] (by simp) (by simp), by simp, by simp⟩
    · obtain ⟨B, o, rfl, hr⟩ := h3 (by omega)
      have hc : ∀ (j : Nat) (u : Value), vs[j]? = some u → w.cell? (Addr.add ⟨B, o, none⟩ j) = some u := fun j u hj => by rw [add_lit]; exact hr j u hj
      exact ⟨kind, fun _ => rfl, run_firstCells_some w sz m _ m cap vs h2 hc, run_firstCells_some w.drew sz m _ m cap vs h2 (by simpa using hc), h2, h1.2⟩


theorem flatR_setRange {sz : Nat} {els xs : List R} (h1 : ∀ (k : Nat) (x : R), els[k]? = some x → x.cells.length = sz) (h2 : ∀ (k : Nat) (x : R), xs[k]? = some x → x.cells.length = sz) {i : Nat} (hi : i + xs.length ≤ els.length) :
    (setRange els i xs).flatMap R.cells = setRange (els.flatMap R.cells) (i * sz) (xs.flatMap R.cells) := by
  have tk : ∀ (l : List R) (n : Nat), (∀ (k : Nat) (x : R), l[k]? = some x → x.cells.length = sz) → n ≤ l.length → (l.take n).flatMap R.cells = (l.flatMap R.cells).take (n * sz) ∧ (l.drop n).flatMap R.cells = (l.flatMap R.cells).drop (n * sz) := by
    intro l
    induction l with
    | nil => intro n _ hn; simp
    | cons x l ih =>
      intro n hl hn
      cases n with
      | zero => simp
      | succ n =>
        obtain ⟨k1, k2⟩ := ih n (fun k x hk => hl (k + 1) x (by simpa using hk)) (by simpa using hn)
        have hx : x.cells.length = sz := hl 0 x rfl
        simp only [List.take_succ_cons, List.drop_succ_cons, List.flatMap_cons, k1, k2]
        rw [show (n + 1) * sz = x.cells.length + n * sz by rw [hx, Nat.add_mul]; omega, List.take_length_add_append, List.drop_length_add_append]
        simp
  unfold setRange
  rw [List.flatMap_append, List.flatMap_append, (tk els i h1 (by omega)).1, (tk els (i + xs.length) h1 (by omega)).2, (flat_spec h2).1, Nat.add_mul]

theorem setRange_ok {sz : Nat} {els xs : List R} (h1 : ∀ (k : Nat) (x : R), els[k]? = some x → x.cells.length = sz) (h2 : ∀ (k : Nat) (x : R), xs[k]? = some x → x.cells.length = sz) (i : Nat) :
    ∀ (k : Nat) (x : R), (setRange els i xs)[k]? = some x → x.cells.length = sz := by
  intro k x hk
  have hk := List.mem_of_getElem? hk
  unfold setRange at hk
  simp only [List.mem_append] at hk
  rcases hk with (hk | hk) | hk
  · obtain ⟨j, hj⟩ := List.getElem?_of_mem (List.mem_of_mem_take hk); exact h1 j x hj
  · obtain ⟨j, hj⟩ := List.getElem?_of_mem hk; exact h2 j x hj
  · obtain ⟨j, hj⟩ := List.getElem?_of_mem (List.mem_of_mem_drop hk); exact h1 j x hj

/-- A block without a place in memory: no one may come to it. -/
theorem HRel.ghost {g : Lk} {b0 : Nat} {blk : Blk} (H : HRel F μ g w) (hg : g b0 = none) (hμ : μ b0 = none) : Evo All F μ g w μ (setLk g b0 blk) w ∧ HRel F μ (setLk g b0 blk) w := by
  have back : ∀ {b B lo : Nat} {blk1 : Blk}, setLk g b0 blk b = some blk1 → μ b = some (B, lo) → g b = some blk1 := fun {b B lo blk1} h1 h2 => by
    unfold setLk at h1
    split at h1
    · rename_i hb; subst hb; rw [hμ] at h2; cases h2
    · exact h1
  have E : Evo All F μ g w μ (setLk g b0 blk) w := by
    refine ⟨rfl, rfl, rfl, Nat.le_refl _, fun _ _ _ => rfl, fun B arr e fr h => ⟨arr, h, rfl⟩, fun b _ blk1 hb => ?_, fun _ _ _ h => h, fun B hB ho => ?_⟩
    · have hne : b ≠ b0 := fun h => by subst h; rw [hg] at hb; cases hb
      obtain ⟨blk', h1, h2⟩ := turns.refl (g b) blk1 hb
      exact ⟨blk', by simp [setLk, hne, h1], h2⟩
    · obtain ⟨b, blk1, lo, h1, h2, h3⟩ := ho
      exact ⟨b, blk1, lo, back h1 h3, h2, h3⟩
  exact ⟨E, H.of_evo E (fun b blk1 B lo h1 h2 h3 => .inl ⟨back h1 h3, h3, rfl⟩) fun b b' blk1 blk2 B lo lo' h1 h2 h3 h4 h5 h6 => H.inj b b' blk1 blk2 B lo lo' (back h1 h5) h2 (back h3 h6) h4 h5 h6⟩

theorem kill_len (s : V) : (kill h s).length = h.length := by unfold kill; split <;> simp

theorem kill_sound (H : HRel F μ (lk h) w) (s : V) : Evo All F μ (lk h) w μ (lk (kill h s)) w ∧ HRel F μ (lk (kill h s)) w := by
  unfold kill
  split
  · rename_i sz b k n
    by_cases hb : b < h.length
    · rw [hlk_set hb]
      exact H.kill (b0 := b) (blk0 := h[b]) (by simp [lk, hb])
    · rw [List.set_eq_of_length_le (by omega)]
      exact ⟨Evo.refl _ _ _ _ _ fun b blk _ _ => by cases blk <;> simp [Blk.live], H⟩
  · exact ⟨Evo.refl _ _ _ _ _ fun b blk _ _ => by cases blk <;> simp [Blk.live], H⟩

/-- What a builtin of the chain must come to. -/
def BGives (P : Program) (F : Nat → Prop) (μ : Mu) (h : Heap) (w : World) (run : Sem Value) (h' : Heap) (v : V) : Prop :=
  ∃ cv w' μ', run.run P w = .ok cv w' ∧ Evo All F μ (lk h) w μ' (lk h') w' ∧ HRel F μ' (lk h') w' ∧
    VRel (fbOf F μ' (lk h')) μ' (lk h') w' v cv ∧ h.length ≤ h'.length ∧ (∀ b, b < h.length → μ' b = μ b) ∧ (∀ b, h'.length ≤ b → μ' b = none)

theorem isTy_sl {t e : TypeId} (hu : P.underlying t = some (.slice e)) : isTy P t (fun d => match d with | .slice _ => true | .string => true | _ => false) = true := by simp [isTy, hu]

theorem run_drew_alloc (x : Obj) : (w.drew.alloc x).heap = w.heap.push x := rfl

/-- No room: a new block. -/
theorem app_grow (H : HRel F μ (lk h) w) (hμ : ∀ b, h.length ≤ b → μ b = none) {s : V} {base : Option Addr} {cx : Value} {t tx ty e : TypeId} {i : TypeInfo} {z : Value} {sz n m cap : Nat} {es ex : Els} {olds news : List Value}
    (hu : P.underlying t = some (.slice e)) (hi : P.info? e = some i) (hsi : i.size = sz) (hz : i.zero = some z) (hzs : z.cells.size = sz) (hsz : sz ≠ 0) (hok : es.ok sz) (hok2 : ex.ok sz)
    (ho : CsRel (fbOf F μ (lk h)) μ (lk h) w es.cells olds) (hol : olds.length = n * sz) (hold : (Builtin.firstCells sz n (.slice base n cap)).run P w.drew = .ok olds.toArray w.drew)
    (hnw : CsRel (fbOf F μ (lk h)) μ (lk h) w ex.cells news) (hnl : news.length = m * sz) (hsrc : SrcA P i tx cx m news w) (hg : cap < n + m) (hb : (n + m) * i.bytes ≤ limA) (hb0 : i.bytes ≠ 0) :
    BGives P F μ h w (Builtin.append_ #[t, tx] ty #[.slice base n cap, cx]) (kill h s ++ [catEls sz es ex]) (.sl sz h.length 0 (n + m)) := by
  subst hsi
  have hnm : n + m ≤ limA := Nat.le_trans (Nat.le_mul_of_pos_right _ (Nat.pos_of_ne_zero hb0)) hb
  have hlim : limA = 70368744177664 := by simp [limA]
  have hfit : Builtin.nextslicecap (n + m) cap * i.bytes ≤ 281474976710656 := by
    have h1 := Nat.mul_le_mul_right i.bytes (Room.nextslicecap_le' hg)
    rw [Nat.mul_assoc] at h1
    omega
  have hrun := run_append_grow_a (P := P) (w := w) t tx ty e i z hu hi hz base n cap olds hold cx m news hsrc hg (by omega) hfit
  obtain ⟨E1, H1⟩ := kill_sound H s
  have hall := ho.append hnw
  have hlk1 : lk (kill h s) h.length = none := by simp [lk, kill_len]
  have hok' := cat_ok hok hok2
  have hlen : (es.cells ++ ex.cells).length = (n + m) * i.size := by rw [hall.1.1, List.length_append, hol, hnl, Nat.add_mul]
  obtain ⟨E2, H2⟩ := H1.allocd (b0 := h.length) (blk := catEls i.size es ex) (w' := w.drew.alloc (.cells ((olds ++ news).toArray ++ Builtin.zeroCells z.cells (grownCap w (n + m) cap e - (n + m))) e)) rfl rfl rfl rfl fr0 hok' (.inl hlk1) (hμ _ (Nat.le_refl _)) fun j c hj => by
    rw [cat_cs] at hj
    have hlt := (List.getElem?_eq_some_iff.1 hj).1
    have hl := hall.1.1
    rw [List.length_append] at hl hlt
    have hv : (olds ++ news)[j]? = some ((olds ++ news)[j]'(by omega)) := List.getElem?_eq_getElem _
    refine ⟨_, ?_, hall.1.2 _ (List.getElem_mem _), (hall.2 j c _ hj hv).evo E1 fun _ _ => trivial⟩
    rw [Array.getElem?_append_left (by simp at hl ⊢; omega)]
    simp
  have hpush : lk (kill h s ++ [catEls i.size es ex]) = setLk (lk (kill h s)) h.length (catEls i.size es ex) := by rw [hlk_push, kill_len]
  have hcap : n + m ≤ grownCap w (n + m) cap e := by simp [grownCap, Question.cut]
  have hzc : ∀ k, (Builtin.zeroCells z.cells k).size = k * z.cells.size := fun k => by simp [Builtin.zeroCells]
  refine ⟨_, _, setMu μ h.length w.heap.size 0, hrun, ?_, ?_, ?_, by simp [kill_len], fun b hb => by simp [setMu, Nat.ne_of_lt hb], fun b hb => ?_⟩
  · rw [hpush]; exact E1.trans E2
  · rw [hpush]; exact H2
  · rw [hpush]
    refine sl_new (e := e) (fr := (0, 0)) hok' (cat_sz _ _ _) (by rw [run_drew_alloc]; simp; rfl) hcap ?_ (by rw [cat_cnt hsz hok hok2 hlen]; exact hcap)
    rw [Array.size_append, hzc, hzs]
    simp only [List.size_toArray, List.length_append, hol, hnl]
    rw [← Nat.add_mul, ← Nat.add_mul]
    exact Nat.mul_le_mul_right _ (by omega)
  · simp [kill_len] at hb
    simp [setMu, show b ≠ h.length by omega, hμ b (by omega)]
end
end Go.PV
