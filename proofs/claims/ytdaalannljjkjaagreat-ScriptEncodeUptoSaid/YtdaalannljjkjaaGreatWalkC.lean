/- The reader's functions: wire.NewReader, Done, Bad, Bytes. -/
import Derived.Test.YtdaalannljjkjaaGreatWalkB
import Derived.Test.YtdaalannljjkjaaGreatBulk
open Go Go.PV
namespace Go.PV
set_option maxRecDepth 100000
set_option linter.unusedSimpArgs false

/-- A reader's block. -/
abbrev rdr (D : List UInt8) (pos : Nat) (bad : Bool) : R := .agg [.sl 1 .any (bys D), .int .i64 pos, .bool bad]

theorem w25 {T : List Ent} (h : (T.all fun e => e.f != 25) = true) (D : List UInt8) :
    callW F T 25 [.r (.sl 1 .any (bys D))] [] = some (.ptr 0 0 0, [.rows 3 [rdr D 0 false]]) := by
  rw [callW_of h (A := c25) rfl]
  simp [c25]
theorem w26 {T : List Ent} (h : (T.all fun e => e.f != 26) = true) (D : List UInt8) (pos : Nat) (bad : Bool) :
    callW F T 26 [.ptr 0 0 0] [.rows 3 [rdr D pos bad]] = some (.r (.bool (!bad && decide (pos = D.length))), [.rows 3 [rdr D pos bad]]) := by
  rw [callW_of h (A := c26) rfl]
  cases bad
  · simp [c26, loadH, bys_len]; omega
  · simp [c26, loadH]
theorem w27 {T : List Ent} (h : (T.all fun e => e.f != 27) = true) (D : List UInt8) (pos : Nat) (bad : Bool) :
    callW F T 27 [.ptr 0 0 0] [.rows 3 [rdr D pos bad]] = some (.r (.bool bad), [.rows 3 [rdr D pos bad]]) := by
  rw [callW_of h (A := c27) rfl]
  simp [c27, loadH]
theorem w54 {T : List Ent} (h : (T.all fun e => e.f != 54) = true) (D : List UInt8) (pos pos' : Nat) :
    callW F T 54 [.ptr 0 0 0, .r (.int .i64 pos'), .r (.int .i64 0)] [.rows 3 [rdr D pos false]] = some (.r (.bool true), [.rows 3 [rdr D pos' false]]) := by
  rw [callW_of h (A := c54) rfl]
  simp [c54, loadH, storeH, setEl]
theorem w54b {T : List Ent} (h : (T.all fun e => e.f != 54) = true) (D : List UInt8) (pos : Nat) :
    callW F T 54 [.ptr 0 0 0, .r (.int .i64 0), .r (.int .i64 3)] [.rows 3 [rdr D pos false]] = some (.r (.bool false), [.rows 3 [rdr D pos true]]) := by
  rw [callW_of h (A := c54) rfl]
  simp [c54, loadH, storeH, setEl]
theorem w28 {T : List Ent} (hT : offT T [28, 54, 53, 83, 84, 126] = true) (D : List UInt8) (pos : Nat) (hp : pos ≤ D.length) (hD : D.length ≤ 2 ^ 40) (x : List UInt8) (n : Nat) (hr : rdB (D.drop pos) = some (x, n)) :
    callW F T 28 [.ptr 0 0 0] [.rows 3 [rdr D pos false]] = some (.r (.sl 1 .any (bys x)), [.rows 3 [rdr D (pos + n) false]]) := by
  rw [callW_of (offT_mem hT (by simp)) (A := c28) rfl]
  have h53 := w53 (T := T) (by simp only [offT, List.all_cons, Bool.and_eq_true] at hT ⊢; exact hT.2.2) D pos hp hD
  have h53' : ∀ h, doCallU (callW F T) 53 [.r (.sl 1 .any (bys D)), .r (.int .i64 pos)] h = some (res53 pos (rdB (D.drop pos)), h) := fun h => by
    rw [call_pure (by simp) (by simp) h53]
    cases rdB (D.drop pos) <;> simp [res53]
  have h54 := w54 (T := T) (offT_mem hT (by simp)) D pos (pos + n)
  rw [hr] at h53'
  simp [res53, rdr] at h53' h54
  simp [c28, loadH, h53', doCallU_eq2, h54]
theorem w28b {T : List Ent} (hT : offT T [28, 54, 53, 83, 84, 126] = true) (D : List UInt8) (pos : Nat) (hp : pos ≤ D.length) (hD : D.length ≤ 2 ^ 40) (hr : rdB (D.drop pos) = none) :
    callW F T 28 [.ptr 0 0 0] [.rows 3 [rdr D pos false]] = some (.r (.sl 1 .nil []), [.rows 3 [rdr D pos true]]) := by
  rw [callW_of (offT_mem hT (by simp)) (A := c28) rfl]
  have h53 := w53 (T := T) (by simp only [offT, List.all_cons, Bool.and_eq_true] at hT ⊢; exact hT.2.2) D pos hp hD
  have h53' : ∀ h, doCallU (callW F T) 53 [.r (.sl 1 .any (bys D)), .r (.int .i64 pos)] h = some (res53 pos (rdB (D.drop pos)), h) := fun h => by
    rw [call_pure (by simp) (by simp) h53]
    cases rdB (D.drop pos) <;> simp [res53]
  have h54 := w54b (T := T) (offT_mem hT (by simp)) D pos
  rw [hr] at h53'
  simp [res53, rdr] at h53' h54
  simp [c28, loadH, h53', doCallU_eq2, h54]
end Go.PV

/- The plain law of the encoding: reading what was written, writing what was read. -/
open Go Go.PV
namespace Go.PV

theorem fold_eq (l : List UInt8) : ∀ a, l.foldl (fun a c => a * 256 + c.toNat) a = a * 256 ^ l.length + beV l := by
  induction l with
  | nil => intro a; simp [beV]
  | cons c t ih =>
    intro a
    have e : beV (c :: t) = c.toNat * 256 ^ t.length + beV t := by
      rw [beV, List.foldl_cons, ih]; simp
    rw [List.foldl_cons, ih, e, List.length_cons, Nat.pow_succ, Nat.add_mul, Nat.mul_assoc, Nat.mul_comm 256, Nat.add_assoc]
theorem beV_cons (c : UInt8) (t : List UInt8) : beV (c :: t) = c.toNat * 256 ^ t.length + beV t := by
  rw [beV, List.foldl_cons, fold_eq]; simp
theorem beV_beB (k n : Nat) : beV (beB k n) = n % 256 ^ k := by
  induction k with
  | zero => simp [beB, beV, Nat.mod_one]
  | succ k ih =>
    rw [beB, beV_cons, ih, beB_len, Nat.pow_succ, Nat.mod_mul]
    have : (UInt8.ofNat (n / 256 ^ k % 256)).toNat = n / 256 ^ k % 256 := by simp
    rw [this, Nat.mul_comm (256 ^ k), Nat.add_comm]
theorem beB_mod (k n m : Nat) : beB k (m * 256 ^ k + n) = beB k n := by
  induction k generalizing m with
  | zero => rfl
  | succ k ih =>
    rw [beB, beB, Nat.pow_succ, Nat.mul_comm (256 ^ k), ← Nat.mul_assoc, ih]
    congr 2
    rw [Nat.mul_comm (m * 256), Nat.mul_add_div (Nat.pow_pos (by decide))]
    omega
theorem beB_beV (l : List UInt8) : beB l.length (beV l) = l := by
  induction l with
  | nil => rfl
  | cons c t ih =>
    rw [List.length_cons, beB, beV_cons, beB_mod, ih]
    congr 1
    have h := beV_lt t
    have hc := c.toNat_lt
    rw [Nat.mul_comm, Nat.mul_add_div (Nat.pow_pos (by decide)), Nat.div_eq_of_lt h, Nat.add_zero, Nat.mod_eq_of_lt (by omega)]
    exact UInt8.ofNat_toNat
theorem nb_unique {k n : Nat} (h1 : n < 256 ^ k) (h2 : k = 0 ∨ 256 ^ (k - 1) ≤ n) : nb n = k := by
  obtain ⟨h3, h4⟩ := nb_spec n
  rcases Nat.lt_trichotomy (nb n) k with h | h | h
  · rcases h2 with h2 | h2
    · omega
    · have := Nat.pow_le_pow_right (n := 256) (by decide) (show nb n ≤ k - 1 by omega)
      omega
  · exact h
  · rcases h4 with h4 | h4
    · omega
    · have := Nat.pow_le_pow_right (n := 256) (by decide) (show k ≤ nb n - 1 by omega)
      omega

theorem rdU_enc (v : Nat) (hv : v < 2 ^ 64) (t : List UInt8) : rdU (encN v ++ t) = some (v, (encN v).length) := by
  have hk : nb v ≤ 8 := nb_le (by omega)
  have hc : (UInt8.ofNat (nb v)).toNat = nb v := by simp; omega
  have hl := beB_len (nb v) v
  obtain ⟨h1, h2⟩ := nb_spec v
  have henc : encN v = UInt8.ofNat (nb v) :: beB (nb v) v := rfl
  rw [henc, List.cons_append, rdU, hc, if_neg]
  · have ht : (beB (nb v) v ++ t).take (nb v) = beB (nb v) v := by rw [List.take_append_of_le_length (by omega), List.take_of_length_le (by omega)]
    rw [ht, beV_beB, Nat.mod_eq_of_lt h1, List.length_cons, hl]
  · rintro (h | h | ⟨h, h0⟩)
    · omega
    · rw [List.length_append, hl] at h; omega
    · rw [List.getElem?_append_left (by omega), beB_get _ _ _ h, Option.some.injEq] at h0
      have h0 := congrArg UInt8.toNat h0
      rcases h2 with h2 | h2
      · omega
      have a : 1 ≤ v / 256 ^ (nb v - 1) := (Nat.le_div_iff_mul_le (Nat.pow_pos (by decide))).2 (by omega)
      have b : v / 256 ^ (nb v - 1) < 256 := (Nat.div_lt_iff_lt_mul (Nat.pow_pos (by decide))).2 (by rw [Nat.mul_comm, ← Nat.pow_succ, Nat.succ_eq_add_one, show nb v - 1 + 1 = nb v by omega]; exact h1)
      simp at h0
      omega
theorem rdB_enc (x : List UInt8) (hx : x.length < 2 ^ 64) (t : List UInt8) : rdB (encB x ++ t) = some (x, (encB x).length) := by
  have h := rdU_enc x.length hx (x ++ t)
  rw [encB, List.append_assoc, rdB, h]
  simp only
  rw [if_neg (by simp)]
  simp

/-- What was read is what is written. -/
theorem rdU_inv {l : List UInt8} {v n : Nat} (h : rdU l = some (v, n)) : l = encN v ++ l.drop n ∧ n = (encN v).length := by
  cases l with
  | nil => simp [rdU] at h
  | cons c t =>
    simp only [rdU] at h
    split at h
    · exact absurd h (by simp)
    rename_i hn
    simp only [Option.some.injEq, Prod.mk.injEq] at h
    obtain ⟨hv, rfl⟩ := h
    have h3 : ¬ t.length < c.toNat := fun h => hn (.inr (.inl h))
    have hl : (t.take c.toNat).length = c.toNat := by rw [List.length_take]; omega
    have hlt := beV_lt (t.take c.toNat)
    rw [hl, hv] at hlt
    have hnb : nb v = c.toNat := by
      apply nb_unique hlt
      rcases Nat.eq_zero_or_pos c.toNat with h0 | h0
      · left; exact h0
      · right
        have h5 : ¬ (0 < c.toNat ∧ t[0]? = some 0) := fun h => hn (.inr (.inr h))
        cases t with
        | nil => simp at h3; omega
        | cons d t =>
          have hd : ¬ d.toNat = 0 := by
            intro hd
            apply h5
            refine ⟨h0, ?_⟩
            rw [show d = 0 from UInt8.toNat_inj.1 hd]; rfl
          obtain ⟨m, hm⟩ : ∃ m, c.toNat = m + 1 := ⟨c.toNat - 1, by omega⟩
          rw [hm, List.take_succ_cons, beV_cons] at hv
          have hml : (t.take m).length = m := by
            rw [List.length_take]; simp at h3; omega
          rw [hml] at hv
          rw [hm, Nat.add_sub_cancel]
          have : 1 * 256 ^ m ≤ d.toNat * 256 ^ m := Nat.mul_le_mul_right _ (by omega)
          omega
    have henc : encN v = c :: t.take c.toNat := by
      show UInt8.ofNat (nb v) :: beB (nb v) v = _
      have := beB_beV (t.take c.toNat)
      rw [hl, hv] at this
      rw [hnb, this, UInt8.ofNat_toNat]
    rw [henc]
    constructor
    · rw [List.drop_succ_cons, List.cons_append, List.take_append_drop]
    · rw [List.length_cons, hl]
theorem rdB_inv {l x : List UInt8} {n : Nat} (h : rdB l = some (x, n)) : l = encB x ++ l.drop n ∧ n = (encB x).length ∧ 0 < n := by
  simp only [rdB] at h
  split at h
  · exact absurd h (by simp)
  rename_i v m hr
  split at h
  · exact absurd h (by simp)
  rename_i hn
  simp only [Option.some.injEq, Prod.mk.injEq] at h
  obtain ⟨hx, rfl⟩ := h
  obtain ⟨h1, h2⟩ := rdU_inv hr
  obtain ⟨h3, h4, h5, h6⟩ := rdU_some hr
  have hxl : x.length = v := by rw [← hx]; simp; omega
  refine ⟨?_, ?_, by omega⟩
  · rw [encB, hxl, List.append_assoc]
    rw [← List.drop_drop, ← hx, List.take_append_drop]
    exact h1
  · rw [encB, List.length_append, hxl]; omega
/-- Some bytes are an encoding, or there is a place where none can be read. -/
theorem dec_cases : ∀ (D : List UInt8), (∃ l, D = encL l) ∨ ∃ l E, D = encL l ++ E ∧ E ≠ [] ∧ rdB E = none := by
  intro D
  induction hD : D.length using Nat.strongRecOn generalizing D with
  | ind N ih =>
    cases D with
    | nil => exact .inl ⟨[], rfl⟩
    | cons c t =>
      cases hr : rdB (c :: t) with
      | none => exact .inr ⟨[], c :: t, rfl, by simp, hr⟩
      | some p =>
        obtain ⟨x, n⟩ := p
        obtain ⟨h1, h2, h3⟩ := rdB_inv hr
        have h4 : ((c :: t).drop n).length < N := by
          rw [← hD, List.length_drop]; simp; omega
        rcases ih _ h4 _ rfl with ⟨l, hl⟩ | ⟨l, E, hl, hE⟩
        · left; refine ⟨x :: l, ?_⟩
          rw [h1, hl]; rfl
        · right; refine ⟨x :: l, E, ?_, hE⟩
          rw [h1, hl]; simp [encL]
end Go.PV

/- script.Decode. -/
open Go Go.PV
namespace Go.PV
set_option maxRecDepth 100000
set_option linter.unusedSimpArgs false

theorem l10 {T : List Ent} (hT : offT T [26, 27, 28, 54, 53, 83, 84, 126] = true) (D : List UInt8) (pos : Nat) (hp : pos < D.length) (hD : D.length ≤ 2 ^ 39) (l : List (List UInt8)) (hl : l.length ≤ 2 ^ 39) (x : List UInt8) (n : Nat) (hr : rdB (D.drop pos) = some (x, n)) :
    ∃ s1, execS (callW F T) loopW 0 c10_l0 ⟨[(4, .sl 1 0 0 l.length), (5, .ptr 1 0 0)], [.rows 1 (lst l), .rows 3 [rdr D pos false]]⟩ = some (.normal, s1) ∧
      canonS 0 [false, false, false, false, true, true] s1 = some ⟨[(4, .sl 1 0 0 (l.length + 1)), (5, .ptr 1 0 0)], [.rows 1 (lst (l ++ [x])), .rows 3 [rdr D (pos + n) false]]⟩ := by
  have h26 := w26 (T := T) (offT_mem hT (by simp)) D pos false
  have h27 := w27 (T := T) (offT_mem hT (by simp)) D pos false
  have h28 := w28 (T := T) (by simp only [offT, List.all_cons, Bool.and_eq_true] at hT ⊢; exact hT.2.2) D pos (by omega) (by omega) x n hr
  have ha := app_end (h := [.rows 1 (lst l), .rows 3 [rdr D (pos + n) false], .rows 1 [.sl 1 .any (bys x)]]) (sz := 1) (eb := 24) (b := 0) (k := 0) (n := l.length) (m := 1) (els := lst l) (ys := [.sl 1 .any (bys x)]) (x := .sl 1 2 0 1) rfl (by simp [lst_len]) rfl rfl rfl (elems_whole rfl rfl) (by omega)
  have hne : ¬ pos = D.length := by omega
  have hsn : lst (l ++ [x]) = lst l ++ [.sl 1 .any (bys x)] := by simp [lst]
  rw [hsn]
  simp only [rdr] at *
  simp [hne] at h26 h27 h28 ha
  simp [c10_l0, doCallU_eq2, h26, h27, h28, ha, bslN, setAll]

theorem encL_take_get {l : List (List UInt8)} {j : Nat} {x : List UInt8} (h : l[j]? = some x) (E : List UInt8) : (encL l ++ E).drop (encL (l.take j)).length = encB x ++ (encL (l.drop (j + 1)) ++ E) := by
  have h1 : encL l = encL (l.take j) ++ (encB x ++ encL (l.drop (j + 1))) := by
    have : l = l.take j ++ x :: l.drop (j + 1) := by
      obtain ⟨hj, hx⟩ := List.getElem?_eq_some_iff.1 h
      rw [← hx, List.getElem_cons_drop, List.take_append_drop]
    conv => lhs; rw [this]
    simp [encL]
  rw [h1, List.append_assoc, List.drop_left, List.append_assoc]
theorem encL_short {l : List (List UInt8)} {x : List UInt8} (h : x ∈ l) : x.length ≤ (encL l).length := by
  obtain ⟨a, b, rfl⟩ := List.append_of_mem h
  simp [encL, encB]; omega
theorem encL_count (l : List (List UInt8)) : l.length ≤ (encL l).length := by
  induction l with
  | nil => simp
  | cons x l ih =>
    have : 1 ≤ (encB x).length := by simp [encB, encN]
    simp [encL] at ih ⊢; omega

/-- The rounds that read. -/
theorem r10 {T : List Ent} (hT : offT T [26, 27, 28, 54, 53, 83, 84, 126] = true) (l : List (List UInt8)) (E : List UInt8) (hD : (encL l ++ E).length ≤ 2 ^ 38) (j : Nat) (hj : j < l.length) :
    ∃ s1, execS (callW F T) loopW 0 c10_l0 ⟨[(4, .sl 1 0 0 (l.take j).length), (5, .ptr 1 0 0)], [.rows 1 (lst (l.take j)), .rows 3 [rdr (encL l ++ E) (encL (l.take j)).length false]]⟩ = some (.normal, s1) ∧
      canonS 0 [false, false, false, false, true, true] s1 = some ⟨[(4, .sl 1 0 0 (l.take (j + 1)).length), (5, .ptr 1 0 0)], [.rows 1 (lst (l.take (j + 1))), .rows 3 [rdr (encL l ++ E) (encL (l.take (j + 1))).length false]]⟩ := by
  obtain ⟨x, hx⟩ : ∃ x, l[j]? = some x := ⟨_, List.getElem?_eq_getElem hj⟩
  have hmem : x ∈ l := List.mem_of_getElem? hx
  have h1 := encL_short hmem
  have h2 := encL_count l
  have h3 : (encL l).length ≤ 2 ^ 38 := by rw [List.length_append] at hD; omega
  have h4 := encL_take_len l (j + 1)
  rw [encL_take hx, List.length_append] at h4
  have h5 : 1 ≤ (encB x).length := by simp [encB, encN]
  have hr : rdB ((encL l ++ E).drop (encL (l.take j)).length) = some (x, (encB x).length) := by
    rw [encL_take_get hx]; exact rdB_enc x (by omega) _
  have := l10 hT (encL l ++ E) (encL (l.take j)).length (by rw [List.length_append]; omega) (by omega) (l.take j) (by rw [List.length_take]; omega) x _ hr
  rw [encL_take hx, List.length_append]
  rw [show l.take (j + 1) = l.take j ++ [x] by rw [List.take_add_one, hx]; rfl, List.length_append]
  exact this

theorem w10 {T : List Ent} (hT : offT T [10, 25, 26, 27, 28, 54, 53, 83, 84, 126] = true) (l : List (List UInt8)) (hD : (encL l).length ≤ 2 ^ 38) :
    callW F T 10 [.r (.sl 1 .any (bys (encL l)))] [] = some (.tup [.r (.sl 1 .any (lst l)), .r (.int .i64 0)], []) := by
  rw [callW_of (offT_mem hT (by simp)) (A := c10) rfl]
  have h25 : ∀ h, doCallU (callW F T) 25 [.r (.sl 1 .any (bys (encL l)))] h = some (.ptr h.length 0 0, h ++ [.rows 3 [rdr (encL l) 0 false]]) := fun h => by
    rw [call_pure (by simp) (by simp) (w25 (offT_mem hT (by simp)) (encL l))]; simp [rdr]
  have h26 := w26 (T := T) (offT_mem hT (by simp)) (encL l) (encL l).length false
  have h27 := w27 (T := T) (offT_mem hT (by simp)) (encL l) (encL l).length false
  simp at h26 h27
  have hex : ∃ s', execS (callW F T) loopW 0 c10_l0 ⟨[(4, .sl 1 0 0 l.length), (5, .ptr 1 0 0)], [.rows 1 (lst l), .rows 3 [rdr (encL l) (encL l).length false]]⟩ = some (.exit 0, s') ∧
      s'.h = [.rows 1 (lst l), .rows 3 [rdr (encL l) (encL l).length false]] ∧ get s'.fr 4 = .sl 1 0 0 l.length ∧ get s'.fr 5 = .ptr 1 0 0 := by
    simp [c10_l0, doCallU_eq2, h26]
  obtain ⟨⟨fr', h'⟩, hx, hxh, hx4, hx5⟩ := hex
  simp only at hxh hx4 hx5
  subst hxh
  have key := loop_rounds (d := execS (callW F T) loopW 0 c10_l0) (hd := canonS 0 [false, false, false, false, true, true])
    (fun j => ⟨[(4, .sl 1 0 0 (l.take j).length), (5, .ptr 1 0 0)], [.rows 1 (lst (l.take j)), .rows 3 [rdr (encL l) (encL (l.take j)).length false]]⟩) l.length _ (.exit 0)
    (fun j hj => by
      have := r10 (T := T) (by simp only [offT, List.all_cons, Bool.and_eq_true] at hT ⊢; exact hT.2.2) l [] (by simpa using hD) j hj
      rw [List.append_nil] at this
      exact this)
    (by simp only [List.take_length]; exact hx) (by simp)
  have hel := elems_whole (h := [.rows 1 (lst l), .rows 3 [rdr (encL l) (encL l).length false]]) (sz := 1) (b := 0) (n := l.length) (els := lst l) rfl (lst_len _)
  simp [c10, h25]
  rw [key]
  · simp [hx4, hx5, doCallU_eq2, h27, hel]
  · simp [encL, lst]
end Go.PV

/- The law's comparisons: pontagelaw0.EqualBytes, pontagelaw29.equal. -/
open Go Go.PV
namespace Go.PV
set_option maxRecDepth 100000
set_option linter.unusedSimpArgs false

theorem u8s_bys (x : List UInt8) : u8s (bys x) = some x := by
  induction x with
  | nil => rfl
  | cons c t ih =>
    have e : bys (c :: t) = .int .u8 (c.toNat : Int) :: bys t := rfl
    rw [e]
    simp [u8s, ih]

theorem w12 {T : List Ent} (h : (T.all fun e => e.f != 12) = true) (k k' : SK) (x y : List UInt8) :
    callW F T 12 [.r (.sl 1 k (bys x)), .r (.sl 1 k' (bys y))] [] = some (.r (.bool (x == y)), []) := by
  rw [callW_of h (A := c12) rfl]
  simp [c12, elemsS, elemsR, u8s_bys]
theorem w12m {T : List Ent} (h : (T.all fun e => e.f != 12) = true) (k : SK) (x y : List UInt8) :
    callW F T 12 [.r (.sl 1 k (bys x)), .sl 1 0 0 y.length] [.rows 1 (bys y)] = some (.r (.bool (x == y)), [.rows 1 (bys y)]) := by
  rw [callW_of h (A := c12) rfl]
  have hel := elems_whole (h := [.rows 1 (bys y)]) (sz := 1) (b := 0) (n := y.length) (els := bys y) rfl (bys_len _)
  have h2 : elemsR [.rows 1 (bys y)] (.r (.sl 1 k (bys x))) = some (bys x) := rfl
  simp [c12, elemsS, hel, h2, u8s_bys]

theorem w14 {T : List Ent} (hT : offT T [12, 14] = true) (k k' : SK) (l : List (List UInt8)) (hl : l.length ≤ 2 ^ 40) :
    callW F T 14 [.r (.sl 1 k (lst l)), .r (.sl 1 k' (lst l))] [] = some (.r (.bool true), []) := by
  rw [callW_of (offT_mem hT (by simp)) (A := c14) rfl]
  have hex : ∃ s', execS (callW F T) loopW 0 c14_l0 ⟨[(0, .r (.sl 1 k (lst l))), (1, .r (.sl 1 k' (lst l))), (5, .r (.int .i64 l.length))], []⟩ = some (.exit 0, s') ∧
      s'.h = [] := by simp [c14_l0, lst_len]
  obtain ⟨⟨fr', h'⟩, hx, hxh⟩ := hex
  simp only at hxh
  subst hxh
  have key := loop_rounds (d := execS (callW F T) loopW 0 c14_l0) (hd := canonS 0 [true, true, false, false, false, true])
    (fun j => ⟨[(0, .r (.sl 1 k (lst l))), (1, .r (.sl 1 k' (lst l))), (5, .r (.int .i64 j))], []⟩) l.length _ (.exit 0)
    (fun j hj => by
      obtain ⟨x, hx⟩ : ∃ x, l[j]? = some x := ⟨_, List.getElem?_eq_getElem hj⟩
      have e1 : wrapK .i64 ((j : Int) + 1) = (j : Int) + 1 := w64 (by omega) (by omega)
      have e2 := ixs_r (sz := 1) (kd := k) (kk := .i64) (i := (j : Int)) (Int.natCast_nonneg j) (by simpa using lst_get hx)
      have e3 := ixs_r (sz := 1) (kd := k') (kk := .i64) (i := (j : Int)) (Int.natCast_nonneg j) (by simpa using lst_get hx)
      have h12 : doCallU (callW F T) 12 [.r (.sl 1 .any (bys x)), .r (.sl 1 .any (bys x))] [] = some (.r (.bool true), []) := by
        rw [call_pure (by simp) (by simp) (w12 (offT_mem hT (by simp)) .any .any x x)]; simp
      simp at e2 e3
      simp [c14_l0, lst_len, hj, e1, e2, e3, h12])
    hx (by simp)
  simp [c14, lst_len]
  rw [key]
  · simp
  · simp
end Go.PV

/- The law pontagelaw29.ScriptEncode, walked. -/
open Go Go.PV
namespace Go.PV
set_option maxRecDepth 100000
set_option linter.unusedSimpArgs false

theorem offT_sub {T : List Ent} {fs gs : List Nat} (h : offT T fs = true) (hs : (gs.all fun g => fs.contains g) = true) : offT T gs = true := by
  refine List.all_eq_true.2 fun g hg => offT_mem h ?_
  have := List.all_eq_true.1 hs g hg
  simpa using this

theorem encL_sum (l : List (List UInt8)) (h : sumL l ≤ 2 ^ 30) : (encL l).length ≤ 9 * sumL l := by
  induction l with
  | nil => simp [encL]
  | cons x l ih =>
    have e1 : sumL (x :: l) = x.length + 1 + sumL l := by simp [sumL]
    have e2 : encL (x :: l) = encB x ++ encL l := rfl
    rw [e1] at h ⊢
    have := encB_len (x := x) (by omega)
    have := ih (by omega)
    rw [e2, List.length_append]
    omega
theorem len_sum (l : List (List UInt8)) : l.length ≤ sumL l := by
  induction l with
  | nil => simp
  | cons x l ih =>
    have e1 : sumL (x :: l) = x.length + 1 + sumL l := by simp [sumL]
    simp only [List.length_cons]
    omega

theorem w4 {T : List Ent} (hT : offT T [4, 6, 8, 10, 12, 13, 14, 24, 25, 26, 27, 28, 30, 52, 53, 54, 56, 57, 58, 82, 83, 84, 86, 87, 125, 126, 127] = true) (h7 : callW F T 7 [] [] = some (.r (.bool true), [])) (kd : SK) (l : List (List UInt8)) (hl : sumL l < 2 ^ 38) :
    callW F T 4 [.r (.sl 1 kd (lst l))] [] = some (.r (.bool true), []) := by
  rw [callW_of (offT_mem hT (by simp)) (A := c4) rfl]
  have hlen := len_sum l
  have d7 : ∀ h, doCallU (callW F T) 7 [] h = some (.r (.bool true), h) := fun h => by
    rw [call_pure (by simp) (by simp) h7]; simp
  have d6 : ∀ h, doCallU (callW F T) 6 [.r (.sl 1 kd (lst l))] h = some (.r (.bool (decide (3000 < sumL l))), h) := fun h => by
    rw [call_pure (by simp) (by simp) (w6 (offT_mem hT (by simp)) kd l (by omega) (by omega))]; simp
  by_cases hbig : 3000 < sumL l
  · simp [c4, d6, d7, hbig]
  have he := encL_sum l (by omega)
  have d13 : ∀ h, doCallU (callW F T) 13 [.r (.sl 1 kd (lst l))] h = some (.sl 1 h.length 0 (encL l).length, h ++ [.rows 1 (bys (encL l))]) := fun h => by
    rw [call_pure (by simp) (by simp) (w13 (offT_sub hT (by decide)) (offT_mem hT (by simp)) kd l (by omega) (by omega))]; simp
  have d8 : ∀ h, doCallU (callW F T) 8 [.r (.sl 1 kd (lst l))] h = some (.sl 1 h.length 0 (encL l).length, h ++ [.rows 1 (bys (encL l))]) := fun h => by
    rw [call_pure (by simp) (by simp) (w8 (offT_sub hT (by decide)) (offT_mem hT (by simp)) kd l (by omega) (by omega))]; simp
  have d10 : ∀ h, doCallU (callW F T) 10 [.r (.sl 1 .any (bys (encL l)))] h = some (.tup [.r (.sl 1 .any (lst l)), .r (.int .i64 0)], h) := fun h => by
    rw [call_pure (by simp) (by simp) (w10 (offT_sub hT (by decide)) l (by omega))]; simp
  have d14 : ∀ h, doCallU (callW F T) 14 [.r (.sl 1 .any (lst l)), .r (.sl 1 kd (lst l))] h = some (.r (.bool true), h) := fun h => by
    rw [call_pure (by simp) (by simp) (w14 (offT_sub hT (by decide)) .any kd l (by omega))]; simp
  have d12 := w12m (T := T) (offT_mem hT (by simp)) .any (encL l) (encL l)
  generalize encL l = D at *
  have hel := elems_whole (h := [.rows 1 (bys D)]) (sz := 1) (b := 0) (n := D.length) (els := bys D) rfl (bys_len _)
  simp at d12
  have d12' : doCallU (callW F T) 12 [.r (.sl 1 .any (bys D)), .sl 1 1 0 D.length] [.dead, .rows 1 (bys D)] = some (.r (.bool true), [.dead, .rows 1 (bys D)]) := by
    simp [doCallU_eq2, d12]
  simp [c4, d6, d7, hbig, d13, d8, d10, d14, d12', hel]
end Go.PV

/- What comes in: lists of byte strings. -/
open Go Go.PV
namespace Go.PV
set_option maxRecDepth 100000
set_option linter.unusedVariables false

theorem okc_byte {x : R} (h : OkC (.int .u8) x) : ∃ c, x = byR c := by
  obtain ⟨n, rfl, hw⟩ := h
  have h2 : 0 ≤ n ∧ n < 256 := by
    simp [Lit.wf] at hw
    have e1 : IntKind.u8.min = 0 := rfl
    have e2 : IntKind.u8.max = 255 := rfl
    omega
  refine ⟨UInt8.ofNat n.toNat, ?_⟩
  have : (UInt8.ofNat n.toNat).toNat = n.toNat := by simp; omega
  rw [byR, this]
  congr 1
  omega
theorem list_byR : ∀ (xs : List R), (∀ y ∈ xs, ∃ c, y = byR c) → ∃ b, xs = bys b
  | [], _ => ⟨[], rfl⟩
  | x :: xs, h => by
    obtain ⟨c, rfl⟩ := h x (List.mem_cons_self ..)
    obtain ⟨b, rfl⟩ := list_byR xs fun y hy => h y (List.mem_cons_of_mem _ hy)
    exact ⟨c :: b, rfl⟩
theorem okc_bys {x : R} (h : OkC (.sl 1 false [.int .u8]) x) : ∃ b, x = .sl 1 .any (bys b) := by
  rw [OkC] at h
  obtain ⟨xs, rfl, -, h⟩ := h
  obtain ⟨b, rfl⟩ := list_byR xs fun y hy => by
    obtain ⟨cs, h1, -, h3⟩ := h y hy
    simp only at h3
    subst h3
    rw [OkCs] at h1
    obtain ⟨r, rt, hr, h1, -⟩ := h1
    cases hr
    exact okc_byte h1
  exact ⟨b, rfl⟩
theorem list_lst : ∀ (xs : List R), (∀ y ∈ xs, ∃ b, y = .sl 1 .any (bys b)) → ∃ l, xs = lst l
  | [], _ => ⟨[], rfl⟩
  | x :: xs, h => by
    obtain ⟨c, rfl⟩ := h x (List.mem_cons_self ..)
    obtain ⟨b, rfl⟩ := list_lst xs fun y hy => h y (List.mem_cons_of_mem _ hy)
    exact ⟨c :: b, rfl⟩
theorem okc_lst {x : R} (h : OkC (.sl 1 false [.sl 1 false [.int .u8]]) x) : ∃ l, x = .sl 1 .any (lst l) := by
  rw [OkC] at h
  obtain ⟨xs, rfl, -, h⟩ := h
  obtain ⟨b, rfl⟩ := list_lst xs fun y hy => by
    obtain ⟨cs, h1, -, h3⟩ := h y hy
    simp only at h3
    subst h3
    rw [OkCs] at h1
    obtain ⟨r, rt, hr, h1, -⟩ := h1
    cases hr
    exact okc_bys h1
  exact ⟨b, rfl⟩
theorem bk_bys (b : List UInt8) : R.bkL (bys b) = b.length := by
  induction b with
  | nil => rfl
  | cons c b ih =>
    have e : bys (c :: b) = .int .u8 (c.toNat : Int) :: bys b := rfl
    rw [e, R.bkL, ih, R.bk, List.length_cons]
    · omega
    · intro _ _ _ h; cases h
theorem bk_lst (l : List (List UInt8)) : R.bkL (lst l) = sumL l := by
  induction l with
  | nil => rfl
  | cons x l ih =>
    have e : lst (x :: l) = .sl 1 .any (bys x) :: lst l := rfl
    have e1 : sumL (x :: l) = x.length + 1 + sumL l := by simp [sumL]
    rw [e, R.bkL, ih, R.bk, bk_bys, e1]
end Go.PV
