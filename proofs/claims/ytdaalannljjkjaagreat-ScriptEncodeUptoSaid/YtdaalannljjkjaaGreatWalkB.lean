/- The significant bytes of a 256-bit number: pontageref6.digits. -/
import Derived.Test.YtdaalannljjkjaaGreatWalkA
open Go Go.PV
namespace Go.PV
set_option maxRecDepth 100000
set_option linter.unusedSimpArgs false

def strip (l : List UInt8) : List UInt8 := l.dropWhile (· == 0)
theorem strip_snoc (l : List UInt8) (x : UInt8) : strip (l ++ [x]) = if strip l = [] ∧ x = 0 then [] else strip l ++ [x] := by
  induction l with
  | nil => by_cases hx : x = 0 <;> simp [strip, hx]
  | cons a l ih =>
    by_cases ha : a = 0
    · subst ha
      have e1 : ∀ m, strip (0 :: m) = strip m := fun m => by simp [strip]
      rw [List.cons_append, e1, e1, ih]
    · simp [strip, ha]

theorem l125 {T : List Ent} (cs : List R) (out : List UInt8) (i v z : Nat) (hv : cs[i / 8]? = some (.int .u64 v)) (hi : i < 32) (ho : out.length ≤ 40) (hz : v / 2 ^ (8 * (i % 8)) % 256 = z) :
    ∃ s1, execS (callW F T) loopW 0 c125_l0 ⟨[(1, .ptr 0 0 0), (3, .sl 1 1 0 out.length), (4, .r (.int .i64 i))], [.rows 4 [.agg cs], .rows 1 (bys out)]⟩ = some (.normal, s1) ∧
      canonS 0 [false, true, false, true, true] s1 = some (if out = [] ∧ z = 0 then ⟨[(1, .ptr 0 0 0), (3, .sl 1 1 0 0), (4, .r (.int .i64 ((i : Int) - 1)))], [.rows 4 [.agg cs], .rows 1 []]⟩
        else ⟨[(1, .ptr 0 0 0), (3, .sl 1 1 0 (out.length + 1)), (4, .r (.int .i64 ((i : Int) - 1)))], [.rows 4 [.agg cs], .rows 1 (bys (out ++ [UInt8.ofNat z]))]⟩) := by
  have e1 : (i : Int).tdiv 8 = ((i / 8 : Nat) : Int) := by rw [Int.tdiv_eq_ediv_of_nonneg (by omega)]; omega
  have e2 : (i : Int).tmod 8 = ((i % 8 : Nat) : Int) := by rw [Int.tmod_eq_emod_of_nonneg (by omega)]; omega
  have h4 : ((i / 8 : Nat) : Int) < 4 := by omega
  have e3 : wrapK .i64 ((i / 8 : Nat) : Int) = ((i / 8 : Nat) : Int) := w64 (by omega) (by omega)
  have e4 : wrapK .i64 (8 * ((i % 8 : Nat) : Int)) = ((8 * (i % 8) : Nat) : Int) := by rw [w64 (by omega) (by omega)]; simp
  have e7 : wrapK .u64 ((8 * (i % 8) : Nat) : Int) = ((8 * (i % 8) : Nat) : Int) := by simp only [wrapK]; omega
  have e5 : wrapK .i64 ((i : Int) - 1) = (i : Int) - 1 := w64 (by omega) (by omega)
  have e6 := byte_shift v (8 * (i % 8)) (by omega)
  generalize hq : i / 8 = q at *
  generalize hr : 8 * (i % 8) = r at *
  generalize hr2 : i % 8 = r2 at *
  have hz2 : z < 256 := by rw [← hz]; exact Nat.mod_lt _ (by decide)
  rw [hz] at e6
  rw [bys_snoc _ _ hz2]
  have happ := app_byte [.rows 4 [.agg cs]] 1 rfl out (.int .u8 z) (by omega)
  simp only [List.cons_append, List.nil_append] at happ
  by_cases h1 : out = []
  · subst h1
    by_cases h2 : z = 0
    · subst h2
      simp [c125_l0, e1, e2, e3, e4, e5, e6, e7, h4, loadH, hv, show ¬ ((r : Int) < 0) from by omega, bys]
    · have h3 : 0 < z := by omega
      simp [bys] at happ
      simp [c125_l0, e1, e2, e3, e4, e5, e6, e7, h4, loadH, hv, show ¬ ((r : Int) < 0) from by omega, h2, h3, bslN, happ, bys]
  · have h3 : (0 : Int) < out.length := by have := List.length_pos_iff.2 h1; omega
    have h5 : 0 < out.length := by omega
    simp [c125_l0, e1, e2, e3, e4, e5, e6, e7, h4, loadH, hv, show ¬ ((r : Int) < 0) from by omega, h1, h3, h5, bslN, happ]

theorem w125 {T : List Ent} (h125 : (T.all fun e => e.f != 125) = true) (a b c d : Nat) (ha : a < 2 ^ 64) (hb : b < 2 ^ 64) (hc : c < 2 ^ 64) (_hd : d < 2 ^ 64) :
    callW F T 125 [.r (limbs a b c d)] [] = some (.sl 1 0 0 (strip (beB 32 (val4 a b c d))).length, [.rows 1 (bys (strip (beB 32 (val4 a b c d))))]) := by
  rw [callW_of h125 (A := c125) rfl]
  have hbyte : ∀ (i v : Nat), i < 32 → [a, b, c, d][i / 8]? = some v → v / 2 ^ (8 * (i % 8)) % 256 = val4 a b c d / 256 ^ i % 256 := fun i v hi hv => val4_byte ha hb hc i v hi hv
  generalize hNe : val4 a b c d = N at *
  have hex : ∃ s', execS (callW F T) loopW 0 c125_l0 ⟨[(1, .ptr 0 0 0), (3, .sl 1 1 0 (strip (beB 32 N)).length), (4, .r (.int .i64 (-1)))], [.rows 4 [limbs a b c d], .rows 1 (bys (strip (beB 32 N)))]⟩ = some (.exit 0, s') ∧
      s'.h = [.rows 4 [limbs a b c d], .rows 1 (bys (strip (beB 32 N)))] ∧ get s'.fr 3 = .sl 1 1 0 (strip (beB 32 N)).length := by simp [c125_l0]
  obtain ⟨⟨fr', h'⟩, hx, hxh, hx3⟩ := hex
  simp only at hxh hx3
  subst hxh
  have hlen : ∀ j, (strip ((beB 32 N).take j)).length ≤ 32 := fun j => by
    have h1 : (strip ((beB 32 N).take j)).length ≤ ((beB 32 N).take j).length := (List.dropWhile_suffix _).length_le
    have := beB_len 32 N
    simp at h1; omega
  have key := loop_rounds (d := execS (callW F T) loopW 0 c125_l0) (hd := canonS 0 [false, true, false, true, true])
    (fun j => ⟨[(1, .ptr 0 0 0), (3, .sl 1 1 0 (strip ((beB 32 N).take j)).length), (4, .r (.int .i64 (31 - (j : Int))))], [.rows 4 [limbs a b c d], .rows 1 (bys (strip ((beB 32 N).take j)))]⟩) 32 _ (.exit 0)
    (fun j hj => by
      obtain ⟨v, hv⟩ : ∃ v, [a, b, c, d][(31 - j) / 8]? = some v := ⟨_, List.getElem?_eq_getElem (by simp; omega)⟩
      have hcs : [R.int .u64 a, .int .u64 b, .int .u64 c, .int .u64 d][(31 - j) / 8]? = some (.int .u64 v) := by
        have := congrArg (Option.map fun n : Nat => R.int .u64 (n : Int)) hv
        rw [← List.getElem?_map] at this
        exact this
      obtain ⟨s1, h1, h2⟩ := l125 (T := T) [R.int .u64 a, .int .u64 b, .int .u64 c, .int .u64 d] (strip ((beB 32 N).take j)) (31 - j) v _ hcs (by omega) (by have := hlen j; omega) rfl
      rw [show (((31 - j : Nat)) : Int) = 31 - j by omega] at h1 h2
      refine ⟨s1, h1, ?_⟩
      rw [h2, hbyte _ v (by omega) hv, List.take_add_one, beB_get _ _ _ (by omega), show 32 - 1 - j = 31 - j by omega]
      have hz : N / 256 ^ (31 - j) % 256 < 256 := Nat.mod_lt _ (by decide)
      generalize N / 256 ^ (31 - j) % 256 = z at *
      simp only [Option.toList_some]
      rw [strip_snoc]
      have h0 : (UInt8.ofNat z = 0) ↔ z = 0 := by
        constructor
        · intro h
          have := congrArg UInt8.toNat h
          simp at this; omega
        · intro h; subst h; rfl
      simp only [h0]
      split
      · simp [limbs, bys]
        omega
      · simp [limbs]
        omega)
    (by
      have e : (31 : Int) - ((32 : Nat) : Int) = -1 := by decide
      simp only [e]
      rw [List.take_of_length_le (by rw [beB_len]; exact Nat.le_refl _)]
      exact hx) (by simp)
  simp [c125, limbs]
  rw [key]
  · simp [hx3]
  · simp [strip, bys, limbs]
end Go.PV

/- The reference's encodings: pontageref6.AppendUint256, AppendUint64, AppendBytes. -/
open Go Go.PV
namespace Go.PV
set_option maxRecDepth 100000
set_option linter.unusedSimpArgs false

theorem beB_pad (k m n : Nat) (h : n < 256 ^ k) : beB (k + m) n = List.replicate m 0 ++ beB k n := by
  induction m with
  | zero => simp
  | succ m ih =>
    rw [show k + (m + 1) = (k + m) + 1 by omega, beB, ih, List.replicate_succ]
    have : n / 256 ^ (k + m) = 0 := Nat.div_eq_of_lt (Nat.lt_of_lt_of_le h (Nat.pow_le_pow_right (by decide) (by omega)))
    rw [this]; rfl
theorem strip_zeros (m : Nat) (l : List UInt8) : strip (List.replicate m 0 ++ l) = strip l := by
  induction m with
  | zero => rfl
  | succ m ih =>
    have e1 : ∀ m, strip (0 :: m) = strip m := fun m => by simp [strip]
    rw [List.replicate_succ, List.cons_append, e1, ih]
theorem strip_beB (k n : Nat) (h : n < 256 ^ k) (h0 : k = 0 ∨ 256 ^ (k - 1) ≤ n) : strip (beB k n) = beB k n := by
  cases k with
  | zero => rfl
  | succ k =>
    have h1 : 256 ^ k ≤ n := by simpa using h0
    have h2 : n / 256 ^ k % 256 ≠ 0 := by
      have a : 1 ≤ n / 256 ^ k := (Nat.le_div_iff_mul_le (Nat.pow_pos (by decide))).2 (by omega)
      have b : n / 256 ^ k < 256 := (Nat.div_lt_iff_lt_mul (Nat.pow_pos (by decide))).2 (by rw [Nat.mul_comm, ← Nat.pow_succ]; exact h)
      omega
    have h3 : UInt8.ofNat (n / 256 ^ k % 256) ≠ 0 := by
      intro h
      have := congrArg UInt8.toNat h
      simp at this; omega
    simp only [beB, strip]
    rw [List.dropWhile_cons, if_neg (by simpa using h3)]
theorem nb_spec (n : Nat) : n < 256 ^ nb n ∧ (nb n = 0 ∨ 256 ^ (nb n - 1) ≤ n) := by
  have e : ∀ k, (256 : Nat) ^ k = 2 ^ (8 * k) := fun k => by rw [show (256 : Nat) = 2 ^ 8 from rfl, ← Nat.pow_mul]
  rw [e, e]
  constructor
  · exact Nat.lt_of_lt_of_le (bitLen_lt n) (Nat.pow_le_pow_right (by decide) (by simp only [nb]; omega))
  · rcases Nat.eq_zero_or_pos n with rfl | hp
    · left; rfl
    · right
      have := bitLen_pos hp
      exact Nat.le_trans (Nat.pow_le_pow_right (by decide) (by simp only [nb]; omega)) (bitLen_le hp)
theorem strip_sig (n : Nat) (h : n < 2 ^ 256) : strip (beB 32 n) = beB (nb n) n := by
  have hk : nb n ≤ 32 := nb_le h
  obtain ⟨h1, h2⟩ := nb_spec n
  rw [show (32 : Nat) = nb n + (32 - nb n) by omega, beB_pad _ _ _ h1, strip_zeros, strip_beB _ _ h1 h2]

theorem encN_eq (n : Nat) (h : n < 2 ^ 256) : encN n = UInt8.ofNat (strip (beB 32 n)).length :: strip (beB 32 n) := by
  rw [strip_sig n h, beB_len]; rfl

section
variable {T : List Ent}
theorem d125 (h125 : (T.all fun e => e.f != 125) = true) (a b c d : Nat) (ha : a < 2 ^ 64) (hb : b < 2 ^ 64) (hc : c < 2 ^ 64) (hd : d < 2 ^ 64) (h : Heap) :
    doCallU (callW F T) 125 [.r (.agg [.int .u64 a, .int .u64 b, .int .u64 c, .int .u64 d])] h = some (.sl 1 h.length 0 (nb (val4 a b c d)), h ++ [.rows 1 (bys (beB (nb (val4 a b c d)) (val4 a b c d)))]) := by
  have h1 := w125 h125 a b c d ha hb hc hd
  rw [limbs, strip_sig _ (val4_lt ha hb hc hd), beB_len] at h1
  rw [call_pure (by simp) (by simp) h1]; simp

theorem w82 (h82 : (T.all fun e => e.f != 82) = true) (h125 : (T.all fun e => e.f != 125) = true) (bs : List UInt8) (hbs : bs.length ≤ 2 ^ 40) (a b c d : Nat) (ha : a < 2 ^ 64) (hb : b < 2 ^ 64) (hc : c < 2 ^ 64) (hd : d < 2 ^ 64) :
    callW F T 82 [.sl 1 0 0 bs.length, .r (.agg [.int .u64 a, .int .u64 b, .int .u64 c, .int .u64 d])] [.rows 1 (bys bs)] =
      some (.sl 1 1 0 (bs ++ encN (val4 a b c d)).length, [.rows 1 (bys bs), .rows 1 (bys (bs ++ encN (val4 a b c d)))]) := by
  rw [callW_of h82 (A := c82) rfl]
  have e125 := d125 h125 a b c d ha hb hc hd
  have hk : nb (val4 a b c d) ≤ 32 := nb_le (val4_lt ha hb hc hd)
  generalize val4 a b c d = N at *
  generalize hcs : R.agg [R.int .u64 a, .int .u64 b, .int .u64 c, .int .u64 d] = cs at *
  have hcl : cs.cells.length = 4 := by subst hcs; rfl
  have e1 : wrapK .u8 (nb N : Int) = (nb N : Int) := by simp only [wrapK]; omega
  have hbl := beB_len (nb N) N
  have henc : encN N = [UInt8.ofNat (nb N)] ++ beB (nb N) N := rfl
  rw [henc]
  generalize beB (nb N) N = D at *
  have hkb := bys_snoc bs (nb N) (by omega)
  have a1 := app_end (h := [.rows 1 (bys bs), .rows 4 [cs], .rows 1 (bys D), .rows 1 []]) (sz := 1) (eb := 1) (b := 3) (k := 0) (n := 0) (m := bs.length) (els := []) (ys := bys bs) (x := .sl 1 0 0 bs.length) rfl rfl rfl rfl (bys_len _) (elems_whole rfl (bys_len _)) (by omega)
  have a2 := app_end (h := [.rows 1 (bys bs), .rows 4 [cs], .rows 1 (bys D), .dead, .rows 1 (bys bs), .rows 1 [.int .u8 (nb N)]]) (sz := 1) (eb := 1) (b := 4) (k := 0) (n := bs.length) (m := 1) (els := bys bs) (ys := [.int .u8 (nb N)]) (x := .sl 1 5 0 1) rfl (by simp [bys_len]) rfl rfl rfl (elems_whole rfl rfl) (by omega)
  have a3 := app_end (h := [.rows 1 (bys bs), .rows 4 [cs], .rows 1 (bys D), .dead, .dead, .rows 1 [.int .u8 (nb N)], .rows 1 (bys (bs ++ [UInt8.ofNat (nb N)]))]) (sz := 1) (eb := 1) (b := 6) (k := 0) (n := bs.length + 1) (m := nb N) (els := bys (bs ++ [UInt8.ofNat (nb N)])) (ys := bys D) (x := .sl 1 2 0 (nb N)) rfl (by simp [bys_len]) rfl rfl (by rw [bys_len, hbl]) (elems_whole rfl (by rw [bys_len, hbl])) (by omega)
  simp at a1 a2 a3
  rw [← hkb] at a2
  have hpart : partR true 4 cs.cells 0 = some cs := by subst hcs; rfl
  rw [← List.append_assoc, bys_append]
  simp [c82, hcl, loadH, hpart, e125, bslN, e1, a1, a2, a3, hbl]
  omega

theorem w52 (hT : offT T [52, 82, 125] = true) (bs : List UInt8) (hbs : bs.length ≤ 2 ^ 40) (v : Nat) (hv : v < 2 ^ 64) :
    callW F T 52 [.sl 1 0 0 bs.length, .r (.int .u64 v)] [.rows 1 (bys bs)] = some (.sl 1 1 0 (bs ++ encN v).length, [.rows 1 (bys bs), .rows 1 (bys (bs ++ encN v))]) := by
  rw [callW_of (offT_mem hT (by simp)) (A := c52) rfl]
  have h82 : callW F T 82 [.sl 1 0 0 bs.length, .r (.agg [.int .u64 (v : Int), .int .u64 0, .int .u64 0, .int .u64 0])] [.rows 1 (bys bs)] = some (.sl 1 1 0 (bs ++ encN (val4 v 0 0 0)).length, [.rows 1 (bys bs), .rows 1 (bys (bs ++ encN (val4 v 0 0 0)))]) :=
    w82 (offT_mem hT (by simp)) (offT_mem hT (by simp)) bs hbs v 0 0 0 hv (by omega) (by omega) (by omega)
  rw [show val4 v 0 0 0 = v by simp [val4]] at h82
  generalize bs ++ encN v = R at *
  simp [c52, doCallU_eq2, h82]

theorem w24 (hT : offT T [24, 52, 82, 125] = true) (bs : List UInt8) (hbs : bs.length ≤ 2 ^ 39) (kd : SK) (x : List UInt8) (hx : x.length ≤ 2 ^ 39) :
    callW F T 24 [.sl 1 0 0 bs.length, .r (.sl 1 kd (bys x))] [.rows 1 (bys bs)] = some (.sl 1 1 0 (bs ++ encB x).length, [.rows 1 (bys bs), .rows 1 (bys (bs ++ encB x))]) := by
  rw [callW_of (offT_mem hT (by simp)) (A := c24) rfl]
  have e1 : wrapK .u64 (x.length : Int) = x.length := by simp only [wrapK]; omega
  have h52 := w52 (T := T) (by simp only [offT, List.all_cons, Bool.and_eq_true] at hT ⊢; exact hT.2) bs (by omega) x.length (by omega)
  have hel := encN_len x.length
  have hnb : nb x.length ≤ 8 := nb_le (by omega)
  have hlen : (bs ++ encN x.length).length ≤ 2 ^ 40 := by simp; omega
  rw [encB, ← List.append_assoc]
  generalize bs ++ encN x.length = R at *
  have ha := app_end (h := [.rows 1 (bys bs), .rows 1 (bys R)]) (sz := 1) (eb := 1) (b := 1) (k := 0) (n := R.length) (m := x.length) (els := bys R) (ys := bys x) (x := .r (.sl 1 kd (bys x))) rfl (by simp [bys_len]) rfl (by simp [lenV, bys_len]) (bys_len _) rfl (by omega)
  simp at ha
  simp [c24, bys_len, e1, doCallU_eq2, h52, ha, bys_append]
end
end Go.PV

/- The law's encoding: pontagelaw29.encode. -/
open Go Go.PV
namespace Go.PV
set_option maxRecDepth 100000
set_option linter.unusedSimpArgs false

theorem encB_len {x : List UInt8} (h : x.length ≤ 2 ^ 38) : (encB x).length ≤ x.length + 9 := by
  have := encN_len x.length
  have : nb x.length ≤ 8 := nb_le (by omega)
  simp [encB]; omega

theorem l8 {T : List Ent} (hT : offT T [24, 52, 82, 125] = true) (kd : SK) (l : List (List UInt8)) (j : Nat) (x : List UInt8) (hx : l[j]? = some x) (out : List UInt8) (hj : j < 2 ^ 40) (hl : x.length ≤ 2 ^ 38) (ho : out.length ≤ 2 ^ 39) :
    ∃ s1, execS (callW F T) loopW 0 c8_l0 ⟨[(0, .r (.sl 1 kd (lst l))), (3, .sl 1 0 0 out.length), (4, .r (.int .i64 j))], [.rows 1 (bys out)]⟩ = some (.normal, s1) ∧
      canonS 0 [true, false, false, true, true] s1 = some ⟨[(0, .r (.sl 1 kd (lst l))), (3, .sl 1 0 0 (out ++ encB x).length), (4, .r (.int .i64 ((j : Int) + 1)))], [.rows 1 (bys (out ++ encB x))]⟩ := by
  have hjl : j < l.length := (List.getElem?_eq_some_iff.1 hx).1
  have e1 : wrapK .i64 ((j : Int) + 1) = (j : Int) + 1 := w64 (by omega) (by omega)
  have e2 := ixs_r (sz := 1) (kd := kd) (kk := .i64) (i := (j : Int)) (Int.natCast_nonneg j) (by simpa using lst_get hx)
  have h24 := w24 hT out ho .any x (by omega)
  generalize out ++ encB x = R at *
  simp at e2
  simp [c8_l0, lst_len, hjl, e1, e2, doCallU_eq2, h24]

theorem w8 {T : List Ent} (hT : offT T [24, 52, 82, 125] = true) (h8 : (T.all fun e => e.f != 8) = true) (kd : SK) (l : List (List UInt8)) (hl : l.length < 2 ^ 38) (hb : (encL l).length ≤ 2 ^ 38) :
    callW F T 8 [.r (.sl 1 kd (lst l))] [] = some (.sl 1 0 0 (encL l).length, [.rows 1 (bys (encL l))]) := by
  rw [callW_of h8 (A := c8) rfl]
  have hex : ∃ s', execS (callW F T) loopW 0 c8_l0 ⟨[(0, .r (.sl 1 kd (lst l))), (3, .sl 1 0 0 (encL l).length), (4, .r (.int .i64 l.length))], [.rows 1 (bys (encL l))]⟩ = some (.exit 0, s') ∧
      s'.h = [.rows 1 (bys (encL l))] ∧ get s'.fr 3 = .sl 1 0 0 (encL l).length := by simp [c8_l0, lst_len]
  obtain ⟨⟨fr', h'⟩, hx, hxh, hx3⟩ := hex
  simp only at hxh hx3
  subst hxh
  have key := loop_rounds (d := execS (callW F T) loopW 0 c8_l0) (hd := canonS 0 [true, false, false, true, true])
    (fun j => ⟨[(0, .r (.sl 1 kd (lst l))), (3, .sl 1 0 0 (encL (l.take j)).length), (4, .r (.int .i64 j))], [.rows 1 (bys (encL (l.take j)))]⟩) l.length _ (.exit 0)
    (fun j hj => by
      obtain ⟨x, hx⟩ : ∃ x, l[j]? = some x := ⟨_, List.getElem?_eq_getElem hj⟩
      have h1 := encL_take_len l j
      have h2 : x.length ≤ 2 ^ 38 := by
        have h3 := encL_take_len l (j + 1)
        rw [encL_take hx] at h3
        simp [encB] at h3; omega
      have := l8 hT kd l j x hx (encL (l.take j)) (by omega) h2 (by omega)
      rw [← encL_take hx] at this
      simpa using this)
    (by simp only [List.take_length]; exact hx) (by simp)
  simp [c8]
  rw [key]
  · simp [hx3]
  · simp [encL, bys]

/-- the length that tooLarge sums -/
def sumL (l : List (List UInt8)) : Nat := (l.map fun x => x.length + 1).sum
theorem sumL_take {l : List (List UInt8)} {j : Nat} {x : List UInt8} (h : l[j]? = some x) : sumL (l.take (j + 1)) = sumL (l.take j) + (x.length + 1) := by
  simp [sumL, List.take_add_one, h]
theorem sumL_take_le (l : List (List UInt8)) (j : Nat) : sumL (l.take j) ≤ sumL l := by
  have : sumL l = sumL (l.take j) + sumL (l.drop j) := by
    rw [sumL, sumL, sumL, ← List.sum_append, ← List.map_append, List.take_append_drop]
  omega

theorem w6 {T : List Ent} (h6 : (T.all fun e => e.f != 6) = true) (kd : SK) (l : List (List UInt8)) (hl : l.length < 2 ^ 38) (hb : sumL l ≤ 2 ^ 38) :
    callW F T 6 [.r (.sl 1 kd (lst l))] [] = some (.r (.bool (decide (3000 < sumL l))), []) := by
  rw [callW_of h6 (A := c6) rfl]
  have hex : ∃ s', execS (callW F T) loopW 0 c6_l0 ⟨[(0, .r (.sl 1 kd (lst l))), (3, .r (.int .i64 (sumL l))), (4, .r (.int .i64 l.length))], []⟩ = some (.exit 0, s') ∧
      s'.h = [] ∧ get s'.fr 3 = .r (.int .i64 (sumL l)) := by simp [c6_l0, lst_len]
  obtain ⟨⟨fr', h'⟩, hx, hxh, hx3⟩ := hex
  simp only at hxh hx3
  subst hxh
  have key := loop_rounds (d := execS (callW F T) loopW 0 c6_l0) (hd := canonS 0 [true, false, false, true, true])
    (fun j => ⟨[(0, .r (.sl 1 kd (lst l))), (3, .r (.int .i64 (sumL (l.take j)))), (4, .r (.int .i64 j))], []⟩) l.length _ (.exit 0)
    (fun j hj => by
      obtain ⟨x, hx⟩ : ∃ x, l[j]? = some x := ⟨_, List.getElem?_eq_getElem hj⟩
      have h1 := sumL_take_le l (j + 1)
      rw [sumL_take hx] at h1
      have e1 : wrapK .i64 ((j : Int) + 1) = (j : Int) + 1 := w64 (by omega) (by omega)
      have e3 : wrapK .i64 ((sumL (l.take j) : Int) + (x.length : Int)) = (sumL (l.take j) : Int) + (x.length : Int) := w64 (by omega) (by omega)
      have e4 : wrapK .i64 ((sumL (l.take j) : Int) + (x.length : Int) + 1) = (sumL (l.take j) : Int) + (x.length : Int) + 1 := w64 (by omega) (by omega)
      have e2 := ixs_r (sz := 1) (kd := kd) (kk := .i64) (i := (j : Int)) (Int.natCast_nonneg j) (by simpa using lst_get hx)
      simp only [sumL_take hx]
      generalize sumL (l.take j) = S at *
      simp at e2
      simp [c6_l0, lst_len, hj, e1, e2, bys_len, e3, e4]
      omega)
    (by simp only [List.take_length]; exact hx) (by simp)
  simp [c6]
  rw [key]
  · simp [hx3]; omega
  · simp [sumL]
end Go.PV

/- The reading of a number: wire.readUint, wire.ReadUint64, of at most 8 bytes. -/
open Go Go.PV
namespace Go.PV
set_option maxRecDepth 100000
set_option linter.unusedSimpArgs false

def beV (l : List UInt8) : Nat := l.foldl (fun a c => a * 256 + c.toNat) 0
theorem beV_snoc (l : List UInt8) (c : UInt8) : beV (l ++ [c]) = beV l * 256 + c.toNat := by simp [beV]
theorem beV_aux (l : List UInt8) : ∀ a, l.foldl (fun a c => a * 256 + c.toNat) a < (a + 1) * 256 ^ l.length := by
  induction l with
  | nil => intro a; simp
  | cons c t ih =>
    intro a
    have h := ih (a * 256 + c.toNat)
    have hc := c.toNat_lt
    rw [List.foldl_cons, List.length_cons, Nat.pow_succ, Nat.mul_comm (256 ^ t.length), ← Nat.mul_assoc]
    exact Nat.lt_of_lt_of_le h (Nat.mul_le_mul_right _ (by omega))
theorem beV_lt (l : List UInt8) : beV l < 256 ^ l.length := by
  have := beV_aux l 0
  simpa [beV] using this

theorem or_shift (a c m : Nat) (hc : c < 256) (h : a * 256 ^ (m + 1) + c * 256 ^ m < 2 ^ 64) : orI .u64 ((a * 256 ^ (m + 1) : Nat) : Int) ((c * 256 ^ m : Nat) : Int) = (((a * 256 + c) * 256 ^ m : Nat) : Int) := by
  have e : ∀ k, (256 : Nat) ^ k = 2 ^ (8 * k) := fun k => by rw [show (256 : Nat) = 2 ^ 8 from rfl, ← Nat.pow_mul]
  have h1 : natK .u64 ((a * 256 ^ (m + 1) : Nat) : Int) = a * 256 ^ (m + 1) := by
    show (((a * 256 ^ (m + 1) : Nat) : Int) % 2 ^ 64).toNat = _
    omega
  have h2 : natK .u64 ((c * 256 ^ m : Nat) : Int) = c * 256 ^ m := by
    show (((c * 256 ^ m : Nat) : Int) % 2 ^ 64).toNat = _
    omega
  have h3 : a * 256 ^ (m + 1) ||| c * 256 ^ m = a * 256 ^ (m + 1) + c * 256 ^ m := by
    rw [e (m + 1), ← Nat.shiftLeft_eq, Nat.shiftLeft_add_eq_or_of_lt]
    rw [← e, Nat.pow_succ, Nat.mul_comm]
    exact Nat.mul_lt_mul_of_pos_left hc (Nat.pow_pos (by decide))
  have h4 : (a * 256 + c) * 256 ^ m = a * 256 ^ (m + 1) + c * 256 ^ m := by
    rw [Nat.add_mul, Nat.pow_succ, Nat.mul_assoc, Nat.mul_comm 256]
  rw [orI, h1, h2, h3, h4]
  simp only [wrapK]; omega

abbrev z4 (v : Int) : R := .agg [.int .u64 v, .int .u64 0, .int .u64 0, .int .u64 0]

theorem l126 {T : List Ent} (r : List UInt8) (pos N i : Nat) (c : UInt8) (hc : r[i]? = some c) (a : Nat) (hN : N ≤ 8) (hi : i < N) (ha : a < 256 ^ i) :
    ∃ s1, execS (callW F T) loopW 0 c126_l0 ⟨[(1, .r (.int .i64 pos)), (6, .ptr 0 0 0), (9, .r (.sl 1 .any (bys r))), (10, .r (.int .i64 N)), (11, .ptr 1 0 0), (56, .r (.int .i64 N)), (57, .r (.int .i64 i))], [.rows 4 [z4 0], .rows 4 [z4 ((a * 256 ^ (N - i) : Nat) : Int)]]⟩ = some (.normal, s1) ∧
      canonS 0 [false, true, false, false, false, false, true, false, false, true, true, true, false, false, false, false, false, false, false, false, false, false, false, false, false, false, false, false, false, false, false, false, false, false, false, false, false, false, false, false, false, false, false, false, false, false, false, false, false, false, false, false, false, false, false, false, true, true] s1 =
        some ⟨[(1, .r (.int .i64 pos)), (6, .ptr 0 0 0), (9, .r (.sl 1 .any (bys r))), (10, .r (.int .i64 N)), (11, .ptr 1 0 0), (56, .r (.int .i64 N)), (57, .r (.int .i64 ((i : Int) + 1)))], [.rows 4 [z4 0], .rows 4 [z4 (((a * 256 + c.toNat) * 256 ^ (N - (i + 1)) : Nat) : Int)]]⟩ := by
  obtain ⟨m, rfl⟩ : ∃ m, N = i + 1 + m := ⟨N - (i + 1), by omega⟩
  have hcl := c.toNat_lt
  have hbig : a * 256 ^ (m + 1) + c.toNat * 256 ^ m < 2 ^ 64 := by
    have h1 : (a + 1) * 256 ^ (m + 1) ≤ 256 ^ i * 256 ^ (m + 1) := Nat.mul_le_mul_right _ (by omega)
    have h2 : c.toNat * 256 ^ m < 256 ^ (m + 1) := by
      rw [Nat.pow_succ, Nat.mul_comm]
      exact Nat.mul_lt_mul_of_pos_left hcl (Nat.pow_pos (by decide))
    have h3 : (256 : Nat) ^ i * 256 ^ (m + 1) ≤ 256 ^ 8 := by
      rw [← Nat.pow_add]; exact Nat.pow_le_pow_right (by decide) (by omega)
    have h4 : (256 : Nat) ^ 8 = 2 ^ 64 := by decide
    rw [Nat.add_mul] at h1
    omega
  have hor := or_shift a c.toNat m hcl hbig
  have e1 : wrapK .i64 ((i : Int) + 1) = (i : Int) + 1 := w64 (by omega) (by omega)
  have e2 := ixs_r (sz := 1) (kd := .any) (kk := .i64) (i := (i : Int)) (xs := bys r) (x := byR c) (Int.natCast_nonneg i) (by simp [bys, hc])
  have e3 : wrapK .i64 ((((i + 1 + m : Nat)) : Int) - 1) = (i : Int) + m := by rw [w64 (by omega) (by omega)]; omega
  have e4 : wrapK .i64 ((i : Int) + m - i) = m := by rw [w64 (by omega) (by omega)]; omega
  have e5 : wrapK .i64 ((m : Int).tdiv 8) = 0 := by
    have : m < 8 := by omega
    rw [Int.tdiv_eq_ediv_of_nonneg (by omega), show (m : Int) / 8 = 0 by omega]; rfl
  have e6 : (m : Int).tmod 8 = m := by
    rw [Int.tmod_eq_emod_of_nonneg (by omega)]; omega
  have e5' : wrapK .i64 ((m : Int) / 8) = 0 := by
    have : m < 8 := by omega
    rw [show (m : Int) / 8 = 0 by omega]; rfl
  have e6' : (m : Int) % 8 = m := by omega
  have e7 : wrapK .i64 (8 * (m : Int)) = 8 * m := by rw [w64 (by omega) (by omega)]
  have e8 : wrapK .u64 (c.toNat : Int) = c.toNat := by simp only [wrapK]; omega
  have e9 : shlI .u64 (c.toNat : Int) (8 * (m : Int)) = ((c.toNat * 256 ^ m : Nat) : Int) := by
    have e : (256 : Nat) ^ m = 2 ^ (8 * m) := by rw [show (256 : Nat) = 2 ^ 8 from rfl, ← Nat.pow_mul]
    have hb : bitsK .u64 = 64 := rfl
    rw [shlI, hb, show (8 * (m : Int)).toNat = 8 * m by omega, Nat.min_eq_left (by omega), ← e, ← Int.natCast_mul]
    have : c.toNat * 256 ^ m < 2 ^ 64 := by omega
    simp only [wrapK]; omega
  have hm0 : ¬ (8 * (m : Int) < 0) := by omega
  rw [show i + 1 + m - i = m + 1 by omega, show i + 1 + m - (i + 1) = m by omega]
  have hil : (i : Int) < ((i + 1 + m : Nat) : Int) := by omega
  generalize hNN : ((i + 1 + m : Nat) : Int) = NN at *
  generalize ((a * 256 ^ (m + 1) : Nat) : Int) = A1 at *
  generalize (((a * 256 + c.toNat) * 256 ^ m : Nat) : Int) = A2 at *
  generalize ((c.toNat * 256 ^ m : Nat) : Int) = A3 at *
  simp [byR] at e2
  simp [c126_l0, z4, loadH, storeH, setEl, hil, e1, e2, e3, e4, e5, e6, e5', e6', e7, e8, e9, hor, hm0]

theorem slsl_lo {D : List UInt8} {pos : Nat} (h : pos ≤ D.length) : slslV 1 true false false [.r (.sl 1 .any (bys D)), .r (.int .i64 pos)] = some (.r (.sl 1 .any (bys (D.drop pos)))) := by
  simp [slslV, bounds, natOf, bys_len, h, slKind, bys, List.map_drop]
  rw [List.take_of_length_le (by simp)]
theorem slsl_lohi {D : List UInt8} {a b : Nat} (h : a ≤ b) (h2 : b ≤ D.length) : slslV 1 true true false [.r (.sl 1 .any (bys D)), .r (.int .i64 a), .r (.int .i64 b)] = some (.r (.sl 1 .any (bys ((D.drop a).take (b - a))))) := by
  simp [slslV, bounds, natOf, bys_len, h, h2, slKind, bys, List.map_drop, List.map_take]

/-- A number, read at the head of some bytes: the value, the number of bytes. -/
def rdU (l : List UInt8) : Option (Nat × Nat) :=
  match l with
  | [] => none
  | c :: t => if 8 < c.toNat ∨ t.length < c.toNat ∨ (0 < c.toNat ∧ t[0]? = some 0) then none else some (beV (t.take c.toNat), c.toNat + 1)

def res126 (pos : Nat) (o : Option (Nat × Nat)) : V :=
  match o with
  | none => .tup [.r (z4 0), .r (.int .i64 0), .r (.int .i64 3)]
  | some (v, n) => .tup [.r (z4 v), .r (.int .i64 ((pos : Int) + n)), .r (.int .i64 0)]

theorem w126 {T : List Ent} (hT : (T.all fun e => e.f != 126) = true) (D : List UInt8) (pos : Nat) (hp : pos ≤ D.length) (hD : D.length ≤ 2 ^ 40) :
    callW F T 126 [.r (.sl 1 .any (bys D)), .r (.int .i64 pos), .r (.int .i64 8)] [] = some (res126 pos (rdU (D.drop pos)), []) := by
  rw [callW_of hT (A := c126) rfl]
  have e1 := slsl_lo hp
  have h0 : ¬ ((pos : Int) < 0) := by omega
  have h1 : ¬ ((D.length : Int) < (pos : Int)) := by omega
  have hlen : (D.drop pos).length ≤ 2 ^ 40 := by simp; omega
  generalize D.drop pos = E at *
  cases E with
  | nil =>
    simp [c126, h0, h1, bys_len, e1, rdU, res126, z4, storeH, setEl, loadH]
  | cons c t =>
    have hcl := c.toNat_lt
    simp at hlen
    have e2 := ixs_r (sz := 1) (kd := .any) (kk := .i64) (i := 0) (xs := bys (c :: t)) (x := byR c) (by omega) (by simp [bys])
    have e3 : wrapK .i64 (c.toNat : Int) = c.toNat := w64 (by omega) (by omega)
    have e4 := slsl_lo (D := c :: t) (pos := 1) (by simp)
    simp [byR] at e2 e4
    by_cases hb1 : 8 < c.toNat
    · have hb1' : (8 : Int) < c.toNat := by omega
      simp [c126, h0, h1, bys_len, e1, e2, e3, e4, rdU, res126, z4, storeH, setEl, loadH, hb1, hb1', show ¬ ((t.length : Int) + 1 = 0) from by omega]
    have hb1' : ¬ (8 : Int) < c.toNat := by omega
    by_cases hb2 : t.length < c.toNat
    · have hb2' : (t.length : Int) < c.toNat := by omega
      simp [c126, h0, h1, bys_len, e1, e2, e3, e4, rdU, res126, z4, storeH, setEl, loadH, hb1', hb2, hb2', show ¬ ((t.length : Int) + 1 = 0) from by omega]
    have hb2' : ¬ (t.length : Int) < c.toNat := by omega
    by_cases hb3 : 0 < c.toNat ∧ t[0]? = some 0
    · have e5 := ixs_r (sz := 1) (kd := .any) (kk := .i64) (i := 0) (xs := bys t) (x := byR 0) (by omega) (by simp [bys, hb3.2])
      simp [byR] at e5
      have hb3' : (0 : Int) < c.toNat := by omega
      simp [c126, h0, h1, bys_len, e1, e2, e3, e4, e5, rdU, res126, z4, storeH, setEl, loadH, hb1', hb2', hb3', hb3, show ¬ ((t.length : Int) + 1 = 0) from by omega]
    have hrd : rdU (c :: t) = some (beV (t.take c.toNat), c.toNat + 1) := by
      simp only [rdU]
      rw [if_neg]
      rintro (h | h | h)
      · exact hb1 h
      · exact hb2 h
      · exact hb3 h
    rw [hrd]
    -- the loop
    have hex : ∃ s', execS (callW F T) loopW 0 c126_l0 ⟨[(1, .r (.int .i64 pos)), (6, .ptr 0 0 0), (9, .r (.sl 1 .any (bys t))), (10, .r (.int .i64 c.toNat)), (11, .ptr 1 0 0), (56, .r (.int .i64 c.toNat)), (57, .r (.int .i64 c.toNat))], [.rows 4 [z4 0], .rows 4 [z4 (beV (t.take c.toNat))]]⟩ = some (.exit 0, s') ∧
        s'.h = [.rows 4 [z4 0], .rows 4 [z4 (beV (t.take c.toNat))]] ∧ get s'.fr 1 = .r (.int .i64 pos) ∧ get s'.fr 6 = .ptr 0 0 0 ∧ get s'.fr 11 = .ptr 1 0 0 ∧ get s'.fr 10 = .r (.int .i64 c.toNat) := by simp [c126_l0]
    obtain ⟨⟨fr', h'⟩, hx, hxh, hx1, hx6, hx11, hx10⟩ := hex
    simp only at hxh hx1 hx6 hx11 hx10
    subst hxh
    have key := loop_rounds (d := execS (callW F T) loopW 0 c126_l0) (hd := canonS 0 [false, true, false, false, false, false, true, false, false, true, true, true, false, false, false, false, false, false, false, false, false, false, false, false, false, false, false, false, false, false, false, false, false, false, false, false, false, false, false, false, false, false, false, false, false, false, false, false, false, false, false, false, false, false, false, false, true, true])
      (fun j => ⟨[(1, .r (.int .i64 pos)), (6, .ptr 0 0 0), (9, .r (.sl 1 .any (bys t))), (10, .r (.int .i64 c.toNat)), (11, .ptr 1 0 0), (56, .r (.int .i64 c.toNat)), (57, .r (.int .i64 j))], [.rows 4 [z4 0], .rows 4 [z4 ((beV (t.take j) * 256 ^ (c.toNat - j) : Nat) : Int)]]⟩) c.toNat _ (.exit 0)
      (fun j hj => by
        obtain ⟨x, hx⟩ : ∃ x, t[j]? = some x := ⟨_, List.getElem?_eq_getElem (by omega)⟩
        have hlt := beV_lt (t.take j)
        rw [List.length_take, Nat.min_eq_left (by omega)] at hlt
        have := l126 (T := T) t pos c.toNat j x hx (beV (t.take j)) (by omega) hj hlt
        rw [← beV_snoc, show t.take j ++ [x] = t.take (j + 1) by rw [List.take_add_one, hx]; rfl] at this
        exact this)
      (by simp only [Nat.sub_self, Nat.pow_zero, Nat.mul_one]; exact hx) (by simp)
    have e8 : wrapK .i64 ((pos : Int) + 1) = (pos : Int) + 1 := w64 (by omega) (by omega)
    have e9 : wrapK .i64 ((pos : Int) + 1 + c.toNat) = (pos : Int) + 1 + c.toNat := w64 (by omega) (by omega)
    have h1s : wrapK .i64 (c.toNat : Int) = c.toNat := e3
    by_cases hc0 : c.toNat = 0
    · have hn1 : ¬ (0 : Int) < c.toNat := by omega
      have hn2 : ¬ 0 < c.toNat := by omega
      simp [c126, h0, h1, bys_len, e1, e2, e4, rdU, res126, z4, storeH, setEl, loadH, hb1', hb2', hn1, hn2, e3, show ¬ ((t.length : Int) + 1 = 0) from by omega]
      rw [key]
      · simp [hx1, hx6, hx11, hx10, loadH, storeH, setEl, e8, e9]
        omega
      · simp [beV]
    · obtain ⟨x, hx0⟩ : ∃ x, t[0]? = some x := ⟨_, List.getElem?_eq_getElem (by omega)⟩
      have hxz : ¬ ((x.toNat : Int) = 0) := by
        intro h
        apply hb3
        refine ⟨by omega, ?_⟩
        rw [hx0]
        have : x.toNat = 0 := by omega
        rw [show x = 0 from UInt8.toNat_inj.1 this]
      have hz1 : ¬ x.toNat = 0 := by omega
      have hz2 : ¬ x = 0 := fun h => hz1 (by rw [h]; rfl)
      have e5 := ixs_r (sz := 1) (kd := .any) (kk := .i64) (i := 0) (xs := bys t) (x := byR x) (by omega) (by simp [bys, hx0])
      simp [byR] at e5
      have hb3' : (0 : Int) < c.toNat := by omega
      have hb4 : 0 < c.toNat := by omega
      simp [c126, h0, h1, bys_len, e1, e2, e4, e5, hb4, hz1, hz2,  rdU, res126, z4, storeH, setEl, loadH, hb1', hb2', hb3', hxz, e3, show ¬ ((t.length : Int) + 1 = 0) from by omega]
      rw [key]
      · simp [hx1, hx6, hx11, hx10, loadH, storeH, setEl, e8, e9]
        omega
      · simp [beV]
end Go.PV

/- wire.ReadUint64, slices.Clone, wire.ReadBytes. -/
open Go Go.PV
namespace Go.PV
set_option maxRecDepth 100000
set_option linter.unusedSimpArgs false

theorem rdU_some {l : List UInt8} {v n : Nat} (h : rdU l = some (v, n)) : n ≤ l.length ∧ 0 < n ∧ n ≤ 9 ∧ v < 2 ^ 64 := by
  cases l with
  | nil => simp [rdU] at h
  | cons c t =>
    simp only [rdU] at h
    split at h
    · exact absurd h (by simp)
    · rename_i hn
      simp only [Option.some.injEq, Prod.mk.injEq] at h
      obtain ⟨rfl, rfl⟩ := h
      have h1 := beV_lt (t.take c.toNat)
      have h2 : (t.take c.toNat).length ≤ 8 := by
        rw [List.length_take]
        have : ¬ 8 < c.toNat := fun h => hn (.inl h)
        omega
      have h3 : ¬ t.length < c.toNat := fun h => hn (.inr (.inl h))
      have h4 : ¬ 8 < c.toNat := fun h => hn (.inl h)
      have h5 : (256 : Nat) ^ (t.take c.toNat).length ≤ 256 ^ 8 := Nat.pow_le_pow_right (by decide) h2
      have h6 : (256 : Nat) ^ 8 = 2 ^ 64 := by decide
      simp only [List.length_cons]
      omega

def res83 (pos : Nat) (o : Option (Nat × Nat)) : V :=
  match o with
  | none => .tup [.r (.int .u64 0), .r (.int .i64 0), .r (.int .i64 3)]
  | some (v, n) => .tup [.r (.int .u64 v), .r (.int .i64 ((pos : Int) + n)), .r (.int .i64 0)]

theorem w83 {T : List Ent} (h83 : (T.all fun e => e.f != 83) = true) (h126 : (T.all fun e => e.f != 126) = true) (D : List UInt8) (pos : Nat) (hp : pos ≤ D.length) (hD : D.length ≤ 2 ^ 40) :
    callW F T 83 [.r (.sl 1 .any (bys D)), .r (.int .i64 pos)] [] = some (res83 pos (rdU (D.drop pos)), []) := by
  rw [callW_of h83 (A := c83) rfl]
  have h1 := w126 h126 D pos hp hD
  have h2 : doCallU (callW F T) 126 [.r (.sl 1 .any (bys D)), .r (.int .i64 pos), .r (.int .i64 8)] [] = some (res126 pos (rdU (D.drop pos)), []) := by
    rw [call_pure (by simp) (by simp) h1]
    cases rdU (D.drop pos) <;> simp [res126]
  cases hr : rdU (D.drop pos) with
  | none =>
    rw [hr] at h2
    simp [res126] at h2
    simp [c83, h2, res83, storeH, setEl, loadH]
  | some p =>
    rw [hr] at h2
    simp [res126] at h2
    simp [c83, h2, res83, storeH, setEl, loadH]

theorem callAS_true (Γ : CallF) (L : LoopF) (nt : Nat) (res : List ResV) (body : ACode) (x : R) (xs : List R) (h : Heap) : callAS Γ L ⟨true, nt, res, body⟩ [.r (.sl 1 .any (x :: xs))] h = endS h.length res (execS Γ L h.length body ⟨initS 0 [.r (.sl 1 .any (x :: xs))], h⟩) := rfl
theorem callAS_amb (Γ : CallF) (L : LoopF) (nt : Nat) (res : List ResV) (body : ACode) (h : Heap) : callAS Γ L ⟨true, nt, res, body⟩ [.r (.sl 1 .any [])] h = agree (endS h.length res (execS Γ L h.length body ⟨initS 0 [.r (.sl 1 .nil [])], h⟩)) (endS h.length res (execS Γ L h.length body ⟨initS 0 [.r (.sl 1 .nn [])], h⟩)) := rfl

theorem w84 {T : List Ent} (h84 : (T.all fun e => e.f != 84) = true) (D : List UInt8) (h : D.length ≤ 2 ^ 40) (hne : D ≠ []) :
    callW F T 84 [.r (.sl 1 .any (bys D))] [] = some (.sl 1 0 0 D.length, [.rows 1 (bys D)]) := by
  rw [callW_of h84 (A := c84) rfl]
  have hlen := bys_len D
  obtain ⟨x, xs, hb⟩ : ∃ x xs, bys D = x :: xs := by
    cases D with
    | nil => exact absurd rfl hne
    | cons c t => exact ⟨_, _, rfl⟩
  rw [hb] at hlen ⊢
  have ha := app_end (h := [.rows 1 []]) (sz := 1) (eb := 1) (b := 0) (k := 0) (n := 0) (m := D.length) (els := []) (ys := x :: xs) (x := .r (.sl 1 .any (x :: xs))) rfl rfl rfl (by rw [← hlen]; rfl) hlen rfl (by omega)
  simp at ha
  simp [c84, callAS_true, eqnV, isNil, bslN, setAll, ha]

theorem w84n {T : List Ent} (h84 : (T.all fun e => e.f != 84) = true) :
    callW F T 84 [.r (.sl 1 .any [])] [] = some (.r (.sl 1 .any []), [.dead]) := by
  rw [callW_of h84 (A := c84) rfl]
  have ha := app_end (h := [.rows 1 []]) (sz := 1) (eb := 1) (b := 0) (k := 0) (n := 0) (m := 0) (els := []) (ys := []) (x := .r (.sl 1 .nn [])) rfl rfl rfl rfl rfl rfl (by omega)
  simp at ha
  simp [c84, callAS_amb, eqnV, isNil, bslN, ha]
  have e1 : V.beq (V.r (R.sl 1 SK.nil [])) (V.sl 1 0 0 0) = false := by simp [V.beq]
  have e2 : beqBlks ([] : List Blk) [] = true := by simp [beqBlks]
  simp [agree, e1, joinE, e2]

/-- A byte string, read at the head of some bytes: the string, the number of bytes. -/
def rdB (l : List UInt8) : Option (List UInt8 × Nat) :=
  match rdU l with
  | none => none
  | some (v, n) => if l.length - n < v then none else some ((l.drop n).take v, n + v)

def res53 (pos : Nat) (o : Option (List UInt8 × Nat)) : V :=
  match o with
  | none => .tup [.r (.sl 1 .nil []), .r (.int .i64 0), .r (.int .i64 3)]
  | some (x, n) => .tup [.r (.sl 1 .any (bys x)), .r (.int .i64 ((pos + n : Nat) : Int)), .r (.int .i64 0)]

theorem w53 {T : List Ent} (hT : offT T [53, 83, 84, 126] = true) (D : List UInt8) (pos : Nat) (hp : pos ≤ D.length) (hD : D.length ≤ 2 ^ 40) :
    callW F T 53 [.r (.sl 1 .any (bys D)), .r (.int .i64 pos)] [] = some (res53 pos (rdB (D.drop pos)), []) := by
  rw [callW_of (offT_mem hT (by simp)) (A := c53) rfl]
  have h1 := w83 (T := T) (offT_mem hT (by simp)) (offT_mem hT (by simp)) D pos hp hD
  have h2 : doCallU (callW F T) 83 [.r (.sl 1 .any (bys D)), .r (.int .i64 pos)] [] = some (res83 pos (rdU (D.drop pos)), []) := by
    rw [call_pure (by simp) (by simp) h1]
    cases rdU (D.drop pos) <;> simp [res83]
  cases hr : rdU (D.drop pos) with
  | none =>
    rw [hr] at h2
    simp [res83] at h2
    simp [c53, h2, rdB, hr, res53]
  | some p =>
    obtain ⟨v, n⟩ := p
    rw [hr] at h2
    simp [res83] at h2
    obtain ⟨hn, hn0, hn9, hv⟩ := rdU_some hr
    simp at hn
    have e1 : wrapK .i64 ((D.length : Int) - ((pos : Int) + n)) = (D.length : Int) - (pos + n) := w64 (by omega) (by omega)
    have e2 : wrapK .u64 ((D.length : Int) - (pos + n)) = (D.length : Int) - (pos + n) := by simp only [wrapK]; omega
    have hdl : (D.drop pos).length - n = D.length - pos - n := by simp
    by_cases hbig : D.length - pos - n < v
    · have hb' : (D.length : Int) - (pos + n) < v := by omega
      have : rdB (D.drop pos) = none := by simp only [rdB, hr, hdl]; rw [if_pos hbig]
      rw [this]
      simp [c53, h2, bys_len, e1, e2, hb', res53]
    · have hb' : ¬ (D.length : Int) - (pos + n) < v := by omega
      have hrb : rdB (D.drop pos) = some (((D.drop pos).drop n).take v, n + v) := by simp only [rdB, hr, hdl]; rw [if_neg hbig]
      rw [hrb]
      have e3 : wrapK .i64 (v : Int) = v := w64 (by omega) (by omega)
      have e4 : wrapK .i64 ((pos : Int) + n + v) = (pos : Int) + n + v := w64 (by omega) (by omega)
      have e5 := slsl_lohi (D := D) (a := pos + n) (b := pos + n + v) (by omega) (by omega)
      rw [show pos + n + v - (pos + n) = v by omega] at e5
      rw [List.drop_drop]
      have hxl : ((D.drop (pos + n)).take v).length = v := by simp; omega
      generalize (D.drop (pos + n)).take v = X at *
      simp at e5
      by_cases hX : X = []
      · subst hX
        have h84 : ∀ h, doCallU (callW F T) 84 [.r (.sl 1 .any [])] h = some (.r (.sl 1 .any []), h ++ [.dead]) := fun h => by
          rw [call_pure (by simp) (by simp) (w84n (offT_mem hT (by simp)))]; simp
        have hbn : bys [] = [] := rfl
        simp [c53, h2, bys_len, e1, e2, hb', e3, e4, e5, hbn, h84, res53]
        omega
      · have h84 : ∀ h, doCallU (callW F T) 84 [.r (.sl 1 .any (bys X))] h = some (.sl 1 h.length 0 X.length, h ++ [.rows 1 (bys X)]) := fun h => by
          rw [call_pure (by simp) (by simp) (w84 (offT_mem hT (by simp)) X (by omega) hX)]; simp
        have hel := elems_whole (h := [.rows 1 (bys X)]) (sz := 1) (b := 0) (n := X.length) (els := bys X) rfl (bys_len _)
        simp [c53, h2, bys_len, e1, e2, hb', e3, e4, e5, h84, res53, hel]
        omega
end Go.PV
