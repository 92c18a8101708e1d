/- The reference's reading of a number: pontageref6.take, ReadUint64, ReadBytes. -/
import Derived.Test.YtdaalannljjkjaaGreatWalkB
import Derived.Test.YtdaalannljjkjaaGreatWalkC
open Go Go.PV
namespace Go.PV
set_option maxRecDepth 100000
set_option linter.unusedSimpArgs false

theorem l85 {T : List Ent} (D : List UInt8) (pos N i : Nat) (c : UInt8) (hc : D[pos + 1 + i]? = some c) (a : Nat) (hN : N ≤ 8) (hi : i < N) (ha : a < 256 ^ i) (hp : pos ≤ 2 ^ 40) :
    ∃ s1, execS (callW F T) loopW 0 c85_l0 ⟨[(0, .r (.sl 1 .any (bys D))), (1, .r (.int .i64 pos)), (6, .ptr 0 0 0), (9, .ptr 1 0 0), (10, .r (.int .i64 N)), (11, .r (.int .i64 i))], [.rows 4 [z4 0], .rows 4 [z4 ((a * 256 ^ (N - i) : Nat) : Int)]]⟩ = some (.normal, s1) ∧
      canonS 0 [true, true, false, false, false, false, true, false, false, true, true, true] s1 =
        some ⟨[(0, .r (.sl 1 .any (bys D))), (1, .r (.int .i64 pos)), (6, .ptr 0 0 0), (9, .ptr 1 0 0), (10, .r (.int .i64 N)), (11, .r (.int .i64 ((i : Int) + 1)))], [.rows 4 [z4 0], .rows 4 [z4 (((a * 256 + c.toNat) * 256 ^ (N - (i + 1)) : Nat) : Int)]]⟩ := by
  obtain ⟨m, rfl⟩ : ∃ m, N = i + 1 + m := ⟨N - (i + 1), by omega⟩
  have hcl := c.toNat_lt
  have hbig : a * 256 ^ (m + 1) + c.toNat * 256 ^ m < 2 ^ 64 := by
    have h1 : (a + 1) * 256 ^ (m + 1) ≤ 256 ^ i * 256 ^ (m + 1) := Nat.mul_le_mul_right _ (by omega)
    have h2 : c.toNat * 256 ^ m < 256 ^ (m + 1) := by
      rw [Nat.pow_succ, Nat.mul_comm]
      exact Nat.mul_lt_mul_of_pos_left hcl (Nat.pow_pos (by decide))
    have h3 : (256 : Nat) ^ i * 256 ^ (m + 1) ≤ 256 ^ 8 := by
      rw [← Nat.pow_add]; exact Nat.pow_le_pow_right (by decide) (by omega)
    have h4 : (256 : Nat) ^ 8 = 2 ^ 64 := by decide
    rw [Nat.add_mul] at h1
    omega
  have hor : wrapK .u64 (((a * 256 ^ (m + 1) : Nat) : Int) + ((c.toNat * 256 ^ m : Nat) : Int)) = (((a * 256 + c.toNat) * 256 ^ m : Nat) : Int) := by
    have h4 : (a * 256 + c.toNat) * 256 ^ m = a * 256 ^ (m + 1) + c.toNat * 256 ^ m := by
      rw [Nat.add_mul, Nat.pow_succ, Nat.mul_assoc, Nat.mul_comm 256]
    rw [h4]
    simp only [wrapK]; omega
  have ep1 : wrapK .i64 ((pos : Int) + 1) = (pos : Int) + 1 := w64 (by omega) (by omega)
  have ep2 : wrapK .i64 ((pos : Int) + 1 + i) = (pos : Int) + 1 + i := w64 (by omega) (by omega)
  have e7u : wrapK .u64 (8 * (m : Int)) = 8 * m := by simp only [wrapK]; omega
  have e1 : wrapK .i64 ((i : Int) + 1) = (i : Int) + 1 := w64 (by omega) (by omega)
  have e2 := ixs_r (sz := 1) (kd := .any) (kk := .i64) (i := (pos : Int) + 1 + i) (xs := bys D) (x := byR c) (by omega) (by rw [show ((pos : Int) + 1 + i).toNat = pos + 1 + i by omega]; simp [bys, hc])
  have e3 : wrapK .i64 ((((i + 1 + m : Nat)) : Int) - 1) = (i : Int) + m := by rw [w64 (by omega) (by omega)]; omega
  have e4 : wrapK .i64 ((i : Int) + m - i) = m := by rw [w64 (by omega) (by omega)]; omega
  have e5 : wrapK .i64 ((m : Int).tdiv 8) = 0 := by
    have : m < 8 := by omega
    rw [Int.tdiv_eq_ediv_of_nonneg (by omega), show (m : Int) / 8 = 0 by omega]; rfl
  have e6 : (m : Int).tmod 8 = m := by
    rw [Int.tmod_eq_emod_of_nonneg (by omega)]; omega
  have e5' : wrapK .i64 ((m : Int) / 8) = 0 := by
    have : m < 8 := by omega
    rw [show (m : Int) / 8 = 0 by omega]; rfl
  have e6' : (m : Int) % 8 = m := by omega
  have e7 : wrapK .i64 (8 * (m : Int)) = 8 * m := by rw [w64 (by omega) (by omega)]
  have e8 : wrapK .u64 (c.toNat : Int) = c.toNat := by simp only [wrapK]; omega
  have e9 : shlI .u64 (c.toNat : Int) (8 * (m : Int)) = ((c.toNat * 256 ^ m : Nat) : Int) := by
    have e : (256 : Nat) ^ m = 2 ^ (8 * m) := by rw [show (256 : Nat) = 2 ^ 8 from rfl, ← Nat.pow_mul]
    have hb : bitsK .u64 = 64 := rfl
    rw [shlI, hb, show (8 * (m : Int)).toNat = 8 * m by omega, Nat.min_eq_left (by omega), ← e, ← Int.natCast_mul]
    have : c.toNat * 256 ^ m < 2 ^ 64 := by omega
    simp only [wrapK]; omega
  have hm0 : ¬ (8 * (m : Int) < 0) := by omega
  rw [show i + 1 + m - i = m + 1 by omega, show i + 1 + m - (i + 1) = m by omega]
  have hil : (i : Int) < ((i + 1 + m : Nat) : Int) := by omega
  generalize hNN : ((i + 1 + m : Nat) : Int) = NN at *
  generalize ((a * 256 ^ (m + 1) : Nat) : Int) = A1 at *
  generalize (((a * 256 + c.toNat) * 256 ^ m : Nat) : Int) = A2 at *
  generalize ((c.toNat * 256 ^ m : Nat) : Int) = A3 at *
  simp [byR] at e2
  simp [c85_l0, ep1, ep2, e7u, z4, loadH, storeH, setEl, hil, e1, e2, e3, e4, e5, e6, e5', e6', e7, e8, e9, hor, hm0]


theorem w85 {T : List Ent} (hT : (T.all fun e => e.f != 85) = true) (D : List UInt8) (pos : Nat) (hp : pos ≤ D.length) (hD : D.length ≤ 2 ^ 40) :
    callW F T 85 [.r (.sl 1 .any (bys D)), .r (.int .i64 pos), .r (.int .i64 8)] [] = some (res126 pos (rdU (D.drop pos)), []) := by
  rw [callW_of hT (A := c85) rfl]
  have h0 : ¬ ((pos : Int) < 0) := by omega
  have h1 : ¬ ((D.length : Int) < (pos : Int)) := by omega
  cases hE : D.drop pos with
  | nil =>
    have hpe : pos = D.length := by
      have := congrArg List.length hE
      simp at this; omega
    subst hpe
    simp [c85, h0, bys_len, rdU, res126, z4, storeH, setEl, loadH]
  | cons c t =>
    have hcl := c.toNat_lt
    have hlen : D.length = pos + 1 + t.length := by
      have := congrArg List.length hE
      simp at this; omega
    have hg : ∀ k, D[pos + k]? = (c :: t)[k]? := fun k => by rw [← hE, List.getElem?_drop]
    have hg0 : D[pos]? = some c := hg 0
    have hne : ¬ (pos : Int) = D.length := by omega
    have hne2 : ¬ pos = D.length := by omega
    have e2 := ixs_r (sz := 1) (kd := .any) (kk := .i64) (i := (pos : Int)) (xs := bys D) (x := byR c) (by omega) (by simp [bys, hg0])
    have e3 : wrapK .i64 (c.toNat : Int) = c.toNat := w64 (by omega) (by omega)
    have es1 : wrapK .i64 ((D.length : Int) - pos) = (t.length : Int) + 1 := by rw [w64 (by omega) (by omega)]; omega
    have es2 : wrapK .i64 ((t.length : Int) + 1 - 1) = t.length := by rw [w64 (by omega) (by omega)]; omega
    have es2' : wrapK .i64 (t.length : Int) = t.length := by rw [w64 (by omega) (by omega)]
    have ep1 : wrapK .i64 ((pos : Int) + 1) = (pos : Int) + 1 := w64 (by omega) (by omega)
    simp [byR] at e2
    by_cases hb1 : 8 < c.toNat
    · have hb1' : (8 : Int) < c.toNat := by omega
      simp [c85, h0, h1, bys_len, hne, hne2, e2, e3, rdU, res126, z4, storeH, setEl, loadH, hb1, hb1']
    have hb1' : ¬ (8 : Int) < c.toNat := by omega
    by_cases hb2 : t.length < c.toNat
    · have hb2' : (t.length : Int) < c.toNat := by omega
      simp [c85, h0, h1, bys_len, hne, hne2, e2, e3, es1, es2, es2', rdU, res126, z4, storeH, setEl, loadH, hb1', hb2, hb2']
    have hb2' : ¬ (t.length : Int) < c.toNat := by omega
    by_cases hb3 : 0 < c.toNat ∧ t[0]? = some 0
    · have e5 := ixs_r (sz := 1) (kd := .any) (kk := .i64) (i := (pos : Int) + 1) (xs := bys D) (x := byR 0) (by omega) (by rw [show ((pos : Int) + 1).toNat = pos + 1 by omega]; simp [bys, hg 1, hb3.2])
      simp [byR] at e5
      have hb3' : (0 : Int) < c.toNat := by omega
      simp [c85, h0, h1, bys_len, hne, hne2, e2, e3, es1, es2, es2', ep1, e5, rdU, res126, z4, storeH, setEl, loadH, hb1', hb2', hb3', hb3]
    have hrd : rdU (c :: t) = some (beV (t.take c.toNat), c.toNat + 1) := by
      simp only [rdU]
      rw [if_neg]
      rintro (h | h | h)
      · exact hb1 h
      · exact hb2 h
      · exact hb3 h
    rw [hrd]
    have hex : ∃ s', execS (callW F T) loopW 0 c85_l0 ⟨[(0, .r (.sl 1 .any (bys D))), (1, .r (.int .i64 pos)), (6, .ptr 0 0 0), (9, .ptr 1 0 0), (10, .r (.int .i64 c.toNat)), (11, .r (.int .i64 c.toNat))], [.rows 4 [z4 0], .rows 4 [z4 (beV (t.take c.toNat))]]⟩ = some (.exit 0, s') ∧
        s'.h = [.rows 4 [z4 0], .rows 4 [z4 (beV (t.take c.toNat))]] ∧ get s'.fr 1 = .r (.int .i64 pos) ∧ get s'.fr 6 = .ptr 0 0 0 ∧ get s'.fr 9 = .ptr 1 0 0 ∧ get s'.fr 10 = .r (.int .i64 c.toNat) := by simp [c85_l0]
    obtain ⟨⟨fr', h'⟩, hx, hxh, hx1, hx6, hx9, hx10⟩ := hex
    simp only at hxh hx1 hx6 hx9 hx10
    subst hxh
    have key := loop_rounds (d := execS (callW F T) loopW 0 c85_l0) (hd := canonS 0 [true, true, false, false, false, false, true, false, false, true, true, true])
      (fun j => ⟨[(0, .r (.sl 1 .any (bys D))), (1, .r (.int .i64 pos)), (6, .ptr 0 0 0), (9, .ptr 1 0 0), (10, .r (.int .i64 c.toNat)), (11, .r (.int .i64 j))], [.rows 4 [z4 0], .rows 4 [z4 ((beV (t.take j) * 256 ^ (c.toNat - j) : Nat) : Int)]]⟩) c.toNat _ (.exit 0)
      (fun j hj => by
        obtain ⟨x, hx⟩ : ∃ x, t[j]? = some x := ⟨_, List.getElem?_eq_getElem (by omega)⟩
        have hxD : D[pos + 1 + j]? = some x := by
          rw [show pos + 1 + j = pos + (j + 1) by omega, hg, List.getElem?_cons_succ, hx]
        have hlt := beV_lt (t.take j)
        rw [List.length_take, Nat.min_eq_left (by omega)] at hlt
        have := l85 (T := T) D pos c.toNat j x hxD (beV (t.take j)) (by omega) hj hlt (by omega)
        rw [← beV_snoc, show t.take j ++ [x] = t.take (j + 1) by rw [List.take_add_one, hx]; rfl] at this
        exact this)
      (by simp only [Nat.sub_self, Nat.pow_zero, Nat.mul_one]; exact hx) (by simp)
    have e9 : wrapK .i64 ((pos : Int) + 1 + c.toNat) = (pos : Int) + 1 + c.toNat := w64 (by omega) (by omega)
    by_cases hc0 : c.toNat = 0
    · have hn1 : ¬ (0 : Int) < c.toNat := by omega
      have hn2 : ¬ 0 < c.toNat := by omega
      simp [c85, h0, h1, bys_len, hne, hne2, e2, es1, es2, es2', ep1, rdU, res126, z4, storeH, setEl, loadH, hb1', hb2', hn1, hn2, e3]
      rw [key]
      · simp [hx1, hx6, hx9, hx10, loadH, storeH, setEl, ep1, e9]
        omega
      · simp [beV]
    · obtain ⟨x, hx0⟩ : ∃ x, t[0]? = some x := ⟨_, List.getElem?_eq_getElem (by omega)⟩
      have hxz : ¬ ((x.toNat : Int) = 0) := by
        intro h
        apply hb3
        refine ⟨by omega, ?_⟩
        rw [hx0]
        have : x.toNat = 0 := by omega
        rw [show x = 0 from UInt8.toNat_inj.1 this]
      have hz1 : ¬ x.toNat = 0 := by omega
      have hz2 : ¬ x = 0 := fun h => hz1 (by rw [h]; rfl)
      have e5 := ixs_r (sz := 1) (kd := .any) (kk := .i64) (i := (pos : Int) + 1) (xs := bys D) (x := byR x) (by omega) (by rw [show ((pos : Int) + 1).toNat = pos + 1 by omega]; simp [bys, hg 1, hx0])
      simp [byR] at e5
      have hb3' : (0 : Int) < c.toNat := by omega
      have hb4 : 0 < c.toNat := by omega
      simp [c85, h0, h1, bys_len, hne, hne2, e2, e5, es1, es2, es2', ep1, hb4, hz1, hz2, rdU, res126, z4, storeH, setEl, loadH, hb1', hb2', hb3', hxz, e3]
      rw [key]
      · simp [hx1, hx6, hx9, hx10, loadH, storeH, setEl, ep1, e9]
        omega
      · simp [beV]
end Go.PV

/- The reference's reading of byte strings: pontageref6.ReadUint64, ReadBytes; pontagelaw29.decodable, where the bytes are no encoding. -/
open Go Go.PV
namespace Go.PV
set_option maxRecDepth 100000
set_option linter.unusedSimpArgs false

theorem w55 {T : List Ent} (h55 : (T.all fun e => e.f != 55) = true) (h85 : (T.all fun e => e.f != 85) = true) (D : List UInt8) (pos : Nat) (hp : pos ≤ D.length) (hD : D.length ≤ 2 ^ 40) :
    callW F T 55 [.r (.sl 1 .any (bys D)), .r (.int .i64 pos)] [] = some (res83 pos (rdU (D.drop pos)), []) := by
  rw [callW_of h55 (A := c55) rfl]
  have h1 := w85 h85 D pos hp hD
  have h2 : doCallU (callW F T) 85 [.r (.sl 1 .any (bys D)), .r (.int .i64 pos), .r (.int .i64 8)] [] = some (res126 pos (rdU (D.drop pos)), []) := by
    rw [call_pure (by simp) (by simp) h1]
    cases rdU (D.drop pos) <;> simp [res126]
  cases hr : rdU (D.drop pos) with
  | none =>
    rw [hr] at h2
    simp [res126] at h2
    simp [c55, h2, res83, storeH, setEl, loadH]
  | some p =>
    rw [hr] at h2
    simp [res126] at h2
    simp [c55, h2, res83, storeH, setEl, loadH]

theorem w29 {T : List Ent} (hT : offT T [29, 55, 85] = true) (D : List UInt8) (pos : Nat) (hp : pos ≤ D.length) (hD : D.length ≤ 2 ^ 40) :
    callW F T 29 [.r (.sl 1 .any (bys D)), .r (.int .i64 pos)] [] = some (res53 pos (rdB (D.drop pos)), []) := by
  rw [callW_of (offT_mem hT (by simp)) (A := c29) rfl]
  have h1 := w55 (T := T) (offT_mem hT (by simp)) (offT_mem hT (by simp)) D pos hp hD
  have h2 : doCallU (callW F T) 55 [.r (.sl 1 .any (bys D)), .r (.int .i64 pos)] [] = some (res83 pos (rdU (D.drop pos)), []) := by
    rw [call_pure (by simp) (by simp) h1]
    cases rdU (D.drop pos) <;> simp [res83]
  cases hr : rdU (D.drop pos) with
  | none =>
    rw [hr] at h2
    simp [res83] at h2
    simp [c29, h2, rdB, hr, res53]
  | some p =>
    obtain ⟨v, n⟩ := p
    rw [hr] at h2
    simp [res83] at h2
    obtain ⟨hn, hn0, hn9, hv⟩ := rdU_some hr
    simp at hn
    have e1 : wrapK .i64 ((D.length : Int) - ((pos : Int) + n)) = (D.length : Int) - (pos + n) := w64 (by omega) (by omega)
    have e2 : wrapK .u64 ((D.length : Int) - (pos + n)) = (D.length : Int) - (pos + n) := by simp only [wrapK]; omega
    have hdl : (D.drop pos).length - n = D.length - pos - n := by simp
    by_cases hbig : D.length - pos - n < v
    · have hb' : (D.length : Int) - (pos + n) < v := by omega
      have : rdB (D.drop pos) = none := by simp only [rdB, hr, hdl]; rw [if_pos hbig]
      rw [this]
      simp [c29, h2, bys_len, e1, e2, hb', res53]
    · have hb' : ¬ (D.length : Int) - (pos + n) < v := by omega
      have hrb : rdB (D.drop pos) = some (((D.drop pos).drop n).take v, n + v) := by simp only [rdB, hr, hdl]; rw [if_neg hbig]
      rw [hrb]
      have e3 : wrapK .i64 (v : Int) = v := w64 (by omega) (by omega)
      have e4 : wrapK .i64 ((pos : Int) + n + v) = (pos : Int) + n + v := w64 (by omega) (by omega)
      have e5 := slsl_lohi (D := D) (a := pos + n) (b := pos + n + v) (by omega) (by omega)
      rw [show pos + n + v - (pos + n) = v by omega] at e5
      rw [List.drop_drop]
      have hxl : ((D.drop (pos + n)).take v).length = v := by simp; omega
      generalize (D.drop (pos + n)).take v = X at *
      simp at e5
      have ha := app_end (h := [.rows 1 []]) (sz := 1) (eb := 1) (b := 0) (k := 0) (n := 0) (m := X.length) (els := []) (ys := bys X) (x := .r (.sl 1 .any (bys X))) rfl rfl rfl (by simp [lenV, bys_len]) (bys_len _) rfl (by omega)
      simp at ha
      have hel := elems_whole (h := [.dead, .rows 1 (bys X)]) (sz := 1) (b := 1) (n := X.length) (els := bys X) rfl (bys_len _)
      simp [c29, h2, bys_len, e1, e2, hb', e3, e4, e5, ha, bslN, res53, hel]
      omega

/-- Where the bytes are no encoding, decodable says so. -/
theorem w11 {T : List Ent} (hT : offT T [11, 29, 55, 85] = true) (l : List (List UInt8)) (E : List UInt8) (hE : E ≠ []) (hr : rdB E = none) (hD : (encL l ++ E).length ≤ 2 ^ 38) :
    callW F T 11 [.r (.sl 1 .any (bys (encL l ++ E)))] [] = some (.r (.bool false), []) := by
  rw [callW_of (offT_mem hT (by simp)) (A := c11) rfl]
  have hEl : 0 < E.length := by cases E with | nil => exact absurd rfl hE | cons _ _ => simp
  have hDl : (encL l ++ E).length = (encL l).length + E.length := List.length_append
  have d29 : ∀ pos, pos ≤ (encL l ++ E).length → doCallU (callW F T) 29 [.r (.sl 1 .any (bys (encL l ++ E))), .r (.int .i64 pos)] [] = some (res53 pos (rdB ((encL l ++ E).drop pos)), []) := fun pos hp => by
    rw [call_pure (by simp) (by simp) (w29 (T := T) (by simp only [offT, List.all_cons, Bool.and_eq_true] at hT ⊢; exact hT.2) (encL l ++ E) pos hp (by omega))]
    cases rdB ((encL l ++ E).drop pos) <;> simp [res53]
  have d29e := d29 (encL l).length (by omega)
  rw [List.drop_left, hr] at d29e
  simp only [res53] at d29e
  have hex : ∃ s', execS (callW F T) loopW 0 c11_l0 ⟨[(0, .r (.sl 1 .any (bys (encL l ++ E)))), (3, .r (.int .i64 (encL l).length))], []⟩ = some (.ret, s') ∧
      s'.h = [] ∧ get s'.fr 2 = .r (.bool false) := by
    generalize hX : encL l ++ E = X at *
    have hlt : ((encL l).length : Int) < X.length := by omega
    have hlt2 : (encL l).length < X.length := by omega
    simp [c11_l0, bys_len, hlt, hlt2, d29e]
  obtain ⟨⟨fr', h'⟩, hx, hxh, hx2⟩ := hex
  simp only at hxh hx2
  subst hxh
  have key := loop_rounds (d := execS (callW F T) loopW 0 c11_l0) (hd := canonS 0 [true, false, false, true])
    (fun j => ⟨[(0, .r (.sl 1 .any (bys (encL l ++ E)))), (3, .r (.int .i64 (encL (l.take j)).length))], []⟩) l.length _ .ret
    (fun j hj => by
      obtain ⟨x, hx⟩ : ∃ x, l[j]? = some x := ⟨_, List.getElem?_eq_getElem hj⟩
      have h4 := encL_take_len l (j + 1)
      rw [encL_take hx, List.length_append] at h4
      have h5 : 1 ≤ (encB x).length := by simp [encB, encN]
      have hxs : x.length ≤ (encB x).length := by simp [encB]
      have hrb : rdB ((encL l ++ E).drop (encL (l.take j)).length) = some (x, (encB x).length) := by
        rw [encL_take_get hx]; exact rdB_enc x (by omega) _
      have hd := d29 (encL (l.take j)).length (by omega)
      rw [hrb] at hd
      simp only [res53] at hd
      rw [encL_take hx, List.length_append]
      have hlt : (encL (l.take j)).length < (encL l ++ E).length := by omega
      generalize hX : encL l ++ E = X at *
      generalize (encL (l.take j)).length = p at *
      have hlt2 : (p : Int) < X.length := by omega
      simp at hd
      simp [c11_l0, bys_len, hlt, hlt2, hd])
    (by simp only [List.take_length]; exact hx) (by simp)
  simp [c11]
  rw [key]
  · simp [hx2]
  · simp [encL]
end Go.PV

/- script.Decode, where the bytes are no encoding; Mod. -/
open Go Go.PV
namespace Go.PV
set_option maxRecDepth 100000
set_option linter.unusedSimpArgs false

theorem l10b {T : List Ent} (hT : offT T [26, 27, 28, 54, 53, 83, 84, 126] = true) (D : List UInt8) (pos : Nat) (hp : pos < D.length) (hD : D.length ≤ 2 ^ 39) (l : List (List UInt8)) (hl : l.length ≤ 2 ^ 39) (hr : rdB (D.drop pos) = none) :
    ∃ s1, execS (callW F T) loopW 0 c10_l0 ⟨[(4, .sl 1 0 0 l.length), (5, .ptr 1 0 0)], [.rows 1 (lst l), .rows 3 [rdr D pos false]]⟩ = some (.normal, s1) ∧
      canonS 0 [false, false, false, false, true, true] s1 = some ⟨[(4, .sl 1 0 0 (l.length + 1)), (5, .ptr 1 0 0)], [.rows 1 (lst l ++ [.sl 1 .nil []]), .rows 3 [rdr D pos true]]⟩ := by
  have h26 := w26 (T := T) (offT_mem hT (by simp)) D pos false
  have h27 := w27 (T := T) (offT_mem hT (by simp)) D pos false
  have h28 := w28b (T := T) (by simp only [offT, List.all_cons, Bool.and_eq_true] at hT ⊢; exact hT.2.2) D pos (by omega) (by omega) hr
  have ha := app_end (h := [.rows 1 (lst l), .rows 3 [rdr D pos true], .rows 1 [.sl 1 .nil []]]) (sz := 1) (eb := 24) (b := 0) (k := 0) (n := l.length) (m := 1) (els := lst l) (ys := [.sl 1 .nil []]) (x := .sl 1 2 0 1) rfl (by simp [lst_len]) rfl rfl rfl (elems_whole rfl rfl) (by omega)
  have hne : ¬ pos = D.length := by omega
  simp only [rdr] at *
  simp [hne] at h26 h27 h28 ha
  simp [c10_l0, doCallU_eq2, h26, h27, h28, ha, bslN, setAll]

theorem w10b {T : List Ent} (hT : offT T [10, 25, 26, 27, 28, 54, 53, 83, 84, 126] = true) (l : List (List UInt8)) (E : List UInt8) (hE : E ≠ []) (hr : rdB E = none) (hD : (encL l ++ E).length ≤ 2 ^ 38) :
    callW F T 10 [.r (.sl 1 .any (bys (encL l ++ E)))] [] = some (.tup [.r (.sl 1 .nil []), .r (.int .i64 3)], []) := by
  rw [callW_of (offT_mem hT (by simp)) (A := c10) rfl]
  have hEl : 0 < E.length := by cases E with | nil => exact absurd rfl hE | cons _ _ => simp
  have hDl : (encL l ++ E).length = (encL l).length + E.length := List.length_append
  have hcnt := encL_count l
  have hT' : offT T [26, 27, 28, 54, 53, 83, 84, 126] = true := by simp only [offT, List.all_cons, Bool.and_eq_true] at hT ⊢; exact hT.2.2
  have hlast := l10b hT' (encL l ++ E) (encL l).length (by omega) (by omega) l (by omega) (by rw [List.drop_left]; exact hr)
  have hrounds := r10 hT' l E hD
  have h25 : ∀ h, doCallU (callW F T) 25 [.r (.sl 1 .any (bys (encL l ++ E)))] h = some (.ptr h.length 0 0, h ++ [.rows 3 [rdr (encL l ++ E) 0 false]]) := fun h => by
    rw [call_pure (by simp) (by simp) (w25 (offT_mem hT (by simp)) (encL l ++ E))]; simp [rdr]
  have h26 := w26 (T := T) (offT_mem hT (by simp)) (encL l ++ E) (encL l).length true
  have h27 := w27 (T := T) (offT_mem hT (by simp)) (encL l ++ E) (encL l).length true
  generalize encL l ++ E = D at *
  simp at h26 h27
  have hex : ∃ s', execS (callW F T) loopW 0 c10_l0 ⟨[(4, .sl 1 0 0 (l.length + 1)), (5, .ptr 1 0 0)], [.rows 1 (lst l ++ [.sl 1 .nil []]), .rows 3 [rdr D (encL l).length true]]⟩ = some (.exit 0, s') ∧
      s'.h = [.rows 1 (lst l ++ [.sl 1 .nil []]), .rows 3 [rdr D (encL l).length true]] ∧ get s'.fr 5 = .ptr 1 0 0 := by
    simp [c10_l0, doCallU_eq2, h26, h27]
  obtain ⟨⟨fr', h'⟩, hx, hxh, hx5⟩ := hex
  simp only at hxh hx5
  subst hxh
  have key := loop_rounds (d := execS (callW F T) loopW 0 c10_l0) (hd := canonS 0 [false, false, false, false, true, true])
    (fun j => if j ≤ l.length then ⟨[(4, .sl 1 0 0 (l.take j).length), (5, .ptr 1 0 0)], [.rows 1 (lst (l.take j)), .rows 3 [rdr D (encL (l.take j)).length false]]⟩
      else ⟨[(4, .sl 1 0 0 (l.length + 1)), (5, .ptr 1 0 0)], [.rows 1 (lst l ++ [.sl 1 .nil []]), .rows 3 [rdr D (encL l).length true]]⟩) (l.length + 1) _ (.exit 0)
    (fun j hj => by
      by_cases h : j < l.length
      · have := hrounds j h
        simp only [if_pos (show j ≤ l.length by omega), if_pos (show j + 1 ≤ l.length by omega)]
        exact this
      · have : j = l.length := by omega
        subst this
        simp only [if_pos (Nat.le_refl _), if_neg (show ¬ l.length + 1 ≤ l.length by omega), List.take_length]
        exact hlast)
    (by simp only [if_neg (show ¬ l.length + 1 ≤ l.length by omega)]; exact hx) (by simp)
  simp [c10, h25]
  rw [key]
  · simp [hx5, doCallU_eq2, h27]
  · simp [encL, lst]

theorem w9 {T : List Ent} (h9 : (T.all fun e => e.f != 9) = true) (a : Int) (n : Nat) (hn : 0 < n) (hn2 : n ≤ 2 ^ 40) : ∃ m : Nat, m < n ∧ callW F T 9 [.r (.int .i64 a), .r (.int .i64 n)] [] = some (.r (.int .i64 m), []) := by
  rw [callW_of h9 (A := c9) rfl]
  obtain ⟨b, hb⟩ : ∃ b : Nat, wrapK .u64 a = b := ⟨(wrapK .u64 a).toNat, by simp only [wrapK]; omega⟩
  have hlt := Nat.mod_lt b hn
  refine ⟨b % n, hlt, ?_⟩
  have e1 : wrapK .u64 (n : Int) = n := by simp only [wrapK]; omega
  have e2 : ((b : Int)).tmod n = ((b % n : Nat) : Int) := by rw [Int.tmod_eq_emod_of_nonneg (by omega)]; simp
  have e3 : wrapK .i64 ((b % n : Nat) : Int) = ((b % n : Nat) : Int) := w64 (by omega) (by omega)
  have e2' : ((b : Int)) % n = ((b % n : Nat) : Int) := by simp
  generalize b % n = m at *
  simp [c9, hb, e1, e2, e2', e3, show ¬ n = 0 from by omega, show ¬ (n : Int) = 0 from by omega]
end Go.PV

/- The law pontagelaw29.ScriptDecode, walked. -/
open Go Go.PV
namespace Go.PV
set_option maxRecDepth 100000
set_option linter.unusedSimpArgs false

theorem encL_count2 (l : List (List UInt8)) : 2 * l.length ≤ (encL l).length + l.length := by
  have := encL_count l
  omega

theorem w12n {T : List Ent} (h : (T.all fun e => e.f != 12) = true) (k : SK) (x y : List UInt8) :
    callW F T 12 [.sl 1 0 0 y.length, .r (.sl 1 k (bys x))] [.rows 1 (bys y)] = some (.r (.bool (y == x)), [.rows 1 (bys y)]) := by
  rw [callW_of h (A := c12) rfl]
  have hel := elems_whole (h := [.rows 1 (bys y)]) (sz := 1) (b := 0) (n := y.length) (els := bys y) rfl (bys_len _)
  have h2 : elemsR [.rows 1 (bys y)] (.r (.sl 1 k (bys x))) = some (bys x) := rfl
  simp [c12, elemsS, hel, h2, u8s_bys]

theorem l3 {T : List Ent} (hT : offT T [8, 10, 11, 12, 24, 25, 26, 27, 28, 29, 52, 53, 54, 55, 82, 83, 84, 85, 125, 126] = true) (y z D : List UInt8) (i : Nat) (hi : i < 2) (hDi : [y, z][i]? = some D) (hD : D.length < 2 ^ 38) :
    ∃ s1, execS (callW F T) loopW 0 c3_l0 ⟨[(36, .r (.agg [.sl 1 .any (bys y), .sl 1 .any (bys z)])), (37, .r (.int .i64 i))], []⟩ = some (.normal, s1) ∧
      canonS 0 [false, false, false, false, false, false, false, false, false, false, false, false, false, false, false, false, false, false, false, false, false, false, false, false, false, false, false, false, false, false, false, false, false, false, false, false, true, true] s1 =
        some ⟨[(36, .r (.agg [.sl 1 .any (bys y), .sl 1 .any (bys z)])), (37, .r (.int .i64 ((i : Int) + 1)))], []⟩ := by
  have e1 : wrapK .i64 ((i : Int) + 1) = (i : Int) + 1 := w64 (by omega) (by omega)
  have hi' : (i : Int) < 2 := by omega
  have hix : runP (.ixv 2 false 1) [.r (.agg [.sl 1 .any (bys y), .sl 1 .any (bys z)]), .r (.int .i64 (i : Int))] = some (.r (.sl 1 .any (bys D))) := by
    have : i = 0 ∨ i = 1 := by omega
    rcases this with rfl | rfl
    · simp at hDi; subst hDi; simp
    · simp at hDi; subst hDi; simp
  rcases dec_cases D with ⟨l, rfl⟩ | ⟨l, E, rfl, hE, hr⟩
  · have hc := encL_count l
    have d10 : doCallU (callW F T) 10 [.r (.sl 1 .any (bys (encL l)))] [] = some (.tup [.r (.sl 1 .any (lst l)), .r (.int .i64 0)], []) := by
      rw [call_pure (by simp) (by simp) (w10 (offT_sub hT (by decide)) l (by omega))]; simp
    have d8 : doCallU (callW F T) 8 [.r (.sl 1 .any (lst l))] [] = some (.sl 1 0 0 (encL l).length, [.rows 1 (bys (encL l))]) := by
      rw [call_pure (by simp) (by simp) (w8 (offT_sub hT (by decide)) (offT_mem hT (by simp)) .any l (by have := encL_count2 l; omega) (by omega))]; simp
    have d12 := w12n (T := T) (offT_mem hT (by simp)) .any (encL l) (encL l)
    generalize encL l = X at *
    simp at d12
    have d12' : doCallU (callW F T) 12 [.sl 1 0 0 X.length, .r (.sl 1 .any (bys X))] [.rows 1 (bys X)] = some (.r (.bool true), [.rows 1 (bys X)]) := by
      simp [doCallU_eq2, d12]
    simp [-P_ixv, c3_l0, hi, hi', hix, d10, d8, d12', e1]
  · have d10 : doCallU (callW F T) 10 [.r (.sl 1 .any (bys (encL l ++ E)))] [] = some (.tup [.r (.sl 1 .nil []), .r (.int .i64 3)], []) := by
      rw [call_pure (by simp) (by simp) (w10b (offT_sub hT (by decide)) l E hE hr (by omega))]; simp
    have d11 : doCallU (callW F T) 11 [.r (.sl 1 .any (bys (encL l ++ E)))] [] = some (.r (.bool false), []) := by
      rw [call_pure (by simp) (by simp) (w11 (offT_sub hT (by decide)) l E hE hr (by omega))]; simp
    generalize encL l ++ E = X at *
    simp [-P_ixv, c3_l0, hi, hi', hix, d10, d11, e1]

/-- The loop over both byte strings. -/
theorem r3 {T : List Ent} (hT : offT T [8, 10, 11, 12, 24, 25, 26, 27, 28, 29, 52, 53, 54, 55, 82, 83, 84, 85, 125, 126] = true) (y z : List UInt8) (hy : y.length < 2 ^ 38) (hz : z.length < 2 ^ 38) :
    ∃ fr', ∀ s, canonS 0 [false, false, false, false, false, false, false, false, false, false, false, false, false, false, false, false, false, false, false, false, false, false, false, false, false, false, false, false, false, false, false, false, false, false, false, false, true, true] s = some ⟨[(36, .r (.agg [.sl 1 .any (bys y), .sl 1 .any (bys z)])), (37, .r (.int .i64 0))], []⟩ →
      loopW (execS (callW F T) loopW 0 c3_l0) (canonS 0 [false, false, false, false, false, false, false, false, false, false, false, false, false, false, false, false, false, false, false, false, false, false, false, false, false, false, false, false, false, false, false, false, false, false, false, false, true, true]) s = some (.exit 0, ⟨fr', []⟩) := by
  have hex : ∃ s', execS (callW F T) loopW 0 c3_l0 ⟨[(36, .r (.agg [.sl 1 .any (bys y), .sl 1 .any (bys z)])), (37, .r (.int .i64 ((2 : Nat) : Int)))], []⟩ = some (.exit 0, s') ∧ s'.h = [] := by
    simp [c3_l0]
  obtain ⟨⟨fr', h'⟩, hx, hxh⟩ := hex
  simp only at hxh
  subst hxh
  refine ⟨fr', fun s hs => ?_⟩
  exact loop_rounds (d := execS (callW F T) loopW 0 c3_l0) (hd := canonS 0 [false, false, false, false, false, false, false, false, false, false, false, false, false, false, false, false, false, false, false, false, false, false, false, false, false, false, false, false, false, false, false, false, false, false, false, false, true, true])
    (fun j => ⟨[(36, .r (.agg [.sl 1 .any (bys y), .sl 1 .any (bys z)])), (37, .r (.int .i64 (j : Int)))], []⟩) 2 _ (.exit 0)
    (fun j hj => by
      have : j = 0 ∨ j = 1 := by omega
      rcases this with rfl | rfl
      · exact l3 hT y z y 0 (by omega) rfl hy
      · exact l3 hT y z z 1 (by omega) rfl hz)
    hx (by simp) s hs

theorem w3 {T : List Ent} (hT : offT T [3, 6, 8, 9, 10, 11, 12, 24, 25, 26, 27, 28, 29, 52, 53, 54, 55, 82, 83, 84, 85, 125, 126] = true) (h7 : callW F T 7 [] [] = some (.r (.bool true), [])) (kd : SK) (y : List UInt8) (l : List (List UInt8)) (hl : sumL l < 2 ^ 38) (at_ : Int) (c : UInt8) :
    callW F T 3 [.r (.sl 1 .any (bys y)), .r (.sl 1 kd (lst l)), .r (.int .i64 at_), .r (byR c)] [] = some (.r (.bool true), []) := by
  rw [callW_of (offT_mem hT (by simp)) (A := c3) rfl]
  have hlen := len_sum l
  have d7 : ∀ h, doCallU (callW F T) 7 [] h = some (.r (.bool true), h) := fun h => by
    rw [call_pure (by simp) (by simp) h7]; simp
  have d6 : ∀ h, doCallU (callW F T) 6 [.r (.sl 1 kd (lst l))] h = some (.r (.bool (decide (3000 < sumL l))), h) := fun h => by
    rw [call_pure (by simp) (by simp) (w6 (offT_mem hT (by simp)) kd l (by omega) (by omega))]; simp
  by_cases hy : 600 < y.length
  · have hy' : (600 : Int) < y.length := by omega
    simp [c3, bys_len, hy, hy', d7]
  have hy' : ¬ (600 : Int) < y.length := by omega
  by_cases hbig : 3000 < sumL l
  · simp [c3, bys_len, hy, hy', d6, d7, hbig]
  have he := encL_sum l (by omega)
  have d8 : ∀ h, doCallU (callW F T) 8 [.r (.sl 1 kd (lst l))] h = some (.sl 1 h.length 0 (encL l).length, h ++ [.rows 1 (bys (encL l))]) := fun h => by
    rw [call_pure (by simp) (by simp) (w8 (offT_sub hT (by decide)) (offT_mem hT (by simp)) kd l (by omega) (by omega))]; simp
  generalize encL l = D at *
  rcases Nat.eq_zero_or_pos D.length with h0 | h0
  · have hD0 : D = [] := List.length_eq_zero_iff.1 h0
    subst hD0
    obtain ⟨fr', key⟩ := r3 (T := T) (offT_sub hT (by decide)) y [] (by omega) (by simp)
    have hbn : bys [] = [] := rfl
    rw [hbn] at key d8
    simp at d8
    simp [c3, bys_len, hy, hy', d6, d8, hbig, elemsR]
    rw [key]
    · simp [d7]
    · simp
  · obtain ⟨m, hm, h9⟩ := w9 (T := T) (offT_mem hT (by simp)) at_ D.length h0 (by omega)
    have d9 : ∀ h, doCallU (callW F T) 9 [.r (.int .i64 at_), .r (.int .i64 D.length)] h = some (.r (.int .i64 m), h) := fun h => by
      rw [call_pure (by simp) (by simp) h9]; simp
    obtain ⟨fr', key⟩ := r3 (T := T) (offT_sub hT (by decide)) y (D.set m c) (by omega) (by rw [List.length_set]; omega)
    have hset : (bys D).set m (byR c) = bys (D.set m c) := by simp [bys, List.map_set]
    have hst : storeH [.rows 1 (bys D)] 1 (.r (byR c)) (.ptr 0 m 0) = some [.rows 1 (bys (D.set m c))] := by
      have hg : (bys D)[m]? = some (byR D[m]) := by simp [bys, hm]
      simp [storeH, hg, byR, setEl]
      rw [← hset]; rfl
    have hel := elems_whole (h := [.rows 1 (bys (D.set m c))]) (sz := 1) (b := 0) (n := D.length) (els := bys (D.set m c)) rfl (by rw [bys_len, List.length_set])
    have hm' : (m : Int) < D.length := by omega
    have h0' : (0 : Int) < D.length := by omega
    simp [c3, bys_len, hy, hy', d6, d8, d9, hbig, h0, h0', hm, hm', hst, hel]
    rw [key]
    · simp [d7]
    · simp
end Go.PV
