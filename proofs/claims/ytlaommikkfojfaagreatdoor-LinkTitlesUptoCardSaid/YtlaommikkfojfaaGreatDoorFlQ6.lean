/- Where a block lies: the binary search finds it. Plain Lean. -/
import Derived.Test.YtlaommikkfojfaaGreatDoorFlQ5
namespace Go.Fl
set_option maxRecDepth 100000
set_option linter.unusedSimpArgs false
theorem wrap_u64 {n : Int} (h0 : 0 ≤ n) (h1 : n < 18446744073709551616) : IntKind.u64.wrap n = n := by
  simp only [IntKind.wrap]
  simp [IntKind.bits, IntKind.signed]
  omega
theorem wrap_i64 {n : Int} (h0 : -9223372036854775808 ≤ n) (h1 : n ≤ 9223372036854775807) : IntKind.i64.wrap n = n := by
  simp only [IntKind.wrap]
  simp [IntKind.bits, IntKind.signed]
  omega
theorem wrap_i64_big {n : Int} (h0 : 9223372036854775807 < n) (h1 : n < 18446744073709551616) : IntKind.i64.wrap n = n - 18446744073709551616 := by
  simp only [IntKind.wrap]
  simp [IntKind.bits, IntKind.signed]
  omega
theorem mid_eq {s : Int} (h0 : 0 ≤ s) (h1 : s ≤ 4194304) : IntKind.i64.wrap (shrK .u64 (IntKind.u64.wrap s) (1 : Int)) = s / 2 := by
  rw [wrap_u64 h0 (by omega)]
  have h2 : shrK .u64 s 1 = s / 2 := by
    unfold shrK
    have : (2 : Int) ^ min (1 : Int).toNat IntKind.u64.bits = 2 := by decide
    rw [this, Int.fdiv_eq_ediv_of_nonneg _ (by omega)]
  rw [h2, wrap_i64 (by omega) (by omega)]
/-- What a base that has passed the first checks is. -/
structure Ord (base : List Block) : Prop where
  z : ∃ b : Block, base[0]? = some b ∧ b.id = 0
  lt : ∀ (i j : Nat) (a b : Block), i < j → base[i]? = some a → base[j]? = some b → a.id < b.id
  pos : ∀ (i : Nat) (b : Block), base[i]? = some b → 0 ≤ b.id ∧ b.id ≤ 1000000
  kids : ∀ b ∈ base, b.kids.length ≤ 500
  pe : ∀ b ∈ base, pErr b.props = 0
theorem Ord.inj {base : List Block} (h : Ord base) {i j : Nat} {a b : Block} (hi : base[i]? = some a) (hj : base[j]? = some b) (he : a.id = b.id) : i = j := by
  rcases Nat.lt_trichotomy i j with hl | he' | hl
  · have := h.lt i j a b hl hi hj; omega
  · exact he'
  · have := h.lt j i b a hl hj hi; omega
abbrev bsl := f_slices_BinarySearchFunc_api_Block_api_Block_int_1bcc_l1
theorem bs_step (x : List Block) (t : Int) (f lo hi : Nat) (hlh : lo < hi) (hhi : hi ≤ x.length) (hx : x.length ≤ 1048576) (b : Block) (hb : x[(lo + hi) / 2]? = some b) :
    bsl x t (f + 1) (lo : Int) (hi : Int) = cond (decide (IntKind.i64.wrap (b.id - t) < 0)) (bsl x t f (((lo + hi) / 2 + 1 : Nat) : Int) (hi : Int)) (bsl x t f (lo : Int) (((lo + hi) / 2 : Nat) : Int)) := by
  have hm : IntKind.i64.wrap (shrK .u64 (IntKind.u64.wrap ((lo : Int) + (hi : Int))) (1 : Int)) = (((lo + hi) / 2 : Nat) : Int) := by
    rw [mid_eq (by omega) (by omega)]; omega
  conv => lhs; unfold bsl f_slices_BinarySearchFunc_api_Block_api_Block_int_1bcc_l1
  rw [decide_eq_true (by omega), cond_true, ckI_ok (by omega) (by omega), hm, atL_nat, hb, Option.bind_some]
  unfold f_tree_index_1
  rw [Option.bind_some, ckI_ok (by omega) (by omega)]
  rfl
theorem bs_tot (x : List Block) (t : Int) (hx : x.length ≤ 1048576) : ∀ (k fuel lo hi : Nat), hi - lo ≤ k → lo ≤ hi → hi ≤ x.length → k < fuel → ∃ s : Nat, bsl x t fuel (lo : Int) (hi : Int) = some (s : Int) ∧ s ≤ x.length := by
  intro k
  induction k with
  | zero =>
    intro fuel lo hi hk hlh hhi hf
    obtain ⟨f, rfl⟩ : ∃ f, fuel = f + 1 := ⟨fuel - 1, by omega⟩
    refine ⟨lo, ?_, by omega⟩
    unfold bsl f_slices_BinarySearchFunc_api_Block_api_Block_int_1bcc_l1
    rw [decide_eq_false (by omega)]; rfl
  | succ k ih =>
    intro fuel lo hi hk hlh hhi hf
    obtain ⟨f, rfl⟩ : ∃ f, fuel = f + 1 := ⟨fuel - 1, by omega⟩
    by_cases hl : lo < hi
    · have hb := List.getElem?_eq_getElem (l := x) (i := (lo + hi) / 2) (by omega)
      rw [bs_step x t f lo hi hl hhi hx _ hb]
      by_cases h : IntKind.i64.wrap ((x[(lo + hi) / 2]'(by omega)).id - t) < 0
      · rw [decide_eq_true h, cond_true]; exact ih f _ hi (by omega) (by omega) hhi (by omega)
      · rw [decide_eq_false h, cond_false]; exact ih f lo _ (by omega) (by omega) (by omega) (by omega)
    · refine ⟨lo, ?_, by omega⟩
      unfold bsl f_slices_BinarySearchFunc_api_Block_api_Block_int_1bcc_l1
      rw [decide_eq_false (by omega)]; rfl
theorem bs_inv {x : List Block} (ho : Ord x) {t : Int} (ht : 0 ≤ t) (ht2 : t ≤ 9223372036854775807) (hx : x.length ≤ 1048576) : ∀ (k fuel lo hi : Nat), hi - lo ≤ k → lo ≤ hi → hi ≤ x.length → k < fuel → (∀ (j : Nat) (b : Block), j < lo → x[j]? = some b → b.id < t) → (∀ (j : Nat) (b : Block), hi ≤ j → x[j]? = some b → t ≤ b.id) →
    ∃ s : Nat, bsl x t fuel (lo : Int) (hi : Int) = some (s : Int) ∧ s ≤ x.length ∧ (∀ (j : Nat) (b : Block), j < s → x[j]? = some b → b.id < t) ∧ (∀ (j : Nat) (b : Block), s ≤ j → x[j]? = some b → t ≤ b.id) := by
  intro k
  induction k with
  | zero =>
    intro fuel lo hi hk hlh hhi hf h1 h2
    obtain ⟨f, rfl⟩ : ∃ f, fuel = f + 1 := ⟨fuel - 1, by omega⟩
    refine ⟨lo, ?_, by omega, h1, fun j b hj => h2 j b (by omega)⟩
    unfold bsl f_slices_BinarySearchFunc_api_Block_api_Block_int_1bcc_l1
    rw [decide_eq_false (by omega)]; rfl
  | succ k ih =>
    intro fuel lo hi hk hlh hhi hf h1 h2
    obtain ⟨f, rfl⟩ : ∃ f, fuel = f + 1 := ⟨fuel - 1, by omega⟩
    by_cases hl : lo < hi
    · have hb := List.getElem?_eq_getElem (l := x) (i := (lo + hi) / 2) (by omega)
      rw [bs_step x t f lo hi hl hhi hx _ hb]
      have hp := ho.pos _ _ hb
      have hw : IntKind.i64.wrap ((x[(lo + hi) / 2]'(by omega)).id - t) = (x[(lo + hi) / 2]'(by omega)).id - t := wrap_i64 (by omega) (by omega)
      rw [hw]
      by_cases h : (x[(lo + hi) / 2]'(by omega)).id - t < 0
      · rw [decide_eq_true h, cond_true]
        refine ih f _ hi (by omega) (by omega) hhi (by omega) (fun j b hj hjb => ?_) h2
        by_cases he : j = (lo + hi) / 2
        · subst he; rw [hb] at hjb; cases hjb; omega
        · have := ho.lt j ((lo + hi) / 2) b _ (by omega) hjb hb; omega
      · rw [decide_eq_false h, cond_false]
        refine ih f lo _ (by omega) (by omega) (by omega) (by omega) h1 (fun j b hj hjb => ?_)
        by_cases he : j = (lo + hi) / 2
        · subst he; rw [hb] at hjb; cases hjb; omega
        · have := ho.lt ((lo + hi) / 2) j _ b (by omega) hb hjb; omega
    · refine ⟨lo, ?_, by omega, h1, fun j b hj => h2 j b (by omega)⟩
      unfold bsl f_slices_BinarySearchFunc_api_Block_api_Block_int_1bcc_l1
      rw [decide_eq_false (by omega)]; rfl
/-- Where a block lies. -/
def posOf : List Block → Int → Option Nat
  | [], _ => none
  | b :: r, id => if b.id = id then some 0 else (posOf r id).map (· + 1)
theorem posOf_some {base : List Block} {id : Int} {i : Nat} (h : posOf base id = some i) : ∃ b, base[i]? = some b ∧ b.id = id := by
  induction base generalizing i with
  | nil => cases h
  | cons b r ih =>
    simp only [posOf] at h
    split at h
    · cases h; exact ⟨b, rfl, by assumption⟩
    · cases hp : posOf r id with
      | none => rw [hp] at h; cases h
      | some j => rw [hp] at h; cases h; obtain ⟨c, h1, h2⟩ := ih hp; exact ⟨c, by simpa using h1, h2⟩
theorem posOf_none {base : List Block} {id : Int} (h : posOf base id = none) : ∀ (i : Nat) (b : Block), base[i]? = some b → b.id ≠ id := by
  induction base with
  | nil => intro i b hb; simp at hb
  | cons a r ih =>
    simp only [posOf] at h
    split at h
    · cases h
    · cases hp : posOf r id with
      | some j => rw [hp] at h; cases h
      | none =>
        intro i b hb
        cases i with
        | zero => simp at hb; subst hb; assumption
        | succ i => exact ih hp i b (by simpa using hb)
theorem Ord.posOf {base : List Block} (h : Ord base) {i : Nat} {b : Block} (hb : base[i]? = some b) : Fl.posOf base b.id = some i := by
  cases hp : Fl.posOf base b.id with
  | none => exact absurd rfl (posOf_none hp i b hb)
  | some j => obtain ⟨c, h1, h2⟩ := posOf_some hp; rw [h.inj hb h1 h2.symm]
def posI (base : List Block) (id : Int) : Int := match posOf base id with
  | some i => (i : Int)
  | none => -1
theorem index_tree {base : List Block} (h : Ord base) (hs : SmB base) {id : Int} (hq : qI id) : f_tree_index base id = some (posI base id) := by
  have hlen := hs.len
  unfold f_tree_index f_slices_BinarySearchFunc_api_Block_api_Block_int_1bcc
  by_cases hid : 0 ≤ id
  · obtain ⟨s, e, h1, h2, h3⟩ := bs_inv h hid hq.2 (by omega) base.length FUEL 0 base.length (by omega) (by omega) (by omega) (FUEL_gt (by omega)) (fun j b hj => by omega) (fun j b hj hb => by have := (List.getElem?_eq_some_iff.1 hb).1; omega)
    have e' : f_slices_BinarySearchFunc_api_Block_api_Block_int_1bcc_l1 base id FUEL 0 ((base.length : Int)) = some (s : Int) := e
    rw [e', Option.bind_some]
    by_cases hsl : s < base.length
    · have hb := List.getElem?_eq_getElem hsl
      have hp := h.pos _ _ hb
      rw [decide_eq_true (show (s : Int) < (base.length : Int) by omega), cond_true, atL_nat, hb, Option.bind_some]
      unfold f_tree_index_1
      rw [Option.bind_some, Option.bind_some]
      dsimp only
      have hw : IntKind.i64.wrap ((base[s]).id - id) = (base[s]).id - id := wrap_i64 (by unfold qI at hq; omega) (by omega)
      rw [hw]
      by_cases he : (base[s]).id = id
      · rw [decide_eq_true (show (base[s]).id - id = 0 by omega)]
        have : posOf base id = some s := he ▸ h.posOf hb
        simp [posI, this]
      · rw [decide_eq_false (show ¬ ((base[s]).id - id = 0) by omega)]
        have : posOf base id = none := by
          cases hp : posOf base id with
          | none => rfl
          | some j =>
            obtain ⟨c, h4, h5⟩ := posOf_some hp
            rcases Nat.lt_or_ge j s with hjs | hjs
            · have := h2 j c hjs h4; omega
            · have h6 := h3 s _ (Nat.le_refl _) hb
              by_cases hjs' : j = s
              · subst hjs'; rw [hb] at h4; cases h4; exact absurd h5 he
              · have := h.lt s j _ c (by omega) hb h4; omega
        simp [posI, this]
    · rw [decide_eq_false (show ¬ ((s : Int) < (base.length : Int)) by omega), cond_false, Option.bind_some]
      have : posOf base id = none := by
        cases hp : posOf base id with
        | none => rfl
        | some j =>
          obtain ⟨c, h4, h5⟩ := posOf_some hp
          have := h2 j c (by have := (List.getElem?_eq_some_iff.1 h4).1; omega) h4; omega
      simp [posI, this]
  · obtain ⟨s, e, h1⟩ := bs_tot base id (by omega) base.length FUEL 0 base.length (by omega) (by omega) (by omega) (FUEL_gt (by omega))
    have e' : f_slices_BinarySearchFunc_api_Block_api_Block_int_1bcc_l1 base id FUEL 0 ((base.length : Int)) = some (s : Int) := e
    have hn : posOf base id = none := by
      cases hp : posOf base id with
      | none => rfl
      | some j => obtain ⟨c, h4, h5⟩ := posOf_some hp; have := h.pos j c h4; omega
    rw [e', Option.bind_some]
    by_cases hsl : s < base.length
    · have hb := List.getElem?_eq_getElem hsl
      have hp := h.pos _ _ hb
      rw [decide_eq_true (show (s : Int) < (base.length : Int) by omega), cond_true, atL_nat, hb, Option.bind_some]
      unfold f_tree_index_1
      rw [Option.bind_some, Option.bind_some]
      dsimp only
      have hw : IntKind.i64.wrap ((base[s]).id - id) ≠ 0 := by
        unfold qI at hq
        by_cases hbig : (base[s]).id - id ≤ 9223372036854775807
        · rw [wrap_i64 (by omega) hbig]; omega
        · rw [wrap_i64_big (by omega) (by omega)]; omega
      rw [decide_eq_false hw]
      simp [posI, hn]
    · rw [decide_eq_false (show ¬ ((s : Int) < (base.length : Int)) by omega), cond_false, Option.bind_some]
      simp [posI, hn]
theorem at_ref (id : Int) : ∀ (l : List Block) (v : Nat), f_florref1_at_l1 id l v = some (match posOf l id with | some i => .inr (v + i) | none => .inl ())
  | [], _ => rfl
  | b :: r, v => by
    have ih := at_ref id r (v + 1)
    unfold f_florref1_at_l1
    rw [condD, ih]
    simp only [posOf]
    by_cases h : b.id = id
    · rw [if_pos h, if_pos h]; rfl
    · rw [if_neg h, if_neg h]
      cases posOf r id with
      | none => rfl
      | some i => simp; omega
theorem index_ref (base : List Block) (id : Int) : f_florref1_at base id = some (posI base id) := by
  unfold f_florref1_at
  rw [at_ref, Option.bind_some]
  unfold posI
  cases posOf base id with
  | none => rfl
  | some i => simp [sumC]
end Go.Fl
