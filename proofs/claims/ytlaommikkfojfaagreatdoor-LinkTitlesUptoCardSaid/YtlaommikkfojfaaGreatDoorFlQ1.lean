/- FoldTitle and the document's own fold: the same. Plain Lean. -/
import Derived.Test.YtlaommikkfojfaaGreatDoorFlQ0
namespace Go.Fl
set_option maxRecDepth 100000
set_option linter.unusedSimpArgs false
def spl : Bytes → List Bytes
  | [] => [[]]
  | c :: r => if c = 32 then [] :: spl r else match spl r with
    | h :: t => (c :: h) :: t
    | [] => [[c]]
theorem spl_first : ∀ s : Bytes, (indexB s 32 = -1 ∧ s.count 32 = 0 ∧ spl s = [s]) ∨ ∃ pre rest, s = pre ++ 32 :: rest ∧ indexB s 32 = (pre.length : Int) ∧ spl s = pre :: spl rest ∧ s.count 32 = rest.count 32 + 1
  | [] => .inl ⟨rfl, rfl, rfl⟩
  | c :: r => by
    by_cases hc : c = 32
    · subst hc
      right
      refine ⟨[], r, rfl, ?_, ?_, ?_⟩
      · simp [indexB, Go.Lib.indexByte]
      · simp [spl]
      · simp
    · have h32 : ((32 : Int).toNat.toUInt8) = (32 : UInt8) := rfl
      have hb : (c == (32 : UInt8)) = false := by simpa using hc
      rcases spl_first r with ⟨h1, h2, h3⟩ | ⟨pre, rest, h1, h2, h3, h4⟩
      · left
        refine ⟨?_, ?_, ?_⟩
        · simp only [indexB, h32] at h1 ⊢
          simp [Go.Lib.indexByte, hb, h1]
        · rw [List.count_cons, h2]; simp [hb]
        · simp [spl, hc, h3]
      · right
        refine ⟨c :: pre, rest, by simp [h1], ?_, ?_, ?_⟩
        · simp only [indexB, h32] at h2 ⊢
          have hne : ¬ ((pre.length : Int) = -1) := by omega
          simp [Go.Lib.indexByte, hb, h2, hne]
        · simp [spl, hc, h3]
        · rw [List.count_cons, h4]; simp [hb]
theorem spl_len : ∀ s : Bytes, (spl s).length = s.count 32 + 1
  | [] => rfl
  | c :: r => by
    have ih := spl_len r
    simp only [spl]
    by_cases hc : c = 32
    · subst hc; simp [ih]
    · have hb : (c == (32 : UInt8)) = false := by simpa using hc
      rw [if_neg hc, List.count_cons, if_neg (by simp [hb])]
      cases h : spl r with
      | nil => rw [h] at ih; simp at ih
      | cons x t => rw [h] at ih; simpa using ih
theorem index_eq (s : Bytes) : f_strings_Index_8e1a s = some (indexB s 32) := by
  simp only [f_strings_Index_8e1a, f_internal_stringslite_Index_8e1a, f_internal_stringslite_IndexByte_6766, condD, Option.bind_some]
  by_cases h : ([32] : Bytes) = s
  · rw [if_pos h, ← h]; rfl
  · rw [if_neg h]; rfl
theorem genSplit_loop (s : Bytes) (n : Nat) (hn : n ≤ 2097152) (hs : n ≤ s.length) : ∀ (m fuel : Nat) (s3 : Bytes) (a4 : List Bytes) (i : Nat), s3.count 32 = m → i + m = n → a4.length = n + 1 → m < fuel → s3.length ≤ 2097152 →
    ∃ last a', f_strings_genSplit_7a42_l1 s (n : Int) fuel s3 a4 i = some (last, a', n) ∧ a'.length = a4.length ∧ a'.set n last = a4.take i ++ spl s3 := by
  have hmin : (if ((s.length : Int) + 1) < ((n : Int) + 1) then ((s.length : Int) + 1) else ((n : Int) + 1)) - 1 = (n : Int) := by
    rw [if_neg (by omega)]; omega
  intro m
  induction m with
  | zero =>
    intro fuel s3 a4 i hc hi ha hf hl
    obtain ⟨f, rfl⟩ : ∃ f, fuel = f + 1 := ⟨fuel - 1, by omega⟩
    have hin : i = n := by omega
    subst hin
    refine ⟨s3, a4, ?_, rfl, ?_⟩
    · simp only [f_strings_genSplit_7a42_l1, hmin, condD]
      rw [if_neg (by omega)]
    · have hsp : spl s3 = [s3] := by
        rcases spl_first s3 with ⟨_, _, h⟩ | ⟨_, _, _, _, _, h⟩
        · exact h
        · omega
      rw [hsp]
      apply List.ext_getElem?
      intro k
      rw [List.getElem?_set]
      by_cases hk : i = k
      · subst hk
        simp [ha, List.getElem?_append_right]
      · rw [if_neg hk]
        by_cases hk2 : k < i
        · rw [List.getElem?_append_left (by simp; omega), List.getElem?_take, if_pos hk2]
        · rw [List.getElem?_eq_none (by omega), List.getElem?_eq_none (by simp; omega)]
  | succ m ih =>
    intro fuel s3 a4 i hc hi ha hf hl
    obtain ⟨f, rfl⟩ : ∃ f, fuel = f + 1 := ⟨fuel - 1, by omega⟩
    rcases spl_first s3 with ⟨_, h0, _⟩ | ⟨pre, rest, h1, h2, h3, h4⟩
    · omega
    have hlen : s3.length = pre.length + rest.length + 1 := by rw [h1]; simp; omega
    have hai : ∃ x, a4[i]? = some x := ⟨a4[i]'(by omega), List.getElem?_eq_getElem (by omega)⟩
    obtain ⟨x, hx⟩ := hai
    obtain ⟨last, a', e1, e2, e3⟩ := ih f rest (a4.set i pre) (i + 1) (by omega) (by omega) (by simpa using ha) (by omega) (by omega)
    refine ⟨last, a', ?_, by rw [e2]; simp, ?_⟩
    · simp only [f_strings_genSplit_7a42_l1, hmin, condD]
      rw [if_pos (by omega), index_eq, Option.bind_some, h2, if_neg (by omega), ckI_ok (by omega) (by omega), cutL_ok (by omega) (by omega) (by omega), Option.bind_some, hx, Option.bind_some, ckI_ok (by omega) (by omega), cutL_ok (by omega) (by omega) (by omega), Option.bind_some, ckI_ok (by omega) (by omega)]
      have p1 : (s3.drop (0 : Int).toNat).take (((pre.length : Int) + 0).toNat - (0 : Int).toNat) = pre := by
        rw [h1]; simp
      have p2 : (s3.drop ((pre.length : Int) + 1).toNat).take ((s3.length : Int).toNat - ((pre.length : Int) + 1).toNat) = rest := by
        have : ((pre.length : Int) + 1).toNat = pre.length + 1 := by omega
        rw [this, h1]
        rw [show pre ++ 32 :: rest = (pre ++ [32]) ++ rest by simp, List.drop_append_of_le_length (by simp)]
        have : (pre ++ [32]).drop (pre.length + 1) = [] := by apply List.drop_eq_nil_of_le; simp
        rw [this, List.nil_append]
        apply List.take_of_length_le
        simp; omega
      rw [p1, p2]
      exact e1
    · rw [e3, h3]
      have : (a4.set i pre).take (i + 1) = a4.take i ++ [pre] := by
        apply List.ext_getElem?
        intro k
        rw [List.getElem?_take, List.getElem?_set]
        by_cases hk : i = k
        · subst hk
          rw [if_pos (by omega), if_pos rfl, if_pos (by omega), List.getElem?_append_right (by rw [List.length_take]; omega), List.length_take, show i - min i a4.length = 0 by omega]; rfl
        · rw [if_neg hk]
          by_cases hk2 : k < i
          · rw [if_pos (by omega), List.getElem?_append_left (by rw [List.length_take]; omega), List.getElem?_take, if_pos hk2]
          · rw [if_neg (by omega), List.getElem?_eq_none (by simp only [List.length_append, List.length_take, List.length_cons, List.length_nil]; omega)]
      rw [this]; simp
theorem x1 (s : Bytes) (h : s.length ≤ 1048576) (F : Nat) (hF : 1048577 < F) : s.count 32 < F := by
  have hcl : s.count 32 ≤ s.length := List.count_le_length
  omega
theorem x2 (s : Bytes) (h : s.length ≤ 1048576) : s.length ≤ 2097152 := by omega
theorem x3 (s : Bytes) (h : s.length ≤ 1048576) : s.count 32 ≤ 2097152 := by
  have hcl : s.count 32 ≤ s.length := List.count_le_length
  omega
theorem x4 (s : Bytes) : (List.replicate (s.count 32 + 1) ([] : Bytes)).length = s.count 32 + 1 := by simp
theorem genSplit_eq (s : Bytes) (h : s.length ≤ 1048576) (F : Nat) (hF : 1048577 < F) : ∃ t : Bytes × List Bytes × Nat, f_strings_genSplit_7a42_l1 s ((s.count 32 : Nat) : Int) F s (List.replicate (s.count 32 + 1) []) 0 = some t ∧ t.2.2 = s.count 32 ∧ t.2.1.length = s.count 32 + 1 ∧ t.2.1.set (s.count 32) t.1 = spl s := by
  have hcl : s.count 32 ≤ s.length := List.count_le_length
  obtain ⟨last, a', e1, e2, e3⟩ := genSplit_loop s (s.count 32) (x3 s h) hcl (s.count 32) F s (List.replicate (s.count 32 + 1) []) 0 rfl (Nat.zero_add _) (x4 s) (x1 s h F hF) (x2 s h)
  exact ⟨_, e1, rfl, e2.trans (x4 s), e3⟩
end Go.Fl
