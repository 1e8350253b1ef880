/- FoldTitle and the document's own fold: the same, at last. Plain Lean. -/
import Derived.Test.YtlaommikkfojfaaGreatDoorFlQ2
namespace Go.Fl
set_option maxRecDepth 100000
set_option linter.unusedSimpArgs false
def ne0 (w : Bytes) : Bool := !decide (w = ([] : Bytes))
theorem index_loop (s : List Bytes) (hs : s.length ≤ 4194304) : ∀ (k fuel i : Nat), s.length - i = k → i ≤ s.length → k < fuel → (∀ j w, j < i → s[j]? = some w → ne0 w = true) →
    (f_slices_IndexFunc_string_string_0c06_l1 s fuel i = some (.inl ()) ∧ s.filter ne0 = s) ∨ ∃ m, f_slices_IndexFunc_string_string_0c06_l1 s fuel i = some (.inr m) ∧ s[m]? = some [] ∧ ∀ j w, j < m → s[j]? = some w → ne0 w = true := by
  intro k
  induction k with
  | zero =>
    intro fuel i hk hi hf hp
    obtain ⟨f, rfl⟩ : ∃ f, fuel = f + 1 := ⟨fuel - 1, by omega⟩
    left
    unfold f_slices_IndexFunc_string_string_0c06_l1
    rw [condD, if_neg (by omega)]
    refine ⟨rfl, List.filter_eq_self.2 fun w hw => ?_⟩
    obtain ⟨j, hj⟩ := List.getElem?_of_mem hw
    have := (List.getElem?_eq_some_iff.1 hj).1
    exact hp j w (by omega) hj
  | succ k ih =>
    intro fuel i hk hi hf hp
    obtain ⟨f, rfl⟩ : ∃ f, fuel = f + 1 := ⟨fuel - 1, by omega⟩
    have hget : s[i]? = some (s[i]'(by omega)) := List.getElem?_eq_getElem _
    unfold f_slices_IndexFunc_string_string_0c06_l1
    rw [condD, if_pos (by omega), hget, Option.bind_some]
    unfold f_link_FoldTitle_1
    rw [Option.bind_some, condD]
    by_cases hw : s[i]'(by omega) = ([] : Bytes)
    · rw [if_pos hw]
      exact .inr ⟨i, rfl, by rw [hget, hw], hp⟩
    · rw [if_neg hw, ckI_ok (by omega) (by omega)]
      exact ih f (i + 1) (by omega) (by omega) (by omega) fun j w hj hjw => by
        by_cases hji : j = i
        · subst hji
          rw [hget] at hjw; cases hjw
          simp [ne0, hw]
        · exact hp j w (by omega) hjw
theorem delete_loop : ∀ (k fuel : Nat) (s4 : List Bytes) (i j : Nat), s4.length - j = k → i < j → j ≤ s4.length → s4.length ≤ 4194304 → k < fuel →
    ∃ s' i', f_slices_DeleteFunc_string_string_0c06_l1 fuel s4 (i : Int) (j : Int) = some (s', ((i' : Nat) : Int)) ∧ s'.length = s4.length ∧ i' ≤ s4.length ∧ s'.take i' = s4.take i ++ (s4.drop j).filter ne0 := by
  intro k
  induction k with
  | zero =>
    intro fuel s4 i j hk hij hj hl hf
    obtain ⟨f, rfl⟩ : ∃ f, fuel = f + 1 := ⟨fuel - 1, by omega⟩
    refine ⟨s4, i, ?_, rfl, by omega, ?_⟩
    · unfold f_slices_DeleteFunc_string_string_0c06_l1
      rw [condD, if_neg (by omega)]
    · rw [List.drop_eq_nil_of_le (by omega)]; simp
  | succ k ih =>
    intro fuel s4 i j hk hij hj hl hf
    obtain ⟨f, rfl⟩ : ∃ f, fuel = f + 1 := ⟨fuel - 1, by omega⟩
    have hget : s4[j]? = some (s4[j]'(by omega)) := List.getElem?_eq_getElem _
    have hgi : s4[i]? = some (s4[i]'(by omega)) := List.getElem?_eq_getElem _
    have hdrop : s4.drop j = s4[j]'(by omega) :: s4.drop (j + 1) := drop_at hget
    unfold f_slices_DeleteFunc_string_string_0c06_l1
    rw [condD, if_pos (by omega), atL_nat, atL_nat, hget, hgi, Option.bind_some]
    unfold f_link_FoldTitle_1
    rw [Option.bind_some, Option.bind_some]
    by_cases hw : s4[j]'(by omega) = ([] : Bytes)
    · rw [hdrop, List.filter_cons_of_neg (by simp [ne0, hw])]
      obtain ⟨s', i', e1, e2, e3, e4⟩ := ih f s4 i (j + 1) (by omega) (by omega) (by omega) hl (by omega)
      refine ⟨s', i', ?_, e2, e3, e4⟩
      rw [decide_eq_true hw, Bool.not_true, cond_false, Option.bind_some]
      dsimp only
      rw [ckI_ok (by omega) (by omega)]
      exact e1
    · rw [hdrop, List.filter_cons_of_pos (by simp [ne0, hw])]
      obtain ⟨s', i', e1, e2, e3, e4⟩ := ih f (s4.set i (s4[j]'(by omega))) (i + 1) (j + 1) (by simp; omega) (by omega) (by simp; omega) (by simpa using hl) (by omega)
      rw [List.length_set] at e2 e3
      refine ⟨s', i', ?_, e2, e3, ?_⟩
      · rw [decide_eq_false hw, Bool.not_false, cond_true, ckI_ok (by omega) (by omega), Option.bind_some]
        dsimp only
        rw [ckI_ok (by omega) (by omega), Int.toNat_natCast]
        exact e1
      · rw [e4]
        have h1 : (s4.set i (s4[j]'(by omega))).drop (j + 1) = s4.drop (j + 1) := by
          apply List.ext_getElem?
          intro q
          rw [List.getElem?_drop, List.getElem?_drop, List.getElem?_set, if_neg (by omega)]
        have h2 : (s4.set i (s4[j]'(by omega))).take (i + 1) = s4.take i ++ [s4[j]'(by omega)] := by
          apply List.ext_getElem?
          intro q
          rw [List.getElem?_take, List.getElem?_set]
          by_cases hq : i = q
          · subst hq
            rw [if_pos (by omega), if_pos rfl, if_pos (by omega), List.getElem?_append_right (by rw [List.length_take]; omega), List.length_take, show i - min i s4.length = 0 by omega]; rfl
          · rw [if_neg hq]
            by_cases hq2 : q < i
            · rw [if_pos (by omega), List.getElem?_append_left (by rw [List.length_take]; omega), List.getElem?_take, if_pos hq2]
            · rw [if_neg (by omega), List.getElem?_eq_none (by simp only [List.length_append, List.length_take, List.length_cons, List.length_nil]; omega)]
        rw [h1, h2]; simp
def either {α : Type} : Sum α α → α
  | .inl a => a
  | .inr a => a
theorem delete_eq (s : List Bytes) (h : s.length ≤ 2097152) : ∃ r, f_slices_DeleteFunc_string_string_0c06 s = some r ∧ either r = s.filter ne0 := by
  have hi := index_loop s (by omega) s.length FUEL 0 (by omega) (by omega) (FUEL_gt (by omega)) (fun j w hj => by omega)
  have hd : ∀ m : Nat, s[m]? = some ([] : Bytes) → ∃ s' i', f_slices_DeleteFunc_string_string_0c06_l1 FUEL s (m : Int) ((m : Int) + 1) = some (s', ((i' : Nat) : Int)) ∧ s'.length = s.length ∧ i' ≤ s.length ∧ s'.take i' = s.take m ++ (s.drop (m + 1)).filter ne0 := fun m hm => by
    have hlt := (List.getElem?_eq_some_iff.1 hm).1
    exact delete_loop (s.length - (m + 1)) FUEL s m (m + 1) rfl (by omega) (by omega) (by omega) (FUEL_gt (by omega))
  unfold f_slices_DeleteFunc_string_string_0c06 f_slices_IndexFunc_string_string_0c06
  generalize FUEL = F at hi hd ⊢
  rcases hi with ⟨e, hf⟩ | ⟨m, e, hm, hp⟩
  · rw [e, Option.bind_some, sum_inl, Option.bind_some, condD, if_pos rfl]
    exact ⟨_, rfl, hf.symm⟩
  · obtain ⟨s', i', d1, d2, d3, d4⟩ := hd m hm
    have hlt := (List.getElem?_eq_some_iff.1 hm).1
    rw [e, Option.bind_some, sum_inr, Option.bind_some, condD]
    dsimp only
    rw [if_neg (by omega), ckI_ok (by omega) (by omega), d1, Option.bind_some]
    dsimp only
    have hn : ((i' : Nat) : Int).toNat = i' := by simp
    rw [hn, ckP_ok ⟨by omega, by omega⟩, ckP_ok (by omega), cutL_ok (by omega) (by omega) (by simp; omega), Option.bind_some]
    refine ⟨_, rfl, ?_⟩
    simp only [either, hn]
    rw [show (0 : Int).toNat = 0 from rfl, List.drop_zero, Nat.sub_zero, List.append_assoc, List.take_append_of_le_length (by simp; omega), List.take_take, Nat.min_self, d4]
    have h1 : s.filter ne0 = (s.take m).filter ne0 ++ (s.drop m).filter ne0 := by rw [← List.filter_append, List.take_append_drop]
    have h2 : (s.take m).filter ne0 = s.take m := List.filter_eq_self.2 fun w hw => by
      obtain ⟨j, hj⟩ := List.getElem?_of_mem hw
      rw [List.getElem?_take] at hj
      split at hj
      · exact hp j w (by assumption) hj
      · cases hj
    rw [h1, h2, drop_at hm, List.filter_cons_of_neg (by simp [ne0])]
theorem index2 : ∀ (fuel : Nat) (s : List Bytes) (i : Nat), f_slices_IndexFunc_string_string_582f_l1 s fuel i = f_slices_IndexFunc_string_string_0c06_l1 s fuel i
  | 0, _, _ => rfl
  | n + 1, s, i => by
    unfold f_slices_IndexFunc_string_string_582f_l1 f_slices_IndexFunc_string_string_0c06_l1
    rw [index2 n s (i + 1)]; rfl
theorem delete2 : ∀ (fuel : Nat) (s : List Bytes) (i j : Int), f_slices_DeleteFunc_string_string_582f_l1 fuel s i j = f_slices_DeleteFunc_string_string_0c06_l1 fuel s i j
  | 0, _, _, _ => rfl
  | n + 1, s, i, j => by
    have ih := fun s i j => delete2 n s i j
    unfold f_slices_DeleteFunc_string_string_582f_l1 f_slices_DeleteFunc_string_string_0c06_l1
    simp only [ih]; rfl
theorem delete2_eq (s : List Bytes) : f_slices_DeleteFunc_string_string_582f s = f_slices_DeleteFunc_string_string_0c06 s := by
  unfold f_slices_DeleteFunc_string_string_582f f_slices_DeleteFunc_string_string_0c06 f_slices_IndexFunc_string_string_582f f_slices_IndexFunc_string_string_0c06
  generalize FUEL = F
  rw [index2]
  simp only [delete2]
/-- A title, folded. -/
def fold (s : Bytes) : Bytes := joinB ((spl s).filter ne0) [32]
theorem join_len : ∀ l : List Bytes, (joinB l [32]).length ≤ (l.map (·.length)).sum + l.length
  | [] => by simp [joinB, Go.Lib.join, List.intercalate]
  | [x] => by simp [joinB, Go.Lib.join_one]
  | x :: y :: r => by
    have h := join_len (y :: r)
    have h1 : joinB (x :: y :: r) [32] = x ++ [32] ++ joinB (y :: r) [32] := by
      simp [joinB, Go.Lib.join_cons, Go.Lib.joinTail]
    rw [h1]; simp at h ⊢; omega
theorem spl_sum : ∀ s : Bytes, ((spl s).map (·.length)).sum + (spl s).length = s.length + 1
  | [] => rfl
  | c :: r => by
    have ih := spl_sum r
    simp only [spl]
    by_cases hc : c = 32
    · rw [if_pos hc]; simp; omega
    · rw [if_neg hc]
      cases h : spl r with
      | nil => rw [h] at ih; simp at ih
      | cons x t => rw [h] at ih; simp at ih ⊢; omega
theorem sum_filter (p : Bytes → Bool) : ∀ l : List Bytes, ((l.filter p).map (·.length)).sum + (l.filter p).length ≤ (l.map (·.length)).sum + l.length
  | [] => by simp
  | x :: l => by
    have := sum_filter p l
    by_cases h : p x = true
    · rw [List.filter_cons_of_pos h]; simp; omega
    · rw [List.filter_cons_of_neg h]; simp; omega
theorem fold_len (s : Bytes) : (fold s).length ≤ s.length + 1 := by
  have h1 := join_len ((spl s).filter ne0)
  have h2 := sum_filter ne0 (spl s)
  have h3 := spl_sum s
  unfold fold; omega
theorem joinC_eq (s : Bytes) (h : s.length ≤ 1048576) : joinC ((spl s).filter ne0) [32] = some (fold s) := by
  have h2 := sum_filter ne0 (spl s)
  have h3 := spl_sum s
  have h4 := fold_len s
  unfold joinC
  rw [ckN_ok (by omega), ckN_ok (by unfold fold at h4; omega)]
  rfl
theorem join_map (f : UInt8 → UInt8) (hf : f 32 = 32) : ∀ l : List Bytes, joinB (l.map (·.map f)) [32] = (joinB l [32]).map f
  | [] => by simp [joinB, Go.Lib.join, List.intercalate]
  | [x] => by simp [joinB, Go.Lib.join_one]
  | x :: y :: r => by
    have h := join_map f hf (y :: r)
    have h1 : ∀ (x y : Bytes) (r : List Bytes), joinB (x :: y :: r) [32] = x ++ [32] ++ joinB (y :: r) [32] := fun x y r => by
      simp [joinB, Go.Lib.join_cons, Go.Lib.joinTail]
    rw [h1, List.map_cons, List.map_cons, h1]
    rw [List.map_cons] at h
    rw [h]; simp [hf]
theorem fold_lo (s : Bytes) : fold (s.map lo) = (fold s).map lo := by
  unfold fold
  rw [spl_map, ← join_map lo rfl]
  congr 1
  rw [List.filter_map]
  congr 1
  apply List.filter_congr
  intro w _
  simp only [Function.comp, ne0]
  congr 1
  simp
theorem FoldTitle_eq (s : Bytes) (h : s.length ≤ 1048576) : f_link_FoldTitle s = some ((fold s).map lo) := by
  have hl : (s.map lo).length ≤ 1048576 := by simpa using h
  have hsl := spl_len (s.map lo)
  have hc : (s.map lo).count 32 ≤ (s.map lo).length := List.count_le_length
  obtain ⟨r, h1, h2⟩ := delete_eq (spl (s.map lo)) (by omega)
  unfold f_link_FoldTitle
  rw [lower_eq s h, Option.bind_some, split_eq _ hl, Option.bind_some, h1, Option.bind_some]
  have h3 := joinC_eq _ hl
  rw [← h2] at h3
  cases r with
  | inl a => rw [sum_inl]; simp only [either] at h3; rw [h3, Option.bind_some, fold_lo]
  | inr a => rw [sum_inr]; simp only [either] at h3; rw [h3, Option.bind_some, fold_lo]
theorem FoldOfTitle_eq (s : Bytes) (h : s.length ≤ 1048576) : f_florref2_FoldOfTitle s = some ((fold s).map lo) := by
  have hsl := spl_len s
  have hc : s.count 32 ≤ s.length := List.count_le_length
  obtain ⟨r, h1, h2⟩ := delete_eq (spl s) (by omega)
  have h4 := fold_len s
  unfold f_florref2_FoldOfTitle
  rw [split_eq _ h, Option.bind_some, delete2_eq, h1, Option.bind_some]
  have h3 := joinC_eq _ h
  rw [← h2] at h3
  cases r with
  | inl a => rw [sum_inl]; simp only [either] at h3; rw [h3, Option.bind_some, small_eq _ (by omega), Option.bind_some]
  | inr a => rw [sum_inr]; simp only [either] at h3; rw [h3, Option.bind_some, small_eq _ (by omega), Option.bind_some]
end Go.Fl
