/- The names of a page; the whole law. Plain Lean. -/
import Derived.Test.YtlaommikkfojfaaGreatDoorFlQ13
namespace Go.Fl
set_option maxRecDepth 100000
set_option linter.unusedSimpArgs false
theorem names_loop : ∀ (l out : List Bytes) (seen : List (Bytes × Bool)), (∀ t ∈ l, t.length ≤ 1048576) → out.length + l.length ≤ 4194304 → seen.length + l.length ≤ 4194304 →
    ∃ r, f_link_view_names_42fa_l1 l out seen = some r ∧ f_florref2_book_names_l1 l out seen = some r ∧ r.length ≤ out.length + l.length
  | [], out, _, _, _, _ => ⟨out, rfl, rfl, by simp⟩
  | t :: l, out, seen, ht, h1, h2 => by
    simp only [List.length_cons] at h1 h2
    have htt := ht t List.mem_cons_self
    unfold f_link_view_names_42fa_l1 f_florref2_book_names_l1
    rw [FoldTitle_eq t htt, FoldOfTitle_eq t htt, Option.bind_some, Option.bind_some]
    cases hm : (!((mget seen ((fold t).map lo)).getD false)) with
    | true =>
      have hl := mset_len seen ((fold t).map lo) true
      obtain ⟨r, e1, e2, e3⟩ := names_loop l (out ++ [t]) (mset seen ((fold t).map lo) true) (fun x hx => ht x (List.mem_cons_of_mem _ hx)) (by simp; omega) (by omega)
      refine ⟨r, ?_, ?_, by simp at e3 ⊢; omega⟩
      · rw [cond_true, ckN_ok (by omega), ckN_ok (by simp; omega)]; exact e1
      · rw [cond_true, ckN_ok (by omega), ckN_ok (by simp; omega)]; exact e2
    | false =>
      obtain ⟨r, e1, e2, e3⟩ := names_loop l out seen (fun x hx => ht x (List.mem_cons_of_mem _ hx)) (by omega) (by omega)
      exact ⟨r, by rw [cond_false]; exact e1, by rw [cond_false]; exact e2, by simp; omega⟩
theorem index_int (s : List Int) (v : Int) (hs : s.length ≤ 4194304) : ∀ (rest : List Int) (fuel i : Nat), s.drop i = rest → rest.length < fuel → ∃ r, f_slices_Index_int_int_l1 s v fuel i = some r ∧ ((v ∈ rest → ∃ j, r = .inr j) ∧ (v ∉ rest → r = .inl ()))
  | [], fuel, i, hd, hf => by
    obtain ⟨g, rfl⟩ : ∃ g, fuel = g + 1 := ⟨fuel - 1, by simp at hf; omega⟩
    have := List.drop_eq_nil_iff.1 hd
    refine ⟨.inl (), ?_, fun h => by simp at h, fun _ => rfl⟩
    unfold f_slices_Index_int_int_l1
    rw [decide_eq_false (by omega)]; rfl
  | x :: rest, fuel, i, hd, hf => by
    obtain ⟨g, rfl⟩ : ∃ g, fuel = g + 1 := ⟨fuel - 1, by simp at hf; omega⟩
    have hx : s[i]? = some x := by
      have := congrArg (·[0]?) hd
      simpa using this
    have hi := (List.getElem?_eq_some_iff.1 hx).1
    have hn : s.drop (i + 1) = rest := by rw [← List.drop_drop, hd]; rfl
    obtain ⟨r, e1, e2, e3⟩ := index_int s v hs rest g (i + 1) hn (by simp at hf; omega)
    unfold f_slices_Index_int_int_l1
    rw [decide_eq_true (by omega), cond_true, hx, Option.bind_some, condD]
    by_cases h : v = x
    · rw [if_pos h]
      exact ⟨_, rfl, fun _ => ⟨i, rfl⟩, fun hno => absurd (by simp [h]) hno⟩
    · rw [if_neg h, ckI_ok (by omega) (by omega)]
      refine ⟨r, e1, fun hm => e2 ?_, fun hm => e3 fun hh => hm (by simp [hh])⟩
      simp only [List.mem_cons] at hm
      exact hm.resolve_left h
theorem contains_int (s : List Int) (v : Int) (hs : s.length ≤ 4194304) : f_slices_Contains_int_int s v = some (decide (v ∈ s)) := by
  obtain ⟨r, e1, e2, e3⟩ := index_int s v hs s FUEL 0 rfl (FUEL_gt (by omega))
  unfold f_slices_Contains_int_int f_slices_Index_int_int
  rw [e1, Option.bind_some]
  by_cases h : v ∈ s
  · obtain ⟨j, hj⟩ := e2 h
    rw [hj, sum_inr, Option.bind_some, decide_eq_true h, decide_eq_true (by omega)]
  · rw [e3 h, sum_inl, Option.bind_some, decide_eq_false h]; rfl
theorem names_same {base : List Block} (hs : SmB base) (hq : QK base) (page : Int) : ∃ r : List Bytes × Int, f_link_Names base page = some r ∧ f_florref2_NamesFor base page = some r ∧ r.1.length ≤ 4194304 := by
  obtain ⟨e, h1, h2⟩ := look_eq hs hq
  unfold f_link_Names f_link_lookAt_2dde f_florref2_NamesFor f_florref2_open
  rw [h1, Option.bind_some, Option.bind_some]
  dsimp only
  rcases h2 with ⟨he, h2⟩ | ⟨he, hg, z, m1, m3, t, a, hz, hz0, h2, h3, h4, h5, h6⟩
  · rw [h2, Option.bind_some, sum_inl, decide_eq_true he, cond_true, Option.bind_some, sum_inl]
    dsimp only
    rw [decide_eq_true he, cond_true, decide_eq_false he, cond_false, Option.bind_some, cond_false, Option.bind_some, decide_eq_true he, cond_true]
    exact ⟨_, rfl, rfl, by simp⟩
  · have hzm := List.mem_of_getElem? hz
    have hk := hg.kids z hzm
    subst he
    have hisp : f_florref2_book_isPage ⟨base⟩ page = some (decide (page ∈ z.kids)) := by
      unfold f_florref2_book_isPage f_florref2_book_pages
      dsimp only
      rw [hz, Option.bind_some, Option.bind_some, contains_int _ _ (by omega), Option.bind_some]
      by_cases hp : page ∈ z.kids
      · have := (hg.toTr.pg hz hp).pos
        rw [decide_eq_true this]; rfl
      · rw [decide_eq_false hp]
        by_cases h0 : 0 < page
        · rw [decide_eq_true h0]; rfl
        · rw [decide_eq_false h0]; rfl
    have hpage : f_link_view_isPage_42fa base m1 m3 t a page = some (decide (page ∈ z.kids), base, m1, m3, t, a) := by
      unfold f_link_view_isPage_42fa
      by_cases hp : page ∈ z.kids
      · have hpos := (hg.toTr.pg hz hp).pos
        rw [decide_eq_true (show page ≠ 0 by omega), cond_true, h5 page hp, Option.getD_some, decide_eq_true rfl, decide_eq_true hp]
      · by_cases h0 : page ≠ 0
        · rw [decide_eq_true h0, cond_true, decide_eq_false hp]
          have : ¬ ((mget m3 page).getD 0 = page) := fun hh => by
            cases hm : mget m3 page with
            | none => rw [hm] at hh; exact h0 hh.symm
            | some v =>
              rw [hm] at hh
              have := h4 page v hm
              rw [Option.getD_some] at hh
              rw [hh] at this
              exact hp this
          rw [decide_eq_false this]
        · rw [decide_eq_false h0, cond_false, decide_eq_false hp]
    rw [h2, Option.bind_some, sum_inr, decide_eq_false (fun h => h rfl), cond_false]
    unfold f_link_lookAt_2dde_l2
    dsimp only
    rw [hpage, Option.bind_some, decide_eq_true (show (0 : Int) = 0 from rfl), cond_true, hisp, Option.bind_some, Option.bind_some]
    dsimp only
    by_cases hp : page ∈ z.kids
    · rw [decide_eq_true hp, Bool.not_true, cond_false, cond_false, Option.bind_some]
      unfold f_link_lookAt_2dde_l2
      rw [Option.bind_some, sum_inl, Option.bind_some, sum_inr, decide_eq_false (fun h => h rfl), cond_false]
      dsimp only
      rw [cond_false]
      have hpg := hg.toTr.pg hz hp
      obtain ⟨i, hi, hid⟩ := hpg.at_
      have hm := hpg.mem
      have hprops := hs.props hm
      have htx := hs.text hm
      have hal := aliasL_len (bk base page).props
      obtain ⟨r, e1, e2, e3⟩ := names_loop ([(bk base page).text] ++ aliasL (bk base page).props) [] [] (fun x hx => by
        rcases List.mem_append.1 hx with hx | hx
        · simp at hx; subst hx; omega
        · have := aliasL_mem hx; omega) (by simp; omega) (by simp; omega)
      have hr : r.length ≤ 4194304 := by simp at e3; omega
      have hl : f_link_view_names_42fa base m1 m3 t a page = some (r, base, m1, m3, t, a) := by
        have h1i := h3 i _ hi
        rw [hid] at h1i
        unfold f_link_view_names_42fa f_link_view_block_42fa
        rw [h1i, Option.getD_some, atL_nat, hi, Option.bind_some, Option.bind_some]
        dsimp only
        rw [aliases_link hs hm, Option.bind_some, ckN_ok (by simp; omega), e1, Option.bind_some]
        unfold f_slices_Clip_string_string_77a5
        rw [cutL_ok (by omega) (by omega) (by omega), Option.bind_some, Option.bind_some]
        simp
      have hb : f_florref2_book_names ⟨base⟩ page = some r := by
        unfold f_florref2_book_names
        rw [block_eq hs hpg hg.toOrd, Option.bind_some, sum_inr]
        dsimp only
        rw [aliases_ref hs hg.toOrd hpg, Option.bind_some, ckN_ok (by simp; omega), e2, Option.bind_some]
      rw [hl, Option.bind_some, hb, Option.bind_some]
      exact ⟨_, rfl, rfl, hr⟩
    · rw [decide_eq_false hp, Bool.not_false, cond_true, Option.bind_some, sum_inr, Option.bind_some, sum_inl, cond_true, Option.bind_some]
      dsimp only
      rw [decide_eq_true (show (7 : Int) ≠ 0 by omega), cond_true]
      exact ⟨_, rfl, rfl, by simp⟩
theorem equal_refl (s : List Bytes) (hs : s.length ≤ 4194304) : f_slices_Equal_string_string s s = some true := by
  have key : ∀ k fuel v, s.length - v ≤ k → k < fuel → f_slices_Equal_string_string_l1 s s fuel v = some (.inl ()) := by
    intro k
    induction k with
    | zero =>
      intro fuel v hk hf
      obtain ⟨f, rfl⟩ : ∃ f, fuel = f + 1 := ⟨fuel - 1, by omega⟩
      unfold f_slices_Equal_string_string_l1
      rw [decide_eq_false (by omega)]; rfl
    | succ k ih =>
      intro fuel v hk hf
      obtain ⟨f, rfl⟩ : ∃ f, fuel = f + 1 := ⟨fuel - 1, by omega⟩
      unfold f_slices_Equal_string_string_l1
      by_cases h : v < s.length
      · have hg := List.getElem?_eq_getElem h
        rw [decide_eq_true (by omega), cond_true, hg, Option.bind_some, Option.bind_some, decide_eq_false (fun h => h rfl), cond_false, ckI_ok (by omega) (by omega)]
        exact ih f (v + 1) (by omega) (by omega)
      · rw [decide_eq_false (by omega)]; rfl
  have h1 := key s.length FUEL 0 (by omega) (FUEL_gt (by omega))
  unfold f_slices_Equal_string_string
  rw [decide_eq_false (fun h => h rfl), cond_false, h1, Option.bind_some, sum_inl]
theorem linkTitles_law {base : List Block} {title : Bytes} (page : Int) (hs : SmB base) (hq : QK base) (ht : title.length ≤ 1048576) : f_florlaw2_LinkTitles base title page = some true := by
  obtain ⟨r, p1, p2⟩ := page_same hs hq ht
  obtain ⟨n, n1, n2, n3⟩ := names_same hs hq page
  unfold f_florlaw2_LinkTitles
  rw [p1, p2, n1, n2, Option.bind_some, Option.bind_some, Option.bind_some, Option.bind_some]
  rw [decide_eq_true rfl, cond_true, decide_eq_true rfl, cond_true, decide_eq_true rfl, cond_true, equal_refl _ n3, Option.bind_some, cond_true, FoldTitle_eq _ ht, FoldOfTitle_eq _ ht, Option.bind_some, Option.bind_some, decide_eq_true rfl]
end Go.Fl
