/- How deep the blocks lie: by breadth. Plain Lean. -/
import Derived.Test.YtlaommikkfojfaaGreatDoorFlQ7
namespace Go.Fl
set_option maxRecDepth 100000
set_option linter.unusedSimpArgs false
inductive Rch (base : List Block) : Int → Nat → Prop
  | root : Rch base 0 0
  | kid {x : Block} {k : Int} {d : Nat} : x ∈ base → Rch base x.id d → k ∈ x.kids → Rch base k (d + 1)
theorem Tr.par {base : List Block} (h : Tr base) {x y : Block} (hx : x ∈ base) (hy : y ∈ base) {k : Int} (h1 : k ∈ x.kids) (h2 : k ∈ y.kids) : x.id = y.id := by
  obtain ⟨_, i, b, a1, a2, a3⟩ := h.kid x hx k h1
  obtain ⟨_, j, c, b1, b2, b3⟩ := h.kid y hy k h2
  have := h.inj a1 b1 (by omega)
  subst this
  rw [a1] at b1; cases b1; omega
theorem Rch.uniq {base : List Block} (h : Tr base) {k : Int} {d : Nat} (h1 : Rch base k d) : ∀ {d' : Nat}, Rch base k d' → d = d' := by
  induction h1 with
  | root =>
    intro d' h2
    cases h2 with
    | root => rfl
    | kid hx _ hk => exact absurd rfl (h.kid _ hx _ hk).1
  | kid hx hr hk ih =>
    intro d' h2
    cases h2 with
    | root => exact absurd rfl (h.kid _ hx _ hk).1
    | kid hy hr2 hk2 =>
      have he := h.par hx hy hk hk2
      rw [← he] at hr2
      rw [ih hr2]
theorem Ord.mem_pos {base : List Block} (h : Ord base) {x : Block} (hx : x ∈ base) : ∃ i, Fl.posOf base x.id = some i ∧ base[i]? = some x := by
  obtain ⟨i, hi⟩ := List.getElem?_of_mem hx
  exact ⟨i, h.posOf hi, hi⟩
theorem Ord.same {base : List Block} (h : Ord base) {x y : Block} (hx : x ∈ base) (hy : y ∈ base) (he : x.id = y.id) : x = y := by
  obtain ⟨i, hi⟩ := List.getElem?_of_mem hx
  obtain ⟨j, hj⟩ := List.getElem?_of_mem hy
  have := h.inj hi hj he
  subst this
  rw [hi] at hj; cases hj; rfl
structure BI (base : List Block) (at_ : List (Int × Int)) : Prop where
  s : ∀ k v, mget at_ k = some v → ∃ d : Nat, v = (d : Int) ∧ Rch base k d ∧ d < at_.length
  nd : (keys at_).Nodup
  ids : ∀ k ∈ keys at_, k ∈ base.map (·.id)
theorem BI.len {base : List Block} {at_ : List (Int × Int)} (h : BI base at_) : at_.length ≤ base.length := by
  have := nodup_le h.nd h.ids
  rw [keys_length] at this
  simpa using this
theorem bfs_kids {base : List Block} (h : Tr base) (hs : SmB base) {x : Block} (hx : x ∈ base) : ∀ (rest : List Int) (at_ : List (Int × Int)) (todo : List Int), (∀ k ∈ rest, k ∈ x.kids) → BI base at_ → (mget at_ x.id).isSome = true → todo.length ≤ at_.length →
    ∃ at' new, f_tree_depths_l2 x rest at_ todo = some (at', todo ++ new) ∧ BI base at' ∧ (∀ k v, mget at_ k = some v → mget at' k = some v) ∧ (∀ k ∈ rest, (mget at' k).isSome = true) ∧ (∀ k ∈ new, (mget at' k).isSome = true) ∧
      (∀ k, (mget at' k).isSome = true → (mget at_ k).isSome = true ∨ k ∈ new) ∧ at'.length = at_.length + new.length
  | [], at_, todo, _, hb, _, _ => ⟨at_, [], by simp [f_tree_depths_l2], hb, fun _ _ h => h, fun _ h => (by cases h), fun _ h => (by cases h), fun _ h => .inl h, (by simp)⟩
  | k :: rest, at_, todo, hr, hb, hxs, hl => by
    have hlen := hs.len
    have hble := hb.len
    have hk := hr k List.mem_cons_self
    unfold f_tree_depths_l2
    cases hm : (mget at_ k).isSome with
    | true =>
      obtain ⟨at', new, e1, e2, e3, e4, e5, e6, e7⟩ := bfs_kids h hs hx rest at_ todo (fun k' hk' => hr k' (List.mem_cons_of_mem _ hk')) hb hxs hl
      refine ⟨at', new, ?_, e2, e3, fun k' hk' => ?_, e5, e6, e7⟩
      · rw [Bool.not_true, cond_false]; exact e1
      · rcases List.mem_cons.1 hk' with rfl | hk'
        · cases hv : mget at_ k' with
          | none => rw [hv] at hm; cases hm
          | some v => rw [e3 k' v hv]; rfl
        · exact e4 k' hk'
    | false =>
      obtain ⟨v, hv⟩ := Option.isSome_iff_exists.1 hxs
      obtain ⟨d, hd, hrd, hdl⟩ := hb.s _ _ hv
      obtain ⟨hk0, i, b, hbi, hbid, _⟩ := h.kid x hx k hk
      have hnk : k ∉ keys at_ := fun hh => by rw [(mgetS at_ k).2 hh] at hm; cases hm
      have hkeys : keys (mset at_ k (v + 1)) = keys at_ ++ [k] := by rw [keys_mset, if_neg hnk]
      have hlen1 : (mset at_ k (v + 1)).length = at_.length + 1 := by rw [← keys_length, hkeys]; simp [keys_length]
      have hb1 : BI base (mset at_ k (v + 1)) := by
        refine ⟨fun k' v' hv' => ?_, nodup_mset hb.nd k _, keys_sub hb.ids (List.mem_map.2 ⟨b, List.mem_of_getElem? hbi, hbid⟩) _⟩
        rw [mget_mset] at hv'
        by_cases he : k = k'
        · rw [if_pos he] at hv'; cases hv'; subst he
          exact ⟨d + 1, by omega, Rch.kid hx hrd hk, by omega⟩
        · rw [if_neg he] at hv'
          obtain ⟨d', a1, a2, a3⟩ := hb.s _ _ hv'
          exact ⟨d', a1, a2, by omega⟩
      have hold : ∀ k' v', mget at_ k' = some v' → mget (mset at_ k (v + 1)) k' = some v' := fun k' v' hv' => by
        rw [mget_mset, if_neg (fun he => by subst he; rw [hv'] at hm; cases hm)]; exact hv'
      obtain ⟨at', new, e1, e2, e3, e4, e5, e6, e7⟩ := bfs_kids h hs hx rest (mset at_ k (v + 1)) (todo ++ [k]) (fun k' hk' => hr k' (List.mem_cons_of_mem _ hk')) hb1 (by rw [hold _ _ hv]; rfl) (by simp; omega)
      have hkin : mget at' k = some (v + 1) := e3 _ _ (by rw [mget_mset, if_pos rfl])
      refine ⟨at', k :: new, ?_, e2, fun k' v' hv' => e3 _ _ (hold k' v' hv'), fun k' hk' => ?_, fun k' hk' => ?_, fun k' hk' => ?_, by rw [e7, hlen1]; simp; omega⟩
      · have hb2 := hb1.len
        rw [Bool.not_false, cond_true, hv, Option.getD_some, ckI_ok (by omega) (by omega), ckN_ok (by omega), ckN_ok (by simp; omega), e1]
        simp
      · rcases List.mem_cons.1 hk' with rfl | hk'
        · rw [hkin]; rfl
        · exact e4 k' hk'
      · rcases List.mem_cons.1 hk' with rfl | hk'
        · rw [hkin]; rfl
        · exact e5 k' hk'
      · rcases e6 k' hk' with h1 | h1
        · rw [mget_mset] at h1
          by_cases he : k = k'
          · subst he; exact .inr List.mem_cons_self
          · rw [if_neg he] at h1; exact .inl h1
        · exact .inr (List.mem_cons_of_mem _ h1)
theorem bfs {base : List Block} (h : Tr base) (hs : SmB base) (hq : QK base) : ∀ (n fuel : Nat) (at_ : List (Int × Int)) (todo : List Int), (base.length - at_.length) + todo.length ≤ n → n < fuel → BI base at_ → todo.length ≤ at_.length → (∀ k ∈ todo, (mget at_ k).isSome = true) →
    (∀ x ∈ base, (mget at_ x.id).isSome = true → x.id ∈ todo ∨ ∀ k ∈ x.kids, (mget at_ k).isSome = true) →
    ∃ at', f_tree_depths_l1 base fuel at_ todo = some at' ∧ BI base at' ∧ (∀ k v, mget at_ k = some v → mget at' k = some v) ∧ ∀ x ∈ base, (mget at' x.id).isSome = true → ∀ k ∈ x.kids, (mget at' k).isSome = true := by
  intro n
  induction n with
  | zero =>
    intro fuel at_ todo hn hf hb hl ht hc
    obtain ⟨f, rfl⟩ : ∃ f, fuel = f + 1 := ⟨fuel - 1, by omega⟩
    have : todo = [] := List.eq_nil_of_length_eq_zero (by omega)
    subst this
    refine ⟨at_, ?_, hb, fun _ _ h => h, fun x hx hxs => (hc x hx hxs).resolve_left (by simp)⟩
    unfold f_tree_depths_l1
    rfl
  | succ n ih =>
    intro fuel at_ todo hn hf hb hl ht hc
    obtain ⟨f, rfl⟩ : ∃ f, fuel = f + 1 := ⟨fuel - 1, by omega⟩
    have hlen := hs.len
    cases todo with
    | nil =>
      refine ⟨at_, ?_, hb, fun _ _ h => h, fun x hx hxs => (hc x hx hxs).resolve_left (by simp)⟩
      unfold f_tree_depths_l1
      rfl
    | cons k todo =>
      have hks := ht k List.mem_cons_self
      have hkk := hb.ids k ((mgetS at_ k).1 hks)
      obtain ⟨x, hx, hxk⟩ := List.mem_map.1 hkk
      obtain ⟨i, hi, hxi⟩ := h.mem_pos hx
      have hqk : qI k := by
        have := h.pos i x hxi
        unfold qI; omega
      have hidx : f_tree_index base k = some ((i : Nat) : Int) := by rw [index_tree h.toOrd hs hqk]; unfold posI; rw [← hxk, hi]
      obtain ⟨at', new, e1, e2, e3, e4, e5, e6, e7⟩ := bfs_kids h hs hx x.kids at_ todo (fun _ h => h) hb (by rw [hxk]; exact hks) (by simp at hl; omega)
      have hle := e2.len
      have hsome : ∀ k', (mget at_ k').isSome = true → (mget at' k').isSome = true := fun k' hk' => by
        obtain ⟨v, hv⟩ := Option.isSome_iff_exists.1 hk'
        rw [e3 _ _ hv]; rfl
      obtain ⟨at2, g1, g2, g3, g4⟩ := ih f at' (todo ++ new) (by simp at hn ⊢; omega) (by omega) e2 (by simp at hl ⊢; omega) (fun k' hk' => by
          rcases List.mem_append.1 hk' with hk' | hk'
          · exact hsome k' (ht k' (List.mem_cons_of_mem _ hk'))
          · exact e5 k' hk') (fun y hy hys => by
          rcases e6 _ hys with h1 | h1
          · rcases hc y hy h1 with h2 | h2
            · rcases List.mem_cons.1 h2 with h3 | h3
              · right
                have : y = x := h.same hy hx (by omega)
                subst this
                exact e4
              · exact .inl (List.mem_append_left _ h3)
            · exact .inr fun k' hk' => hsome k' (h2 k' hk')
          · exact .inl (List.mem_append_right _ h1))
      refine ⟨at2, ?_, g2, fun k' v' hv' => g3 _ _ (e3 _ _ hv'), g4⟩
      unfold f_tree_depths_l1
      rw [decide_eq_true (by simp only [List.length_cons]; omega), cond_true, List.getElem?_cons_zero, Option.bind_some, hidx, Option.bind_some, atL_nat, hxi, Option.bind_some, cutL_ok (by omega) (by simp; omega) (by omega), Option.bind_some]
      have hcut : ((k :: todo).drop (1 : Int).toNat).take (((k :: todo).length : Int).toNat - (1 : Int).toNat) = todo := by
        simp
      rw [hcut, e1, Option.bind_some]
      exact g1
theorem depths_eq {base : List Block} (h : Tr base) (hs : SmB base) (hq : QK base) : ∃ at_, f_tree_depths base = some at_ ∧ (∀ k d, Rch base k d ↔ mget at_ k = some ((d : Nat) : Int)) ∧ ∀ k v, mget at_ k = some v → ∃ d : Nat, v = (d : Int) := by
  obtain ⟨z, hz, hz0⟩ := h.z
  have hb0 : BI base [(0, 0)] := by
    refine ⟨fun k v hv => ?_, by simp [keys], fun k hk => ?_⟩
    · simp only [mget] at hv
      split at hv
      · rename_i he
        cases hv; subst he
        exact ⟨0, rfl, .root, by simp⟩
      · cases hv
    · simp [keys] at hk
      subst hk
      exact List.mem_map.2 ⟨z, List.mem_of_getElem? hz, hz0⟩
  have hlen := hs.len
  obtain ⟨at', e1, e2, e3, e4⟩ := bfs h hs hq (base.length + 1) FUEL [(0, 0)] [0] (by simp) (FUEL_gt (by omega)) hb0 (by simp) (fun k hk => by simp at hk; subst hk; rfl) (fun x hx hxs => by
    have : x.id = 0 := by
      by_cases hh : x.id = 0
      · exact hh
      · simp [mget, Ne.symm hh] at hxs
    left; simp [this])
  refine ⟨at', ?_, fun k d => ⟨fun hr => ?_, fun hm => ?_⟩, fun k v hv => let ⟨d, h, _⟩ := e2.s k v hv; ⟨d, h⟩⟩
  · unfold f_tree_depths
    rw [ckN_ok (by simp)]
    have : mset ([] : List (Int × Int)) 0 0 = [(0, 0)] := rfl
    rw [this, e1, Option.bind_some]
  · have key : ∀ {k d}, Rch base k d → (mget at' k).isSome = true := fun hr => by
      induction hr with
      | root => rw [e3 0 0 rfl]; rfl
      | kid hx _ hk ih => exact e4 _ hx ih _ hk
    obtain ⟨v, hv⟩ := Option.isSome_iff_exists.1 (key hr)
    obtain ⟨d', h1, h2, _⟩ := e2.s _ _ hv
    rw [hv, h1, hr.uniq h h2]
  · obtain ⟨d', h1, h2, _⟩ := e2.s _ _ hm
    have : d = d' := by omega
    rw [this]; exact h2
end Go.Fl
