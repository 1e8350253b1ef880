/- The view of a base: where blocks lie, whose page they are of. Plain Lean. -/
import Derived.Test.YtlaommikkfojfaaGreatDoorFlQ10
namespace Go.Fl
set_option maxRecDepth 100000
set_option linter.unusedSimpArgs false
theorem mset_len {κ υ : Type} [DecidableEq κ] (l : List (κ × υ)) (k : κ) (v : υ) : (mset l k v).length ≤ l.length + 1 := by
  rw [← keys_length, keys_mset, ← keys_length l]
  split
  · omega
  · simp
theorem byId_loop {base : List Block} (h : Ord base) (hs : SmB base) : ∀ (rest : List Block) (v : Nat) (m : List (Int × Int)), base.drop v = rest → m.length ≤ v → (∀ (j : Nat) (b : Block), j < v → base[j]? = some b → mget m b.id = some ((j : Nat) : Int)) →
    ∃ m', f_link_look_l1 rest v m = some m' ∧ ∀ (j : Nat) (b : Block), base[j]? = some b → mget m' b.id = some ((j : Nat) : Int)
  | [], v, m, hd, _, hm => ⟨m, rfl, fun j b hb => hm j b (by have := List.drop_eq_nil_iff.1 hd; have := (List.getElem?_eq_some_iff.1 hb).1; omega) hb⟩
  | x :: rest, v, m, hd, hl, hm => by
    have hlen := hs.len
    have hx : base[v]? = some x := by
      have := congrArg (·[0]?) hd
      simpa using this
    have hvl := (List.getElem?_eq_some_iff.1 hx).1
    have hn : base.drop (v + 1) = rest := by rw [← List.drop_drop, hd]; rfl
    have hml := mset_len m x.id ((v : Nat) : Int)
    obtain ⟨m', e1, e2⟩ := byId_loop h hs rest (v + 1) (mset m x.id ((v : Nat) : Int)) hn (by omega) fun j b hj hb => by
      rw [mget_mset]
      by_cases he : x.id = b.id
      · rw [if_pos he, h.inj hx hb he]
      · rw [if_neg he]
        exact hm j b (by
          rcases Nat.lt_or_ge j v with h' | h'
          · exact h'
          · have : j = v := by omega
            subst this; rw [hx] at hb; cases hb; exact absurd rfl he) hb
    refine ⟨m', ?_, e2⟩
    unfold f_link_look_l1
    rw [ckN_ok (by omega)]
    exact e1
/-- Below a block, or the block itself. -/
inductive Sub (base : List Block) : Int → Int → Prop
  | refl (k : Int) : Sub base k k
  | step {x : Block} {k t : Int} : x ∈ base → k ∈ x.kids → Sub base k t → Sub base x.id t
theorem Sub.last {base : List Block} {a t : Int} (h : Sub base a t) : a = t ∨ ∃ y ∈ base, Sub base a y.id ∧ t ∈ y.kids := by
  induction h with
  | refl k => exact .inl rfl
  | step hx hk hs ih =>
    rename_i x k t
    right
    rcases ih with rfl | ⟨y, hy, h1, h2⟩
    · exact ⟨x, hx, .refl _, hk⟩
    · exact ⟨y, hy, .step hx hk h1, h2⟩
theorem Sub.inv {base : List Block} (h : Ord base) {x : Block} (hx : x ∈ base) {t : Int} (hs : Sub base x.id t) : x.id = t ∨ ∃ k ∈ x.kids, Sub base k t := by
  generalize he : x.id = a at hs
  cases hs with
  | refl => exact .inl rfl
  | step hy hk hs =>
    have := h.same hx hy he
    subst this
    exact .inr ⟨_, hk, hs⟩
theorem Sub.page {base : List Block} (h : Tr base) {z : Block} (hz : base[0]? = some z) (hz0 : z.id = 0) {p q : Int} (hp : p ∈ z.kids) (hq : q ∈ z.kids) (hs : Sub base q p) : q = p := by
  have hzm := List.mem_of_getElem? hz
  rcases hs.last with h1 | ⟨y, hy, h1, h2⟩
  · exact h1
  · have hyz := h.par hy hzm h2 hp
    rw [hyz, hz0] at h1
    rcases h1.last with h3 | ⟨w, hw, _, h4⟩
    · exact absurd h3 (h.kid z hzm q hq).1
    · exact absurd rfl (h.kid w hw 0 h4).1
structure MI (base : List Block) (m : List (Int × Int)) : Prop where
  nd : (keys m).Nodup
  ids : ∀ k ∈ keys m, k ∈ base.map (·.id)
theorem MI.len {base : List Block} {m : List (Int × Int)} (h : MI base m) : m.length ≤ base.length := by
  have := nodup_le h.nd h.ids
  rw [keys_length] at this
  simpa using this
theorem MI.set {base : List Block} {m : List (Int × Int)} (h : MI base m) {x : Block} (hx : x ∈ base) (v : Int) : MI base (mset m x.id v) := ⟨nodup_mset h.nd _ _, keys_sub h.ids (List.mem_map.2 ⟨x, hx, rfl⟩) _⟩
theorem mark_eq {base : List Block} (hg : Good base) {m1 : List (Int × Int)} (h1 : ∀ (j : Nat) (b : Block), base[j]? = some b → mget m1 b.id = some ((j : Nat) : Int)) (page : Int) : ∀ (n fuel d : Nat) (x : Block) (m3 : List (Int × Int)) (v4 v5 : List (Bytes × Int)), x ∈ base → Rch base x.id d → 41 ≤ d + n → n < fuel → MI base m3 →
    ∃ m3', f_link_view_mark_c7f0 fuel base m1 m3 v4 v5 x.id page = some (base, m1, m3', v4, v5) ∧ MI base m3' ∧ ∀ t, (Sub base x.id t → mget m3' t = some page) ∧ (¬ Sub base x.id t → mget m3' t = mget m3 t) := by
  intro n
  induction n with
  | zero =>
    intro fuel d x m3 v4 v5 hx hr hd hf hm
    obtain ⟨d', h2, h3⟩ := hg.deep x hx
    have := hr.uniq hg.toTr h2
    omega
  | succ n ih =>
    intro fuel d x m3 v4 v5 hx hr hd hf hm
    obtain ⟨f, rfl⟩ : ∃ f, fuel = f + 1 := ⟨fuel - 1, by omega⟩
    have loop : ∀ (rest : List Int) (c : List (Int × Int)), (∀ k ∈ rest, k ∈ x.kids) → MI base c → ∃ c', f_link_view_mark_c7f0_l1 (f_link_view_mark_c7f0 f) page rest base m1 c v4 v5 = some (base, m1, c', v4, v5) ∧ MI base c' ∧ ∀ t, ((∃ k ∈ rest, Sub base k t) → mget c' t = some page) ∧ ((∀ k ∈ rest, ¬ Sub base k t) → mget c' t = mget c t) := by
      intro rest
      induction rest with
      | nil => intro c _ hc; exact ⟨c, rfl, hc, fun t => ⟨fun ⟨_, h, _⟩ => (by cases h), fun _ => rfl⟩⟩
      | cons k rest ihr =>
        intro c hk hc
        obtain ⟨_, j, b, hj, hbk, _⟩ := hg.kid x hx k (hk k List.mem_cons_self)
        have hb := List.mem_of_getElem? hj
        obtain ⟨c1, e1, e2, e3⟩ := ih f (d + 1) b c v4 v5 hb (by rw [hbk]; exact Rch.kid hx hr (hk k List.mem_cons_self)) (by omega) (by omega) hc
        rw [hbk] at e1 e3
        obtain ⟨c2, g1, g2, g3⟩ := ihr c1 (fun k' hk' => hk k' (List.mem_cons_of_mem _ hk')) e2
        refine ⟨c2, ?_, g2, fun t => ⟨fun ⟨k', hk', hs⟩ => ?_, fun hno => ?_⟩⟩
        · unfold f_link_view_mark_c7f0_l1
          rw [e1, Option.bind_some]
          exact g1
        · by_cases hlater : ∃ k'' ∈ rest, Sub base k'' t
          · exact (g3 t).1 hlater
          · rw [(g3 t).2 fun k'' hk'' hs'' => hlater ⟨k'', hk'', hs''⟩]
            rcases List.mem_cons.1 hk' with rfl | hk'
            · exact (e3 t).1 hs
            · exact absurd ⟨k', hk', hs⟩ hlater
        · rw [(g3 t).2 fun k' hk' => hno k' (List.mem_cons_of_mem _ hk')]
          exact (e3 t).2 (hno k List.mem_cons_self)
    obtain ⟨i, hi, hxi⟩ := hg.mem_pos hx
    have hml := hm.len
    have hsm := hg.small
    obtain ⟨c', r1, r2, r3⟩ := loop x.kids (mset m3 x.id page) (fun _ h => h) (hm.set hx page)
    refine ⟨c', ?_, r2, fun t => ⟨fun hs => ?_, fun hs => ?_⟩⟩
    · rw [f_link_view_mark_c7f0, ckN_ok (by omega), h1 i x hxi, Option.getD_some, atL_nat, hxi, Option.bind_some, r1]; rfl
    · by_cases hk : ∃ k ∈ x.kids, Sub base k t
      · exact (r3 t).1 hk
      · rw [(r3 t).2 fun k hk' hs' => hk ⟨k, hk', hs'⟩, mget_mset]
        rcases Sub.inv hg.toOrd hx hs with h2 | h2
        · rw [if_pos h2]
        · exact absurd h2 hk
    · rw [(r3 t).2 fun k hk' hs' => hs (Sub.step hx hk' hs'), mget_mset, if_neg (fun he => hs (by rw [he]; exact .refl _))]
theorem marks {base : List Block} (hg : Good base) {m1 : List (Int × Int)} (h1 : ∀ (j : Nat) (b : Block), base[j]? = some b → mget m1 b.id = some ((j : Nat) : Int)) {z : Block} (hz : base[0]? = some z) (hz0 : z.id = 0) : ∀ (rest : List Int) (c : List (Int × Int)), (∀ k ∈ rest, k ∈ z.kids) → MI base c → (∀ t v, mget c t = some v → v ∈ z.kids) →
    ∃ c', f_link_look_l2 rest base m1 c [] [] = some (base, m1, c', [], []) ∧ MI base c' ∧ (∀ t v, mget c' t = some v → v ∈ z.kids) ∧ (∀ p ∈ z.kids, (p ∈ rest ∨ mget c p = some p) → mget c' p = some p)
  | [], c, _, hc, hv => ⟨c, rfl, hc, hv, fun p _ h => h.resolve_left (by simp)⟩
  | k :: rest, c, hk, hc, hv => by
    have hzm := List.mem_of_getElem? hz
    obtain ⟨_, j, b, hj, hbk, _⟩ := hg.kid z hzm k (hk k List.mem_cons_self)
    have hb := List.mem_of_getElem? hj
    obtain ⟨c1, e1, e2, e3⟩ := mark_eq hg h1 k 40 FUEL 1 b c [] [] hb (by rw [hbk]; exact Rch.kid hzm (by rw [hz0]; exact .root) (hk k List.mem_cons_self)) (by omega) (FUEL_gt (by omega)) hc
    rw [hbk] at e1 e3
    obtain ⟨c2, g1, g2, g3, g4⟩ := marks hg h1 hz hz0 rest c1 (fun k' hk' => hk k' (List.mem_cons_of_mem _ hk')) e2 fun t v ht => by
      by_cases hs : Sub base k t
      · rw [(e3 t).1 hs] at ht; cases ht; exact hk k List.mem_cons_self
      · rw [(e3 t).2 hs] at ht; exact hv t v ht
    refine ⟨c2, ?_, g2, g3, fun p hp h => g4 p hp ?_⟩
    · unfold f_link_look_l2
      rw [e1, Option.bind_some]
      exact g1
    · by_cases hs : Sub base k p
      · right
        rw [(e3 p).1 hs, Sub.page hg.toTr hz hz0 hp (hk k List.mem_cons_self) hs]
      · rcases h with h | h
        · rcases List.mem_cons.1 h with rfl | h
          · exact absurd (.refl _) hs
          · exact .inl h
        · right; rw [(e3 p).2 hs]; exact h
theorem values_loop : ∀ (l acc : List Int), acc.length + l.length ≤ 4194304 → f_slices_Values_int_int_1_b4ef_l1 l acc = some (acc ++ l)
  | [], acc, _ => by simp [f_slices_Values_int_int_1_b4ef_l1]
  | x :: r, acc, h => by
    simp only [List.length_cons] at h
    unfold f_slices_Values_int_int_1_b4ef_l1 f_slices_AppendSeq_int_int_bd1b_rd1_ef77
    rw [ckN_ok (by simp; omega), Option.bind_some, values_loop r _ (by simp; omega)]
    simp
theorem sorted_eq (l : List Int) (h : l.length ≤ 1048576) : f_slices_Sorted_int_8a7f l = some (sortI l, l) := by
  unfold f_slices_Sorted_int_8a7f f_slices_Collect_int_8a7f f_slices_AppendSeq_int_int_bd1b f_slices_Values_int_int_1_b4ef sortIC
  rw [values_loop l [] (by simp; omega)]
  simp only [Option.bind_some, List.nil_append]
  rw [ckN_ok (by omega)]
  rfl
end Go.Fl
