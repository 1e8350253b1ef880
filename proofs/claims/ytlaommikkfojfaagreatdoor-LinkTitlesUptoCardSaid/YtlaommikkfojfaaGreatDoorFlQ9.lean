/- How deep the blocks lie: by depth; the two checks of a base agree. Plain Lean. -/
import Derived.Test.YtlaommikkfojfaaGreatDoorFlQ8
namespace Go.Fl
set_option maxRecDepth 100000
set_option linter.unusedSimpArgs false
def zc : List Int → Nat
  | [] => 0
  | x :: r => (if x = 0 then 1 else 0) + zc r
theorem zc_set : ∀ (l : List Int) (i : Nat) (v : Int), l[i]? = some 0 → v ≠ 0 → zc (l.set i v) + 1 = zc l
  | x :: r, 0, v, h, hv => by simp at h; subst h; simp [zc, hv]; omega
  | x :: r, i + 1, v, h, hv => by
    have := zc_set r i v (by simpa using h) hv
    simp only [List.set_cons_succ, zc]; omega
  | [], i, v, h, hv => by simp at h
structure DI (base : List Block) (dp : List Int) : Prop where
  len : dp.length = base.length
  s : ∀ (j : Nat) (v : Int), dp[j]? = some v → v ≠ 0 → ∃ (dd : Nat) (b : Block), v = (dd : Int) ∧ base[j]? = some b ∧ Rch base b.id dd
/-- What is set stays; the kids of what is newly set are set. -/
structure DGo (base : List Block) (c c' : List Int) : Prop where
  keep : ∀ (j : Nat) (v : Int), c[j]? = some v → v ≠ 0 → c'[j]? = some v
  zc : zc c' ≤ zc c
  clo : ∀ (j : Nat) (b : Block), base[j]? = some b → (∃ v, c'[j]? = some v ∧ v ≠ 0) → c[j]? = some 0 → ∀ k ∈ b.kids, ∀ j', posOf base k = some j' → ∃ v, c'[j']? = some v ∧ v ≠ 0
theorem DGo.refl (base : List Block) (c : List Int) : DGo base c c := ⟨fun _ _ h _ => h, Nat.le_refl _, fun j b _ ⟨v, h1, h2⟩ h3 => by rw [h3] at h1; cases h1; exact absurd rfl h2⟩
theorem DGo.trans {base : List Block} {a b c : List Int} (hb : b.length = a.length) (h : DGo base a b) (k : DGo base b c) : DGo base a c := by
  refine ⟨fun j v h1 h2 => k.keep j v (h.keep j v h1 h2) h2, Nat.le_trans k.zc h.zc, fun j x hx hv h0 kk hk j' hj' => ?_⟩
  have hj : j < b.length := by rw [hb]; exact (List.getElem?_eq_some_iff.1 h0).1
  have hbj := List.getElem?_eq_getElem hj
  by_cases hz : b[j] = 0
  · rw [hz] at hbj; exact k.clo j x hx hv hbj kk hk j' hj'
  · obtain ⟨v, h1, h2⟩ := h.clo j x hx ⟨_, hbj, hz⟩ h0 kk hk j' hj'
    exact ⟨v, k.keep j' v h1 h2, h2⟩
theorem dfs {base : List Block} (h : Tr base) : ∀ (z fuel i d : Nat) (x : Block) (dp : List Int), zc dp ≤ z → z < fuel → base[i]? = some x → Rch base x.id d → DI base dp → d + z ≤ 4294967296 →
    ∃ dp', f_florref1_reach_2c97 fuel base (i : Int) (d : Int) dp = some dp' ∧ DI base dp' ∧ DGo base dp dp' ∧ ∀ k ∈ x.kids, ∀ j', posOf base k = some j' → ∃ v, dp'[j']? = some v ∧ v ≠ 0 := by
  intro z
  induction z with
  | zero =>
    intro fuel i d x dp hz hf hx hr hd hb
    obtain ⟨f, rfl⟩ : ∃ f, fuel = f + 1 := ⟨fuel - 1, by omega⟩
    have nz : ∀ (l : List Int) (j : Nat), zc l ≤ 0 → l[j]? ≠ some 0 := by
      intro l
      induction l with
      | nil => intro j _; simp
      | cons a r ihl =>
        intro j hl
        simp only [zc] at hl
        cases j with
        | zero =>
          intro he
          simp at he; subst he
          simp at hl
        | succ j =>
          intro he
          exact ihl j (by omega) (by simpa using he)
    have loop : ∀ rest : List Int, (∀ k ∈ rest, k ∈ x.kids) → f_florref1_reach_2c97_l1 (f_florref1_reach_2c97 f) base (d : Int) rest dp = some dp ∧ ∀ k ∈ rest, ∀ j', posOf base k = some j' → ∃ v, dp[j']? = some v ∧ v ≠ 0 := by
      intro rest
      induction rest with
      | nil => intro _; exact ⟨rfl, fun _ h => by cases h⟩
      | cons k rest ihr =>
        intro hk
        obtain ⟨r1, r2⟩ := ihr fun k' hk' => hk k' (List.mem_cons_of_mem _ hk')
        obtain ⟨_, j, b, hj, hbk, _⟩ := h.kid x (List.mem_of_getElem? hx) k (hk k List.mem_cons_self)
        have hp : posOf base k = some j := hbk ▸ h.toOrd.posOf hj
        have hjl : j < dp.length := by rw [hd.len]; exact (List.getElem?_eq_some_iff.1 hj).1
        have hg := List.getElem?_eq_getElem hjl
        have hne : dp[j] ≠ 0 := fun he => nz dp j hz (by rw [hg, he])
        refine ⟨?_, fun k' hk' j' hj' => ?_⟩
        · unfold f_florref1_reach_2c97_l1
          rw [index_ref, Option.bind_some]
          unfold posI
          rw [hp]
          dsimp only
          rw [atL_nat, hg, Option.bind_some, decide_eq_false hne, cond_false, r1]
        · rcases List.mem_cons.1 hk' with rfl | hk'
          · rw [hp] at hj'; cases hj'; exact ⟨_, hg, hne⟩
          · exact r2 k' hk' j' hj'
    obtain ⟨r1, r2⟩ := loop x.kids fun _ h => h
    refine ⟨dp, ?_, hd, .refl _ _, r2⟩
    rw [f_florref1_reach_2c97, atL_nat, hx, Option.bind_some, r1]; rfl
  | succ z ih =>
    intro fuel i d x dp hz hf hx hr hd hb
    obtain ⟨f, rfl⟩ : ∃ f, fuel = f + 1 := ⟨fuel - 1, by omega⟩
    have loop : ∀ (rest : List Int) (c : List Int), (∀ k ∈ rest, k ∈ x.kids) → zc c ≤ z + 1 → DI base c → ∃ c', f_florref1_reach_2c97_l1 (f_florref1_reach_2c97 f) base (d : Int) rest c = some c' ∧ DI base c' ∧ DGo base c c' ∧ ∀ k ∈ rest, ∀ j', posOf base k = some j' → ∃ v, c'[j']? = some v ∧ v ≠ 0 := by
      intro rest
      induction rest with
      | nil => intro c _ _ hc; exact ⟨c, rfl, hc, .refl _ _, fun _ h => by cases h⟩
      | cons k rest ihr =>
        intro c hk hzc hc
        have hkk := hk k List.mem_cons_self
        obtain ⟨_, j, b, hj, hbk, _⟩ := h.kid x (List.mem_of_getElem? hx) k hkk
        have hp : posOf base k = some j := hbk ▸ h.toOrd.posOf hj
        have hjl : j < c.length := by rw [hc.len]; exact (List.getElem?_eq_some_iff.1 hj).1
        have hg := List.getElem?_eq_getElem hjl
        by_cases hne : c[j] = 0
        · -- newly met
          have hg0 : c[j]? = some 0 := by rw [hg, hne]
          have hzs := zc_set c j ((d : Int) + 1) hg0 (by omega)
          have hrb : Rch base b.id (d + 1) := by rw [hbk]; exact Rch.kid (List.mem_of_getElem? hx) hr hkk
          have hc1 : DI base (c.set j ((d : Int) + 1)) := by
            refine ⟨by rw [List.length_set]; exact hc.len, fun j' v hv hv0 => ?_⟩
            rw [List.getElem?_set] at hv
            by_cases he : j = j'
            · subst he
              rw [if_pos rfl, if_pos hjl] at hv
              cases hv
              exact ⟨d + 1, b, by omega, hj, hrb⟩
            · rw [if_neg he] at hv; exact hc.s j' v hv hv0
          obtain ⟨c2, e1, e2, e3, e4⟩ := ih f j (d + 1) b (c.set j ((d : Int) + 1)) (by omega) (by omega) hj hrb hc1 (by omega)
          have h01 : DGo base c c2 := by
            have hs1 : (c.set j ((d : Int) + 1))[j]? = some ((d : Int) + 1) := by rw [List.getElem?_set, if_pos rfl, if_pos hjl]
            refine ⟨fun j' v hv hv0 => ?_, by have := e3.zc; omega, fun j' y hy hv h0 kk hkk' j'' hj'' => ?_⟩
            · have hjj : j ≠ j' := fun he => by subst he; rw [hg0] at hv; cases hv; exact hv0 rfl
              exact e3.keep j' v (by rw [List.getElem?_set, if_neg hjj]; exact hv) hv0
            · by_cases hjj : j = j'
              · subst hjj
                rw [hj] at hy; cases hy
                exact e4 kk hkk' j'' hj''
              · exact e3.clo j' y hy hv (by rw [List.getElem?_set, if_neg hjj]; exact h0) kk hkk' j'' hj''
          obtain ⟨c3, g1, g2, g3, g4⟩ := ihr c2 (fun k' hk' => hk k' (List.mem_cons_of_mem _ hk')) (by have := h01.zc; omega) e2
          refine ⟨c3, ?_, g2, h01.trans (by rw [e2.len, hc.len]) g3, fun k' hk' j' hj' => ?_⟩
          · unfold f_florref1_reach_2c97_l1
            rw [index_ref, Option.bind_some]
            unfold posI
            rw [hp]
            dsimp only
            rw [atL_nat, hg, Option.bind_some, decide_eq_true hne, cond_true, ckI_ok (by omega) (by omega), Option.bind_some, ckI_ok (by omega) (by omega), Int.toNat_natCast]
            have e1' : f_florref1_reach_2c97 f base (j : Int) ((d : Int) + 1) (c.set j ((d : Int) + 1)) = some c2 := e1
            rw [e1', Option.bind_some]
            exact g1
          · rcases List.mem_cons.1 hk' with rfl | hk'
            · rw [hp] at hj'; cases hj'
              have hs1 : (c.set j ((d : Int) + 1))[j]? = some ((d : Int) + 1) := by rw [List.getElem?_set, if_pos rfl, if_pos hjl]
              exact ⟨_, g3.keep j _ (e3.keep j _ hs1 (by omega)) (by omega), by omega⟩
            · exact g4 k' hk' j' hj'
        · obtain ⟨c3, g1, g2, g3, g4⟩ := ihr c (fun k' hk' => hk k' (List.mem_cons_of_mem _ hk')) hzc hc
          refine ⟨c3, ?_, g2, g3, fun k' hk' j' hj' => ?_⟩
          · unfold f_florref1_reach_2c97_l1
            rw [index_ref, Option.bind_some]
            unfold posI
            rw [hp]
            dsimp only
            rw [atL_nat, hg, Option.bind_some, decide_eq_false hne, cond_false]
            exact g1
          · rcases List.mem_cons.1 hk' with rfl | hk'
            · rw [hp] at hj'; cases hj'
              exact ⟨_, g3.keep j _ hg hne, hne⟩
            · exact g4 k' hk' j' hj'
    obtain ⟨c', r1, r2, r3, r4⟩ := loop x.kids dp (fun _ h => h) hz hd
    refine ⟨c', ?_, r2, r3, r4⟩
    rw [f_florref1_reach_2c97, atL_nat, hx, Option.bind_some, r1]; rfl
theorem zc_rep : ∀ n, zc (List.replicate n (0 : Int)) = n
  | 0 => rfl
  | n + 1 => by rw [List.replicate_succ, zc, zc_rep n]; simp; omega
theorem reach_eq {base : List Block} (h : Tr base) (hs : SmB base) : ∃ dp, f_florref1_reach_2c97 FUEL base 0 0 (List.replicate base.length 0) = some dp ∧ dp.length = base.length ∧
    ∀ (j : Nat) (b : Block) (v : Int), base[j]? = some b → j ≠ 0 → dp[j]? = some v → (v ≠ 0 → ∃ d : Nat, v = (d : Int) ∧ Rch base b.id d) ∧ (v = 0 → ∀ d, ¬ Rch base b.id d) := by
  obtain ⟨z, hz, hz0⟩ := h.z
  have hlen := hs.len
  have hd0 : DI base (List.replicate base.length 0) := by
    refine ⟨by simp, fun j v hv hv0 => ?_⟩
    rw [List.getElem?_replicate] at hv
    split at hv
    · cases hv; exact absurd rfl hv0
    · cases hv
  obtain ⟨dp, e1, e2, e3, e4⟩ := dfs h base.length FUEL 0 0 z (List.replicate base.length 0) (by rw [zc_rep]; exact Nat.le_refl _) (FUEL_gt (by omega)) hz (by rw [hz0]; exact .root) hd0 (by omega)
  refine ⟨dp, e1, e2.len, fun j b v hb hj hv => ⟨fun hv0 => ?_, fun hv0 d hr => ?_⟩⟩
  · obtain ⟨d, c, h1, h2, h3⟩ := e2.s j v hv hv0
    rw [hb] at h2; cases h2
    exact ⟨d, h1, h3⟩
  · have key : ∀ {k d}, Rch base k d → k ≠ 0 → ∀ j', posOf base k = some j' → ∃ v, dp[j']? = some v ∧ v ≠ 0 := fun hr => by
      induction hr with
      | root => intro h0; exact absurd rfl h0
      | kid hx hr hk ih =>
        rename_i y k d
        intro _ j' hj'
        obtain ⟨i, hi, hyi⟩ := h.mem_pos hx
        by_cases hi0 : i = 0
        · subst hi0
          rw [hz] at hyi; cases hyi
          exact e4 _ hk j' hj'
        · have hid : y.id ≠ 0 := fun hh => hi0 (h.inj hyi hz (by omega))
          obtain ⟨w, hw, hw0⟩ := ih hid i hi
          have hil : i < base.length := (List.getElem?_eq_some_iff.1 hyi).1
          exact e3.clo i y hyi ⟨w, hw, hw0⟩ (by rw [List.getElem?_replicate, if_pos hil]) _ hk j' hj'
    have hid : b.id ≠ 0 := fun hh => hj (h.inj hb hz (by omega))
    obtain ⟨w, hw, hw0⟩ := key hr hid j (h.toOrd.posOf hb)
    rw [hv] at hw; cases hw
    exact hw0 hv0
def deepErr (at_ : List (Int × Int)) : List Block → Option Nat
  | [] => none
  | b :: r => match mget at_ b.id with
    | none => some 12
    | some v => if 40 < v then some 13 else deepErr at_ r
theorem deep_tree (at_ : List (Int × Int)) : ∀ l : List Block, f_tree_Check_l2 at_ l = some (asSumN (deepErr at_ l))
  | [] => rfl
  | b :: r => by
    have ih := deep_tree at_ r
    unfold f_tree_Check_l2
    rw [deepErr]
    cases hm : mget at_ b.id with
    | none => rfl
    | some v =>
      dsimp only
      rw [Option.isSome_some, Bool.not_true, cond_false, Option.getD_some, condD]
      by_cases h : 40 < v
      · rw [if_pos h, if_pos h]; rfl
      · rw [if_neg h, if_neg h, ih]
theorem deep_ref {base : List Block} (h : Tr base) (hs : SmB base) {at_ : List (Int × Int)} {dp : List Int} (ha : ∀ k d, Rch base k d ↔ mget at_ k = some ((d : Nat) : Int)) (hl : dp.length = base.length)
    (hd : ∀ (j : Nat) (b : Block) (v : Int), base[j]? = some b → j ≠ 0 → dp[j]? = some v → (v ≠ 0 → ∃ d : Nat, v = (d : Int) ∧ Rch base b.id d) ∧ (v = 0 → ∀ d, ¬ Rch base b.id d)) (hval : ∀ k v, mget at_ k = some v → ∃ d : Nat, v = (d : Int)) :
    ∀ (rest : List Block) (fuel i : Nat), base.drop i = rest → rest.length < fuel → f_florref1_BaseError_l5 base dp fuel i = some (asSumN (deepErr at_ rest))
  | [], fuel, i, hdr, hf => by
    obtain ⟨f, rfl⟩ : ∃ f, fuel = f + 1 := ⟨fuel - 1, by simp at hf; omega⟩
    have := List.drop_eq_nil_iff.1 hdr
    unfold f_florref1_BaseError_l5
    rw [decide_eq_false (by omega)]; rfl
  | b :: rest, fuel, i, hdr, hf => by
    obtain ⟨f, rfl⟩ : ∃ f, fuel = f + 1 := ⟨fuel - 1, by simp at hf; omega⟩
    have hi : i < base.length := by
      rcases Nat.lt_or_ge i base.length with h' | h'
      · exact h'
      · rw [List.drop_eq_nil_of_le h'] at hdr; cases hdr
    have hb : base[i]? = some b := by
      have := congrArg (·[0]?) hdr
      simpa using this
    have hn : base.drop (i + 1) = rest := by rw [← List.drop_drop, hdr]; rfl
    have hlen := hs.len
    have ih := deep_ref h hs ha hl hd hval rest f (i + 1) hn (by simp at hf; omega)
    obtain ⟨z, hz, hz0⟩ := h.z
    unfold f_florref1_BaseError_l5
    rw [decide_eq_true (by omega), cond_true, ckI_ok (by omega) (by omega), ih, deepErr]
    by_cases hi0 : i = 0
    · subst hi0
      rw [hz] at hb; cases hb
      have : mget at_ b.id = some ((0 : Nat) : Int) := (ha b.id 0).1 (by rw [hz0]; exact .root)
      rw [this]
      rfl
    · have hg := List.getElem?_eq_getElem (l := dp) (i := i) (by omega)
      have hid : b.id ≠ 0 := fun hh => hi0 (h.inj hb hz (by omega))
      have hi0' : ¬ ((i : Int) = 0) := by omega
      obtain ⟨d1, d2⟩ := hd i b _ hb hi0 hg
      rw [decide_eq_false hi0', cond_false, hg, Option.bind_some, Option.bind_some]
      by_cases hv : dp[i] = 0
      · have hnone : mget at_ b.id = none := by
          cases hm : mget at_ b.id with
          | none => rfl
          | some v =>
            obtain ⟨d, rfl⟩ := hval _ _ hm
            exact absurd ((ha b.id d).2 hm) (d2 hv d)
        rw [hnone, decide_eq_true hv]; rfl
      · obtain ⟨d, h1, h2⟩ := d1 hv
        have hm := (ha b.id d).1 h2
        rw [decide_eq_false hv, cond_false, hm, condD, h1]
        dsimp only
        by_cases h40 : 40 < (d : Int)
        · rw [if_pos h40, if_pos h40]; rfl
        · rw [if_neg h40, if_neg h40]
/-- The first error of a base. -/
def chk (base : List Block) (at_ : List (Int × Int)) : Int :=
  if base.length = 0 then 1 else if 2000 < base.length then 4 else match errs base base 0 with
    | some e => e
    | none => match allKids base base with
      | some e => (e : Int)
      | none => match deepErr at_ base with
        | some e => (e : Int)
        | none => 0
theorem errs_ne {base : List Block} : ∀ (rest : List Block) (i : Nat) (e : Int), errs base rest i = some e → e ≠ 0
  | [], _, _, h => by cases h
  | x :: r, i, e, h => by
    rw [errs] at h
    by_cases h0 : bErr base i x ≠ 0
    · rw [decide_eq_true h0] at h; cases h; exact h0
    · rw [decide_eq_false h0, cond_false] at h; exact errs_ne r (i + 1) e h
theorem kidErrs_ne {base : List Block} {x : Block} : ∀ (rest pre : List Int) (e : Nat), kidErrs base x pre rest = some e → e ≠ 0
  | [], _, _, h => by cases h
  | k :: r, pre, e, h => by
    rw [kidErrs] at h
    by_cases h0 : kidErr base x pre k ≠ 0
    · rw [decide_eq_true h0] at h; cases h; exact h0
    · rw [decide_eq_false h0, cond_false] at h; exact kidErrs_ne r _ e h
theorem allKids_ne {base : List Block} : ∀ (l : List Block) (e : Nat), allKids base l = some e → e ≠ 0
  | [], _, h => by cases h
  | x :: r, e, h => by
    rw [allKids] at h
    cases hk : kidErrs base x [] x.kids with
    | some e' => rw [hk] at h; cases h; exact kidErrs_ne _ _ _ hk
    | none => rw [hk] at h; exact allKids_ne r e h
theorem deepErr_ne {at_ : List (Int × Int)} : ∀ (l : List Block) (e : Nat), deepErr at_ l = some e → e ≠ 0
  | [], _, h => by cases h
  | x :: r, e, h => by
    rw [deepErr] at h
    cases hm : mget at_ x.id with
    | none => rw [hm] at h; cases h; omega
    | some v =>
      rw [hm] at h
      dsimp only at h
      split at h
      · cases h; omega
      · exact deepErr_ne r e h
/-- What a base that has passed all checks is. -/
structure Good (base : List Block) : Prop extends Tr base where
  deep : ∀ b ∈ base, ∃ d, Rch base b.id d ∧ d ≤ 40
  small : base.length ≤ 2000
theorem check_same {base : List Block} (hs : SmB base) (hq : QK base) : ∃ e : Int, f_tree_Check base = some e ∧ f_florref1_BaseError base = some e ∧ (e = 0 → Good base) := by
  have hlen := hs.len
  have hfu : base.length < FUEL := FUEL_gt (by omega)
  have t1 : f_tree_Check_l1 base FUEL 0 = some (asSum (errs base base 0)) := check_l1 hs base FUEL 0 rfl hfu
  have r1 : f_florref1_BaseError_l1 base base 0 = some (asSum (errs base base 0)) := base_l1 hs base 0 rfl
  by_cases h0 : base.length = 0
  · refine ⟨1, ?_, ?_, fun h => by omega⟩
    · unfold f_tree_Check; rw [decide_eq_true (show (base.length : Int) = 0 by omega)]; rfl
    · unfold f_florref1_BaseError; rw [decide_eq_true (show (base.length : Int) = 0 by omega)]; rfl
  by_cases h1 : 2000 < base.length
  · refine ⟨4, ?_, ?_, fun h => by omega⟩
    · unfold f_tree_Check; rw [decide_eq_false (show ¬ ((base.length : Int) = 0) by omega), decide_eq_true (show (2000 : Int) < (base.length : Int) by omega)]; rfl
    · unfold f_florref1_BaseError; rw [decide_eq_false (show ¬ ((base.length : Int) = 0) by omega), decide_eq_true (show (2000 : Int) < (base.length : Int) by omega)]; rfl
  have hne : base ≠ [] := fun h => h0 (by rw [h]; rfl)
  have hT : ∀ r, (f_tree_Check_l1 base FUEL 0).bind (fun x12 => sumC x12 (fun s13 => (f_tree_checkKids base).bind fun r18 => (cond (decide (r18 ≠ (0 : Int))) (some r18) ((f_tree_depths base).bind fun r21 => ((f_tree_Check_l2 r21 base ).bind (fun x30 => sumC x30 (fun s31 => some 0) (fun s33 => some ((s33 : Int)))))))) (fun s15 => some s15)) = r → f_tree_Check base = r := fun r h => by
    unfold f_tree_Check
    rw [decide_eq_false (show ¬ ((base.length : Int) = 0) by omega), decide_eq_false (show ¬ ((2000 : Int) < (base.length : Int)) by omega), cond_false, cond_false]
    exact h
  have hR : ∀ r, (f_florref1_BaseError_l1 base base 0 ).bind (fun x45 => sumC x45 (fun s46 => (f_florref1_BaseError_l2 base base ).bind (fun x87 => sumC x87 (fun s88 => ckN base.length ((f_florref1_reach_2c97 FUEL base 0 0 (List.replicate base.length ((0 : Int)))).bind fun r93 => ((f_florref1_BaseError_l5 base r93 FUEL 0).bind (fun x104 => sumC x104 (fun s105 => some 0) (fun s107 => some ((s107 : Int))))))) (fun s90 => some ((s90 : Int))))) (fun s48 => some s48)) = r → f_florref1_BaseError base = r := fun r h => by
    unfold f_florref1_BaseError
    rw [decide_eq_false (show ¬ ((base.length : Int) = 0) by omega), decide_eq_false (show ¬ ((2000 : Int) < (base.length : Int)) by omega), cond_false, cond_false]
    exact h
  rw [t1] at hT
  rw [r1] at hR
  cases he : errs base base 0 with
  | some e =>
    rw [he] at hT hR
    exact ⟨e, hT _ rfl, hR _ rfl, fun h => absurd h (errs_ne _ _ _ he)⟩
  | none =>
    rw [he] at hT hR
    have ho := Ord.of hne he
    have tk : f_tree_checkKids base = some (match allKids base base with | some e => (e : Int) | none => 0) := by
      unfold f_tree_checkKids
      rw [allKids_tree ho hs hq base (fun _ h => h), Option.bind_some]
      cases allKids base base <;> rfl
    have rk := allKids_ref ho base
    simp only [asSum] at hT hR
    rw [Option.bind_some, sum_inl, tk, Option.bind_some] at hT
    rw [Option.bind_some, sum_inl, rk, Option.bind_some] at hR
    cases hk : allKids base base with
    | some e =>
      rw [hk] at hT hR
      have hen := allKids_ne _ _ hk
      refine ⟨(e : Int), hT _ ?_, hR _ rfl, fun h => by omega⟩
      rw [decide_eq_true (show (e : Int) ≠ 0 by omega)]; rfl
    | none =>
      rw [hk] at hT hR
      have ht := Tr.of ho hk
      obtain ⟨at_, a1, a2, hval⟩ := depths_eq ht hs hq
      obtain ⟨dp, d1, d2, d3⟩ := reach_eq ht hs
      have l5 := deep_ref ht hs a2 d2 d3 hval base FUEL 0 rfl hfu
      simp only [asSumN] at hR
      rw [a1, Option.bind_some, deep_tree, Option.bind_some] at hT
      rw [sum_inl, ckN_ok (by omega), d1, Option.bind_some, l5, Option.bind_some] at hR
      have hT' : f_tree_Check base = some (match deepErr at_ base with | some e => (e : Int) | none => 0) := hT _ (by
        rw [decide_eq_false (show ¬ ((0 : Int) ≠ 0) by omega), cond_false]
        cases deepErr at_ base <;> rfl)
      have hR' : f_florref1_BaseError base = some (match deepErr at_ base with | some e => (e : Int) | none => 0) := hR _ (by cases deepErr at_ base <;> rfl)
      refine ⟨_, hT', hR', fun h => ?_⟩
      cases hde : deepErr at_ base with
      | some e => rw [hde] at h; exact absurd (deepErr_ne _ _ hde) (by simpa using h)
      | none =>
        have key : ∀ l : List Block, deepErr at_ l = none → ∀ b ∈ l, ∃ d, Rch base b.id d ∧ d ≤ 40 := by
          intro l
          induction l with
          | nil => intro _ b hb; cases hb
          | cons y r ih =>
            intro hl b hb
            rw [deepErr] at hl
            cases hm : mget at_ y.id with
            | none => rw [hm] at hl; cases hl
            | some v =>
              rw [hm] at hl
              dsimp only at hl
              split at hl
              · cases hl
              · rcases List.mem_cons.1 hb with rfl | hb
                · obtain ⟨d, rfl⟩ := hval _ _ hm
                  exact ⟨d, (a2 _ d).2 hm, by omega⟩
                · exact ih hl b hb
        exact { ht with deep := key base hde, small := by omega }
end Go.Fl
