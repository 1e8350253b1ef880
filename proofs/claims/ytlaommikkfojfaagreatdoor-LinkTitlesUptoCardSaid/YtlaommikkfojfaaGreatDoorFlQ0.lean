/- Words for the plain laws: maps as lists, loops. Lemmas alone. -/
import Derived.Test.YtlaommikkfojfaaGreatDoorFlP1
namespace Go.Fl
theorem condD {α : Type} {p : Prop} [Decidable p] (x y : α) : cond (decide p) x y = if p then x else y := by by_cases h : p <;> simp [h]
theorem ckI_ok {α : Type} {x : Int} {r : Option α} (h1 : -9223372036854775808 ≤ x) (h2 : x ≤ 9223372036854775807) : ckI x r = r := by unfold ckI; rw [if_pos ⟨h1, h2⟩]
theorem ckN_ok {α : Type} {n : Nat} {r : Option α} (h : n ≤ 4294967296) : ckN n r = r := by unfold ckN; rw [if_pos h]
theorem ckP_ok {α : Type} {p : Prop} [Decidable p] {r : Option α} (h : p) : ckP p r = r := by unfold ckP; rw [if_pos h]
theorem atL_ok {α : Type} {l : List α} {i : Int} (h : 0 ≤ i) : atL l i = l[i.toNat]? := by unfold atL; rw [if_pos h]
theorem atL_nat {α : Type} {l : List α} {n : Nat} : atL l (n : Int) = l[n]? := by rw [atL_ok (by omega)]; simp
theorem cutL_ok {α : Type} {l : List α} {a b : Int} (h1 : 0 ≤ a) (h2 : a ≤ b) (h3 : b ≤ l.length) : cutL l a b = some ((l.drop a.toNat).take (b.toNat - a.toNat)) := by unfold cutL; rw [if_pos ⟨h1, h2, h3⟩]
theorem sum_inl {σ ε β : Type} (s : σ) (f : σ → Option β) (g : ε → Option β) : sumC (.inl s) f g = f s := rfl
theorem sum_inr {σ ε β : Type} (s : ε) (f : σ → Option β) (g : ε → Option β) : sumC (.inr s) f g = g s := rfl
def keys {κ υ : Type} (l : List (κ × υ)) : List κ := l.map (·.1)
theorem keys_length {κ υ : Type} (l : List (κ × υ)) : (keys l).length = l.length := by simp [keys]
section
variable {κ υ : Type} [DecidableEq κ]
theorem mget_mset (l : List (κ × υ)) (k k' : κ) (v : υ) : mget (mset l k v) k' = if k = k' then some v else mget l k' := by
  induction l with
  | nil => simp [mset, mget]
  | cons e r ih =>
    simp only [mset]
    by_cases h : e.1 = k
    · rw [if_pos h]
      simp only [mget]
      by_cases h2 : k = k'
      · rw [if_pos h2, if_pos h2]
      · rw [if_neg h2, if_neg h2, if_neg (fun h3 => h2 (h ▸ h3))]
    · rw [if_neg h]
      simp only [mget]
      by_cases h2 : e.1 = k'
      · rw [if_pos h2, if_pos h2, if_neg (fun h3 => h (by rw [h2, h3]))]
      · rw [if_neg h2, if_neg h2, ih]
theorem keys_mset (l : List (κ × υ)) (k : κ) (v : υ) : keys (mset l k v) = if k ∈ keys l then keys l else keys l ++ [k] := by
  induction l with
  | nil => simp [mset, keys]
  | cons e r ih =>
    simp only [mset]
    by_cases h : e.1 = k
    · rw [if_pos h]; simp [keys, h]
    · rw [if_neg h]
      have : (k ∈ keys (e :: r)) ↔ k ∈ keys r := by simp [keys, Ne.symm h]
      by_cases h2 : k ∈ keys r
      · rw [if_pos h2] at ih; rw [if_pos (this.2 h2)]; simp only [keys, List.map_cons] at ih ⊢; rw [ih]
      · rw [if_neg h2] at ih; rw [if_neg (fun h3 => h2 (this.1 h3))]; simp only [keys, List.map_cons] at ih ⊢; rw [ih]; rfl
theorem mgetN (l : List (κ × υ)) (k : κ) : mget l k = none ↔ k ∉ keys l := by
  induction l with
  | nil => simp [mget, keys]
  | cons e r ih =>
    simp only [mget]
    by_cases h : e.1 = k
    · simp [h, keys]
    · rw [if_neg h, ih]; simp [keys, Ne.symm h]
theorem mgetS (l : List (κ × υ)) (k : κ) : (mget l k).isSome = true ↔ k ∈ keys l := by
  have := mgetN l k
  cases h : mget l k with
  | none => simp [this.1 h]
  | some v =>
    simp only [Option.isSome_some, true_iff]
    by_cases h2 : k ∈ keys l
    · exact h2
    · rw [this.2 h2] at h; cases h
theorem nodup_mset {l : List (κ × υ)} (h : (keys l).Nodup) (k : κ) (v : υ) : (keys (mset l k v)).Nodup := by
  rw [keys_mset]
  split
  · exact h
  · rename_i h2
    exact List.nodup_append.2 ⟨h, by simp, fun a ha b hb e => by simp at hb; subst hb; subst e; exact h2 ha⟩
theorem keys_sub {l : List (κ × υ)} {L : List κ} (h : ∀ k ∈ keys l, k ∈ L) {k : κ} (hk : k ∈ L) (v : υ) : ∀ q ∈ keys (mset l k v), q ∈ L := by
  intro q hq
  rw [keys_mset] at hq
  split at hq
  · exact h q hq
  · rcases List.mem_append.1 hq with hq | hq
    · exact h q hq
    · simp at hq; subst hq; exact hk

theorem nodup_le : ∀ {l m : List κ}, l.Nodup → (∀ k ∈ l, k ∈ m) → l.length ≤ m.length
  | [], _, _, _ => Nat.zero_le _
  | a :: l, m, hn, hs => by
    have hnd := List.nodup_cons.1 hn
    have ha := hs a List.mem_cons_self
    have h1 := nodup_le (l := l) (m := m.erase a) hnd.2 fun k hk => by
      have hne : k ≠ a := fun e => hnd.1 (e ▸ hk)
      exact (List.mem_erase_of_ne hne).2 (hs k (List.mem_cons_of_mem _ hk))
    rw [List.length_erase_of_mem ha] at h1
    have : 0 < m.length := List.length_pos_of_mem ha
    simp; omega
end
end Go.Fl
