/- Words of the plain programs that the printed walks answer to, and what a plain program's success shows. No condition: definitions and lemmas alone. -/
import Derived.Test.YtlaommikkfojfaaGreatDoorFlDraw
namespace Go.Fl
open Go
abbrev Bytes := List UInt8

/-- A number that an int can hold. -/
def ckI {α : Type} (x : Int) (r : Option α) : Option α := if -9223372036854775808 ≤ x ∧ x ≤ 9223372036854775807 then r else none
/-- A length that a slice or a string may have. -/
def ckN {α : Type} (n : Nat) (r : Option α) : Option α := if n ≤ 4294967296 then r else none
/-- A condition. -/
def ckP {α : Type} (p : Prop) [Decidable p] (r : Option α) : Option α := if p then r else none
def atL {α : Type} (l : List α) (i : Int) : Option α := if 0 ≤ i then l[i.toNat]? else none
def cutL {α : Type} (l : List α) (a b : Int) : Option (List α) := if 0 ≤ a ∧ a ≤ b ∧ b ≤ l.length then some ((l.drop a.toNat).take (b.toNat - a.toNat)) else none
def sumC {σ ε β : Type} (x : Sum σ ε) (f : σ → Option β) (g : ε → Option β) : Option β := match x with
  | .inl s => f s
  | .inr e => g e
/-- More rounds than any loop here takes. -/
def FUEL : Nat := 18446744073709551616
theorem FUEL_gt {n : Nat} (h : n ≤ 18446744073709551615) : n < FUEL := by unfold FUEL; omega
theorem FUEL_succ : ∃ m, FUEL = m + 1 ∧ m = 18446744073709551615 := ⟨18446744073709551615, rfl, rfl⟩
attribute [irreducible] FUEL

section
variable {α β σ ε : Type} {r : β}
theorem ckI_inv {x : Int} {y : Option β} (h : ckI x y = some r) : -9223372036854775808 ≤ x ∧ x ≤ 9223372036854775807 ∧ y = some r := by
  unfold ckI at h; split at h
  · rename_i hx; exact ⟨hx.1, hx.2, h⟩
  · cases h
theorem ckN_inv {n : Nat} {y : Option β} (h : ckN n y = some r) : n ≤ 4294967296 ∧ y = some r := by
  unfold ckN at h; split at h
  · rename_i hx; exact ⟨hx, h⟩
  · cases h
theorem ckP_inv {p : Prop} [Decidable p] {y : Option β} (h : ckP p y = some r) : p ∧ y = some r := by
  unfold ckP at h; split at h
  · rename_i hx; exact ⟨hx, h⟩
  · cases h
theorem bind_inv {x : Option α} {f : α → Option β} (h : x.bind f = some r) : ∃ a, x = some a ∧ f a = some r := by
  cases x with
  | none => cases h
  | some a => exact ⟨a, rfl, h⟩
theorem at_inv {l : List α} {i : Int} {f : α → Option β} (h : (atL l i).bind f = some r) : ∃ x, ∃ n : Nat, i = n ∧ l[n]? = some x ∧ f x = some r := by
  obtain ⟨x, hx, h⟩ := bind_inv h
  unfold atL at hx; split at hx
  · exact ⟨x, i.toNat, by omega, hx, h⟩
  · cases hx
theorem atn_inv {α β : Type} {l : List α} {i : Int} {f : α → Option β} {r : β} (h : (atL l i).bind f = some r) : ∃ x, 0 ≤ i ∧ l[i.toNat]? = some x ∧ f x = some r := by
  obtain ⟨x, h1, h2⟩ := bind_inv h
  unfold atL at h1
  split at h1
  · exact ⟨x, by assumption, h1, h2⟩
  · cases h1
theorem cut_inv {l : List α} {a b : Int} {f : List α → Option β} (h : (cutL l a b).bind f = some r) : ∃ y, ∃ m n : Nat, a = m ∧ b = n ∧ m ≤ n ∧ n ≤ l.length ∧ (l.drop m).take (n - m) = y ∧ f y = some r := by
  obtain ⟨x, hx, h⟩ := bind_inv h
  unfold cutL at hx; split at hx
  · cases hx; exact ⟨_, a.toNat, b.toNat, by omega, by omega, by omega, by omega, rfl, h⟩
  · cases hx
theorem cond_t {c : Bool} {x y : Option β} (hc : c = true) (h : cond c x y = some r) : x = some r := by subst hc; exact h
theorem cond_f {c : Bool} {x y : Option β} (hc : c = false) (h : cond c x y = some r) : y = some r := by subst hc; exact h
theorem sum_l {s : σ} {f : σ → Option β} {g : ε → Option β} (h : sumC (.inl s) f g = some r) : f s = some r := h
theorem sum_r {e : ε} {f : σ → Option β} {g : ε → Option β} (h : sumC (.inr e) f g = some r) : g e = some r := h
theorem lt_of_dec {k n : Nat} (h : decide ((k : Int) < (n : Int)) = true) : k < n := by simpa using h
theorem nlt_of_dec {k n : Nat} (h : decide ((k : Int) < (n : Int)) = false) : n ≤ k := by simpa using h
theorem drop_at {l : List α} {k : Nat} {x : α} (h : l[k]? = some x) : l.drop k = x :: l.drop (k + 1) := by
  have hk : k < l.length := by
    rcases Nat.lt_or_ge k l.length with h' | h'
    · exact h'
    · simp [List.getElem?_eq_none h'] at h
  rw [List.drop_eq_getElem_cons hk]
  rw [List.getElem?_eq_getElem hk] at h
  simp at h; rw [h]
theorem get_of_lt {l : List α} {k : Nat} (h : k < l.length) : ∃ x, l[k]? = some x := ⟨_, List.getElem?_eq_getElem h⟩
theorem drop_end {l : List α} {k : Nat} (h : l.length ≤ k) : l.drop k = [] := List.drop_eq_nil_of_le h
theorem fits_len {n : Nat} (h : n ≤ 4294967296) {m b : Nat} (e : m = n) (hb : Nat.ble b 32768 = true) : m * b ≤ 140737488355328 := by
  have hb' := Nat.le_of_ble_eq_true hb
  subst e
  calc m * b ≤ 4294967296 * 32768 := Nat.mul_le_mul h hb'
    _ = 140737488355328 := by decide
theorem fits_max {n : Nat} (h : n ≤ 4294967296) {m : Nat} (e : m = n) : m ≤ 9223372036854775807 := by omega
end
theorem mu_dec {k n : Nat} (h : k < n) : n - (k + 1) < n - k := by omega
theorem app_len {α β γ : Type} {l : List α} {m : List β} {l' : List γ} {m' : Nat} (h1 : l.length = l'.length) (h2 : m.length = m') : l.length + m.length = l'.length + m' := by omega
theorem cut_map {α β : Type} {l y : List α} {f : α → β} {m n : Nat} (h : (l.drop m).take (n - m) = y) : ((l.map f).drop m).take (n - m) = y.map f := by subst h; simp
theorem ev_int {kd : IntKind} {i j : Int} (h : i = j) : some (V.lit (.int kd i)) = some (V.lit (.int kd j)) := by rw [h]
theorem bnd_int {st : St} {x : Operand} {k : IntKind} {i : Int} {b dflt : Nat} (hx : st.ev x = some (.lit (.int k i))) (h : i = b) : bnd st dflt (some x) = some b := by
  subst h; simp [bnd, hx]
theorem bnd_z {st : St} {b : Nat} (h : (0 : Int) = b) : bnd st 0 none = some b := by simp only [bnd]; congr 1; omega
theorem bnd_l {st : St} {b n : Nat} (h : (n : Int) = b) : bnd st n none = some b := by simp only [bnd]; congr 1; omega
theorem bnd_m {α β : Type} {st : St} {b : Nat} {l : List α} {f : α → β} (h : (l.length : Int) = b) : bnd st (l.map f).length none = some b := by simp only [bnd, List.length_map]; congr 1; omega
theorem Tri.meet1 {P : Program} {ro : Option Nat} {st : St} {Q : Exit → St → Prop} {c : Code} {α : Type} (p : α → Prop) (I : α → St) (h : Tri P c st (Then (fun s => ∃ x, p x ∧ Weak s (I x)) Q) ro) (k : ∀ x, p x → Q .normal (I x)) : Tri P c st Q ro := by
  intro G M ι a w hi
  refine wpIn_mono (h G M ι a w hi) fun e a' w' ⟨s, M', ι', G', h1, h2, hG⟩ => ?_
  cases e with
  | normal =>
    obtain ⟨x, hp, hw⟩ := h1
    obtain ⟨M2, ι2, h3⟩ := hw G' M' ι' a' w' h2
    exact ⟨_, M2, ι2, G', k x hp, h3, hG⟩
  | _ => exact ⟨s, M', ι', G', h1, h2, hG⟩
theorem OkH.sub {P : Program} {f : FuncId} {as : List V1} {H : List (Nat × Ob)} {nx : Nat} {Q : V → List (Nat × Ob) → Nat → Prop} (h : OkH P f as H nx fun r H0 nx' => ∃ H', H'.Sublist H0 ∧ Q r H' nx') : OkH P f as H nx Q :=
  fun M ι vs w h1 h2 => (h M ι vs w h1 h2).mono fun _ _ ⟨v, M', ι', r, H0, nx', a1, ⟨H', hs, hq⟩, a3, a4, a5, a6, a7, a8, a9, a10⟩ => ⟨v, M', ι', r, H', nx', a1, hq, a3, a4.sub hs, a5, a6, a7, a8, a9, fun p hp => a10 p (hs.subset hp)⟩
/-- A function's end that is no 'return': what was known may be weakened there. -/
theorem Tri.fall {P : Program} {ro : Option Nat} {st : St} {Q : Exit → St → Prop} {c : Code} (h : Tri P c st (Then (fun s => ∃ s', Weak s s' ∧ Q .normal s') Q) ro) : Tri P c st Q ro := by
  intro G M ι a w hi
  refine wpIn_mono (h G M ι a w hi) fun e a' w' ⟨s, M', ι', G', h1, h2, hG⟩ => ?_
  cases e with
  | normal =>
    obtain ⟨s', hw, hq⟩ := h1
    obtain ⟨M2, ι2, h3⟩ := hw G' M' ι' a' w' h2
    exact ⟨s', M2, ι2, G', hq, h3, hG⟩
  | _ => exact ⟨s, M', ι', G', h1, h2, hG⟩
theorem rowOf_closE {α : Type} {l : List α} {f : α → List C} : rowOf f l = clos (l.map f) := rowOf_clos.symm
theorem Weak.sealS {st : St} {o sz : Nat} {e : TypeId} {α : Type} {l : List α} {f : α → List C} (k t : Nat) (hk : st.H[k]? = some (o, .row e sz (rowOf f l))) (ht : st.get t = some (.one (.obj o))) : Weak st ⟨st.n, setD (some t) (some (.c (.ro sz false (l.map f)))) st.fr, st.H.eraseIdx k, st.nx⟩ :=
  Weak.sealC k t (by rw [hk, rowOf_closE]) ht
theorem Weak.sealG {st : St} {o sz : Nat} {e : TypeId} {α : Type} {l : List α} {f : α → List C} {as : List A} (k t q : Nat) (hk : st.H[k]? = some (o, .row e sz (rowOf f l))) (ht : st.get t = some (.agg as)) (hq : as[q]? = some (.obj o)) : Weak st ⟨st.n, setD (some t) (some (.agg (as.set q (.c (.ro sz false (l.map f)))))) st.fr, st.H.eraseIdx k, st.nx⟩ :=
  Weak.seal2 k t q (by rw [hk, rowOf_closE]) ht hq
theorem perm_idx {α : Type} {l m : List α} (ks : List Nat) (h : (ks.filterMap fun k => l[k]?) = m) (hn : ks.Nodup := by decide) (hl : m.length = l.length := by rfl) : l.Perm m := by
  obtain ⟨r, h1, h2⟩ := filterMap_subperm l ks hn
  have : r = l := h2.eq_of_length (by rw [← h1.length_eq, h]; exact hl)
  subst this
  rw [← h]; exact h1.symm

/-- One of two: what is said of it. -/
def sumP {σ ε : Type} (x : Sum σ ε) (p : σ → Prop) (q : ε → Prop) : Prop := match x with
  | .inl s => p s
  | .inr e => q e
theorem sumP_l {σ ε : Type} {s : σ} {p : σ → Prop} {q : ε → Prop} (h : p s) : sumP (.inl s) p q := h
theorem sumP_r {σ ε : Type} {e : ε} {p : σ → Prop} {q : ε → Prop} (h : q e) : sumP (.inr e) p q := h
theorem bnd_r {α : Type} {st : St} {b : Nat} {l : List α} {f : α → List C} (h : (l.length : Int) = b) : bnd st (rowOf f l).length none = some b := by simp only [bnd, rowOf_length]; congr 1; omega
theorem bnd_tn {st : St} {x : Operand} {k : IntKind} {i : Int} {dflt : Nat} (hx : st.ev x = some (.lit (.int k i))) (h : 0 ≤ i) : bnd st dflt (some x) = some i.toNat := by
  simp only [bnd, hx, if_pos h]
theorem bnd_nn {st : St} {x : Operand} {k : IntKind} {i : Nat} {dflt : Nat} (hx : st.ev x = some (.lit (.int k i))) (h : (0 : Int) ≤ i) : bnd st dflt (some x) = some i := by
  simp only [bnd, hx, if_pos h, Int.toNat_natCast]
theorem ev_tn {st : St} {x : Operand} {k : IntKind} {i : Int} (hx : st.ev x = some (.lit (.int k i))) (h : 0 ≤ i) : st.ev x = some (.lit (.int k (i.toNat : Int))) := by
  rw [hx, Int.toNat_of_nonneg h]
theorem row_cut {α : Type} {l y : List α} {f : α → List C} {m n : Nat} (h : (l.drop m).take (n - m) = y) : ((rowOf f l).drop m).take (n - m) = rowOf f y := by
  subst h; simp [rowOf, List.map_take, List.map_drop]
theorem make_row {α : Type} {f : α → List C} {z : Value} {x : α} {n : Nat} (h : (f x).map A.c = zeroA z) : List.replicate n (zeroA z) = rowOf f (List.replicate n x) := by
  simp [rowOf, h]
theorem clear_row {α : Type} {f : α → List C} {z : Value} {x : α} {l : List α} {i m : Nat} (h : (f x).map A.c = zeroA z) :
    (rowOf f l).take i ++ List.replicate m (zeroA z) ++ (rowOf f l).drop (i + m) = rowOf f (l.take i ++ List.replicate m x ++ l.drop (i + m)) := by
  simp [rowOf, h, List.map_take, List.map_drop]
theorem fits_len48 {n : Nat} (h : n ≤ 4294967296) {b : Nat} (hb : Nat.ble b 32768 = true) : n * b ≤ 281474976710656 := by
  have hb := Nat.le_of_ble_eq_true hb
  have : n * b ≤ 4294967296 * 32768 := Nat.mul_le_mul h hb
  omega
theorem idx_lt {α : Type} {l : List α} {i : Nat} {x : α} (h : l[i]? = some x) {n : Nat} (hn : l.length = n) : i < n := by
  rcases Nat.lt_or_ge i l.length with h' | h'
  · omega
  · rw [List.getElem?_eq_none h'] at h; cases h
end Go.Fl
