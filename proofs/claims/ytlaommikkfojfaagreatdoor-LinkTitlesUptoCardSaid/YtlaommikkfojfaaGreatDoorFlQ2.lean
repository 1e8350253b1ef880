/- FoldTitle, on. Plain Lean. -/
import Derived.Test.YtlaommikkfojfaaGreatDoorFlQ1
namespace Go.Fl
set_option maxRecDepth 100000
set_option linter.unusedSimpArgs false
theorem split_eq (s : Bytes) (h : s.length ≤ 1048576) : f_strings_Split_8e1a s = some (spl s) := by
  have hcl : s.count 32 ≤ s.length := List.count_le_length
  have h32 : ((32 : Int).toNat.toUInt8) = (32 : UInt8) := rfl
  have hcnt : countB s 32 = ((s.count 32 : Nat) : Int) := by rw [countB, h32, Go.Lib.countByte]
  have hmin : (if ((s.length : Int) + 1) < ((s.count 32 : Nat) : Int) + 1 then ((s.length : Int) + 1) else ((s.count 32 : Nat) : Int) + 1) = ((s.count 32 : Nat) : Int) + 1 := by rw [if_neg (by omega)]
  have hg := genSplit_eq s h FUEL (FUEL_gt (n := 1048577) (Nat.le_of_ble_eq_true rfl))
  unfold f_strings_Split_8e1a f_strings_genSplit_7a42 f_strings_Count_8e1a
  generalize FUEL = F at hg ⊢
  obtain ⟨⟨last, a', n⟩, e1, e2, e3, e4⟩ := hg
  simp only at e2 e3 e4
  subst e2
  rw [Option.bind_some, hcnt]
  rw [hmin]
  rw [ckI_ok (by omega) (by omega), ckI_ok (by omega) (by omega), ckP_ok (by omega), ckN_ok (by omega), ckI_ok (by omega) (by omega)]
  rw [show (((s.count 32 : Nat) : Int) + 1).toNat = s.count 32 + 1 by omega, e1]
  have ha : a'[s.count 32]? = some (a'[s.count 32]'(by omega)) := List.getElem?_eq_getElem _
  have hset : (a'.set (s.count 32) last).length = s.count 32 + 1 := by rw [List.length_set, e3]
  rw [Option.bind_some]
  dsimp only
  rw [ha, Option.bind_some]
  rw [ckI_ok (by omega) (by omega), cutL_ok (by omega) (by omega) (by rw [hset]; omega), Option.bind_some, e4, Option.bind_some]
  rw [show (0 : Int).toNat = 0 from rfl, List.drop_zero]
  congr 1
  apply List.take_of_length_le
  rw [spl_len]; omega

/-- A letter made small. -/
def lo (c : UInt8) : UInt8 := if 65 ≤ c.toNat ∧ c.toNat ≤ 90 then c + 32 else c
def loI (n : Int) : Int := if 65 ≤ n ∧ n ≤ 90 then n + 32 else n
theorem wrap_u8 {n : Int} (h0 : 0 ≤ n) (h1 : n < 256) : IntKind.u8.wrap n = n := by
  simp only [IntKind.wrap]
  simp [IntKind.bits, IntKind.signed]
  omega
theorem lower_loop : ∀ (rest : List Int) (pre out : List Int), (∀ n ∈ rest, 0 ≤ n ∧ n < 256) → f_link_lower_l1 rest pre.length (pre ++ rest) = some (pre ++ rest.map loI)
  | [], pre, _, _ => by simp [f_link_lower_l1]
  | x :: rest, pre, out, h => by
    have hx := h x List.mem_cons_self
    have ih := fun p => lower_loop rest p out fun n hn => h n (List.mem_cons_of_mem _ hn)
    have hget : (pre ++ x :: rest)[pre.length]? = some x := by simp
    have hset : ∀ y, (pre ++ x :: rest).set pre.length y = (pre ++ [y]) ++ rest := fun y => by simp
    unfold f_link_lower_l1
    rw [hget, Option.bind_some, condD]
    have e1 : pre.length + 1 = (pre ++ [x]).length := by simp
    by_cases h1 : (65 : Int) ≤ x
    · rw [if_pos h1, Option.bind_some, condD]
      by_cases h2 : x ≤ 90
      · rw [if_pos h2, Option.bind_some, wrap_u8 (n := x + 97) (by omega) (by omega), wrap_u8 (by omega) (by omega), hset]
        have e2 : pre.length + 1 = (pre ++ [x + 97 - 65]).length := by simp
        rw [e2, ih (pre ++ [x + 97 - 65])]
        simp [loI, h1, h2]; omega
      · rw [if_neg h2, e1, show pre ++ x :: rest = (pre ++ [x]) ++ rest by simp, ih (pre ++ [x])]
        simp [loI, h2]
    · rw [if_neg h1, Option.bind_some, cond_false, e1, show pre ++ x :: rest = (pre ++ [x]) ++ rest by simp, ih (pre ++ [x])]
      simp [loI, h1]
theorem small_loop : ∀ (rest : List Int) (pre out : List Int), (∀ n ∈ rest, 0 ≤ n ∧ n < 256) → f_florref2_bytesSmall_l1 rest pre.length (pre ++ rest) = some (pre ++ rest.map loI)
  | [], pre, _, _ => by simp [f_florref2_bytesSmall_l1]
  | x :: rest, pre, out, h => by
    have hx := h x List.mem_cons_self
    have ih := fun p => small_loop rest p out fun n hn => h n (List.mem_cons_of_mem _ hn)
    have hget : (pre ++ x :: rest)[pre.length]? = some x := by simp
    have hset : ∀ y, (pre ++ x :: rest).set pre.length y = (pre ++ [y]) ++ rest := fun y => by simp
    unfold f_florref2_bytesSmall_l1
    rw [hget, Option.bind_some, condD]
    have e1 : pre.length + 1 = (pre ++ [x]).length := by simp
    by_cases h1 : (65 : Int) ≤ x
    · rw [if_pos h1, Option.bind_some, condD]
      by_cases h2 : x ≤ 90
      · rw [if_pos h2, Option.bind_some, wrap_u8 (by omega) (by omega), hset]
        have e2 : pre.length + 1 = (pre ++ [x + 32]).length := by simp
        rw [e2, ih (pre ++ [x + 32])]
        simp [loI, h1, h2]
      · rw [if_neg h2, e1, show pre ++ x :: rest = (pre ++ [x]) ++ rest by simp, ih (pre ++ [x])]
        simp [loI, h2]
    · rw [if_neg h1, Option.bind_some, cond_false, e1, show pre ++ x :: rest = (pre ++ [x]) ++ rest by simp, ih (pre ++ [x])]
      simp [loI, h1]
theorem nums_range (s : Bytes) : ∀ n ∈ nums s, 0 ≤ n ∧ n < 256 := by
  intro n hn
  simp only [nums, List.mem_map] at hn
  obtain ⟨c, _, rfl⟩ := hn
  have := c.toNat_lt
  omega
theorem ofNums_lo (s : Bytes) : ofNums ((nums s).map loI) = s.map lo := by
  simp only [ofNums, nums, List.map_map]
  apply List.map_congr_left
  intro c _
  simp only [Function.comp, loI, lo]
  have hc := c.toNat_lt
  by_cases h : 65 ≤ c.toNat ∧ c.toNat ≤ 90
  · rw [if_pos h, if_pos (by omega)]
    apply UInt8.toNat_inj.1
    rw [show ((c.toNat : Int) + 32).toNat = c.toNat + 32 by omega, UInt8.toNat_add]
    simp
  · rw [if_neg h, if_neg (by omega)]
    simp
theorem lower_eq (s : Bytes) (h : s.length ≤ 1048576) : f_link_lower s = some (s.map lo) := by
  unfold f_link_lower
  rw [ckN_ok (by omega)]
  have := lower_loop (nums s) [] [] (nums_range s)
  simp only [List.length_nil, List.nil_append] at this
  rw [this, Option.bind_some, ofNums_lo]
theorem small_eq (s : Bytes) (h : s.length ≤ 4194304) : f_florref2_small s = some (s.map lo) := by
  unfold f_florref2_small f_florref2_bytesSmall
  rw [ckN_ok (by omega)]
  have := small_loop (nums s) [] [] (nums_range s)
  simp only [List.length_nil, List.nil_append] at this
  rw [this, Option.bind_some, ofNums_lo]
  rfl
theorem lo_32 (c : UInt8) : lo c = 32 ↔ c = 32 := by
  have hc := c.toNat_lt
  constructor
  · intro h
    unfold lo at h
    split at h
    · rename_i h2
      have := congrArg UInt8.toNat h
      rw [UInt8.toNat_add] at this
      simp at this
      omega
    · exact h
  · intro h; subst h; rfl
theorem spl_map : ∀ s : Bytes, spl (s.map lo) = (spl s).map (·.map lo)
  | [] => rfl
  | c :: r => by
    have ih := spl_map r
    simp only [List.map_cons, spl]
    by_cases hc : c = 32
    · rw [if_pos hc, if_pos ((lo_32 c).2 hc), ih]; rfl
    · rw [if_neg hc, if_neg (fun h => hc ((lo_32 c).1 h)), ih]
      cases spl r <;> rfl
end Go.Fl
