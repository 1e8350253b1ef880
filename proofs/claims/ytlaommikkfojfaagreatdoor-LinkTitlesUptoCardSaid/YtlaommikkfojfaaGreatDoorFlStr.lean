/- Steps over states: strings and parts of slices; weaker states; a slice that is closed. Lemmas alone. -/
import Derived.Test.YtlaommikkfojfaaGreatDoorFlMade
import Derived.Lib.Strings
namespace Go.Fl
open Go
section
variable {P : Program} {st : St} {d : Option Nat} {ty : TypeId} {pos : String} {aft : Array Edge} {g : Option (Nat × Bool)}

theorem Flo.idxS {t : TypeId} {x y : Operand} {k : IntKind} {i : Nat} {l : List UInt8} {c : UInt8} (ht : P.underlying t = some .string) (hx : st.ev x = some (.lit (str l))) (hy : st.ev y = some (.lit (.int k i))) (hi' : l[i]? = some c) : Flo P ⟨d, .index t x y, ty, pos, aft, g⟩ st (.lit (.int .u8 c.toNat)) :=
  fun G M ι a w hi => by
    refine ⟨.int .u8 c.toNat, fun _ _ => ?_, RepC.lit _⟩
    have hlt : i < l.length := by
      rcases Nat.lt_or_ge i l.length with h | h
      · exact h
      · simp [List.getElem?_eq_none h] at hi'
    have hc : (ByteArray.mk l.toArray)[i]? = some c := by
      have hs : i < (ByteArray.mk l.toArray).size := by simpa [ByteArray.size] using hlt
      rw [getElem?_pos (ByteArray.mk l.toArray) i hs]
      rw [List.getElem?_eq_getElem hlt] at hi'
      simpa [ByteArray.getElem_eq_getElem_data] using hi'
    simp [execOp, ev_lit hi hx, ev_lit hi hy, Instr.index, asIntOf, run_underlying ht, hc]
theorem Does.idxS {t : TypeId} {x y : Operand} {k : IntKind} {i : Nat} {l : List UInt8} {c : UInt8} (ht : P.underlying t = some .string) (hx : st.ev x = some (.lit (str l))) (hy : st.ev y = some (.lit (.int k i))) (hi' : l[i]? = some c) (hd : fits d st.n = true := by rfl) :
    Does P ⟨d, .index t x y, ty, pos, aft, g⟩ st (· = st.set d (.lit (.int .u8 c.toNat))) := (Flo.idxS ht hx hy hi').does hd
/-- A bound of a slice expression, in a state. -/
def bnd (st : St) (dflt : Nat) : Option Operand → Option Nat
  | none => some dflt
  | some x => match st.ev x with
    | some (.v (.one (.c (.lit (.int _ n))))) => if 0 ≤ n then some n.toNat else none
    | _ => none

theorem run_bounds {G : Gh} {M : Mem} {ι : Iota} {a : Act} {w : World} (hi : Inv G M ι st a w) {isS : Bool} {len cap : Nat} {lo hi' : Option Operand} {l h : Nat} (hl : bnd st 0 lo = some l) (hh : bnd st len hi' = some h) (h1 : l ≤ h) (h2 : h ≤ cap) :
    ∀ w, (Instr.sliceBounds isS len cap (lo.map a.eval) (hi'.map a.eval) none).run P w = .ok (l, h, cap) w := by
  intro w
  have key : ∀ (x : Operand) (dflt n : Nat), bnd st dflt (some x) = some n → ∃ k, a.eval x = .int k n := by
    intro x dflt n hb
    simp only [bnd] at hb
    split at hb
    · rename_i k m hx
      split at hb
      · rename_i hm
        simp at hb
        exact ⟨k, by rw [ev_lit hi hx, ← hb]; congr 1; omega⟩
      · cases hb
    · cases hb
  cases lo with
  | none =>
    simp [bnd] at hl; subst hl
    cases hi' with
    | none => simp [bnd] at hh; subst hh; simp [Instr.sliceBounds]
    | some y =>
      obtain ⟨k, hk⟩ := key _ _ _ hh
      simp [Instr.sliceBounds, Instr.sliceBound, hk, asIntOf, h2]
  | some x =>
    obtain ⟨k, hk⟩ := key _ _ _ hl
    cases hi' with
    | none => simp [bnd] at hh; subst hh; simp [Instr.sliceBounds, Instr.sliceBound, hk, asIntOf, h1]
    | some y =>
      obtain ⟨k', hk'⟩ := key _ _ _ hh
      simp [Instr.sliceBounds, Instr.sliceBound, hk, hk', asIntOf, h1, h2]

theorem Flo.sliceS {t : TypeId} {x : Operand} {lo hi' : Option Operand} {s : List UInt8} {l h : Nat} (ht : P.underlying t = some .string) (hx : st.ev x = some (.lit (str s))) (hl : bnd st 0 lo = some l) (hh : bnd st s.length hi' = some h) (h1 : l ≤ h) (h2 : h ≤ s.length) : Flo P ⟨d, .slice t x lo hi' none, ty, pos, aft, g⟩ st (.lit (str ((s.drop l).take (h - l)))) :=
  fun G M ι a w hi => by
    refine ⟨str ((s.drop l).take (h - l)), fun w _ => ?_, RepC.lit _⟩
    have hs : (ByteArray.mk s.toArray).size = s.length := by simp [ByteArray.size]
    have hb := run_bounds (P := P) hi (isS := false) (cap := s.length) hl hh h1 h2
    have he : (ByteArray.mk s.toArray).extract l h = ByteArray.mk ((s.drop l).take (h - l)).toArray := by
      rw [Go.Lib.extract_eq]
    simp [execOp, ev_lit hi hx, Instr.sliceAt, Instr.slice, run_underlying ht, hs, hb, he]
theorem Does.sliceS {t : TypeId} {x : Operand} {lo hi' : Option Operand} {s : List UInt8} {l h : Nat} (ht : P.underlying t = some .string) (hx : st.ev x = some (.lit (str s))) (hl : bnd st 0 lo = some l) (hh : bnd st s.length hi' = some h) (h1 : l ≤ h) (h2 : h ≤ s.length) (hd : fits d st.n = true := by rfl) :
    Does P ⟨d, .slice t x lo hi' none, ty, pos, aft, g⟩ st (· = st.set d (.lit (str ((s.drop l).take (h - l))))) := (Flo.sliceS ht hx hl hh h1 h2).does hd
theorem drop_take_get {α : Type} {l : List α} {lo n i : Nat} {x : α} (h : ((l.drop lo).take n)[i]? = some x) : l[lo + i]? = some x ∧ i < n := by
  rw [List.getElem?_take] at h
  split at h
  · rename_i hi; rw [List.getElem?_drop] at h; exact ⟨h, hi⟩
  · cases h

/-- A part of a closed slice: closed, and of the same memory. -/
theorem Flo.sliceR {t e : TypeId} {x : Operand} {lo hi' : Option Operand} {sz l h : Nat} {cl : Bool} {es : List (List C)} (ht : P.underlying t = some (.slice e)) (hsz : ∀ w, (sizeOf e).run P w = .ok sz w) (hx : st.ev x = some (.c (.ro sz cl es))) (hl : bnd st 0 lo = some l) (hh : bnd st es.length hi' = some h) (h1 : l ≤ h) (h2 : h ≤ es.length) : Flo P ⟨d, .slice t x lo hi' none, ty, pos, aft, g⟩ st (.c (.ro sz false ((es.drop l).take (h - l)))) :=
  fun G M ι a w hi => by
    have hr := hi.ev hx
    generalize hu : a.eval x = u at hr
    cases hr with
    | nil sz cl p c hp hcl hm =>
      have hl0 : l = 0 := by simp at h2; omega
      have hh0 : h = 0 := by simpa using h2
      subst hl0; subst hh0
      have hb := run_bounds (P := P) hi (isS := true) (len := 0) (cap := c) hl (by simpa using hh) (Nat.le_refl _) (Nat.zero_le _)
      refine ⟨.slice (if c = 0 then p else p.map (·.add 0)) 0 c, fun _ _ => by simp [execOp, hu, Instr.sliceAt, Instr.slice, run_underlying ht, hb, hsz], ?_⟩
      have hadd : (p.map fun x => x.add 0) = p := by cases p <;> simp [Addr.add]
      rw [hadd, ite_self]
      exact .nil _ _ _ _ hp (fun h => by cases h) hm
    | ro sz cl es b off c u hne hsz' hc hm hcl hu' hr =>
      have hb := run_bounds (P := P) hi (isS := true) (len := es.length) (cap := c) hl hh h1 (Nat.le_trans h2 hc)
      refine ⟨.slice (if c = l then some ⟨b, off, none⟩ else some ⟨b, off + l * sz, none⟩) (h - l) (c - l), fun _ _ => by simp [execOp, hu, Instr.sliceAt, Instr.slice, run_underlying ht, hb, hsz, addr_add], ?_⟩
      by_cases hlh : l = h
      · subst hlh
        simp only [Nat.sub_self, List.take_zero]
        exact .nil _ _ _ _ (by split <;> simp) (fun h => by cases h) (by omega)
      · have hlc : c ≠ l := by omega
        rw [if_neg hlc]
        obtain ⟨L, hL⟩ : ∃ L, L = (es.drop l).take (h - l) := ⟨_, rfl⟩
        have hlen : L.length = h - l := by rw [hL]; simp; omega
        rw [← hL]
        have key : RepC M (.ro sz false L) (.slice (some ⟨b, off + l * sz, none⟩) L.length (c - l)) := by
          refine .ro _ _ _ _ _ _ (fun i j => u (l + i) j) (fun hn => ?_) (fun y hy => ?_) (by omega) (by omega) (fun h => by cases h) (fun i y j z h3 h4 => ?_) (fun i y j z h3 h4 => ?_)
          · rw [hn] at hlen; simp at hlen; omega
          · rw [hL] at hy; exact hsz' y (List.mem_of_mem_drop (List.mem_of_mem_take hy))
          · rw [hL] at h3
            obtain ⟨h5, h6⟩ := drop_take_get h3
            have := hu' _ _ _ _ h5 h4
            rwa [Nat.add_mul, show off + (l * sz + i * sz + j) = off + l * sz + (i * sz + j) by omega] at this
          · rw [hL] at h3
            obtain ⟨h5, h6⟩ := drop_take_get h3
            exact hr _ _ _ _ h5 h4
        rwa [hlen] at key
theorem Does.sliceR {t e : TypeId} {x : Operand} {lo hi' : Option Operand} {sz l h : Nat} {cl : Bool} {es : List (List C)} (ht : P.underlying t = some (.slice e)) (hsz : ∀ w, (sizeOf e).run P w = .ok sz w) (hx : st.ev x = some (.c (.ro sz cl es))) (hl : bnd st 0 lo = some l) (hh : bnd st es.length hi' = some h) (h1 : l ≤ h) (h2 : h ≤ es.length) (hd : fits d st.n = true := by rfl) :
    Does P ⟨d, .slice t x lo hi' none, ty, pos, aft, g⟩ st (· = st.set d (.c (.ro sz false ((es.drop l).take (h - l))))) := (Flo.sliceR ht hsz hx hl hh h1 h2).does hd
/-- What of a state is kept: the slots ks. -/
def keepFr (fr : Fr) : List Nat → Fr
  | [] => []
  | k :: ks => (k, look k fr) :: keepFr fr ks
theorem keepFr_look (fr : Fr) (t : Nat) (v : V) : ∀ ks, look t (keepFr fr ks) = some v → look t fr = some v
  | [], h => by simp [keepFr, look] at h
  | k :: ks, h => by
    simp only [keepFr, look] at h
    cases hb : Nat.beq k t with
    | true =>
      have : k = t := Nat.eq_of_beq_eq_true hb
      subst this
      rw [hb] at h; exact h
    | false => rw [hb] at h; exact keepFr_look fr t v ks h
def St.keep (st : St) (ks : List Nat) : St := ⟨st.n, keepFr st.fr ks, st.H, st.nx⟩
theorem Weak.keep (ks : List Nat) : Weak st (st.keep ks) := by
  intro G M ι a w hi
  exact ⟨M, ι, hi.core, fun t v hv => hi.fr t v (keepFr_look _ _ _ ks hv), hi.size, hi.defers, hi.M0, hi.ι0, hi.kept, hi.own, hi.past⟩
/-- Fewer objects. -/
theorem Weak.drop {H' : List (Nat × Ob)} (hs : H'.Sublist st.H) : Weak st { st with H := H' } :=
  fun _ M ι _ _ hi => ⟨M, ι, hi.core.sub hs, hi.fr, hi.size, hi.defers, hi.M0, hi.ι0, hi.kept, fun p hp => hi.own p (hs.subset hp), hi.past⟩
theorem InvH.perm {M : Mem} {ι : Iota} {H H' : List (Nat × Ob)} {nx : Nat} {w : World} (h : InvH M ι H nx w) (hp : H.Perm H') : InvH M ι H' nx w :=
  ⟨h.dom, h.one, fun p hm => h.ob p (hp.mem_iff.2 hm), h.sep.perm hp fun hxy x y b hx hy hb he => hxy y x b hy hx he hb, h.mem, fun p hm => h.free p (hp.mem_iff.2 hm)⟩
theorem Weak.perm {H' : List (Nat × Ob)} (hp : st.H.Perm H') : Weak st { st with H := H' } :=
  fun _ M ι _ _ hi => ⟨M, ι, hi.core.perm hp, hi.fr, hi.size, hi.defers, hi.M0, hi.ι0, hi.kept, fun p hm => hi.own p (hp.mem_iff.2 hm), hi.past⟩
end
end Go.Fl
