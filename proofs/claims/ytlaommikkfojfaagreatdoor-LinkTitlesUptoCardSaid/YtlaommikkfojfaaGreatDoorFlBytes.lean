/- Steps over states: strings and bytes. Lemmas alone. -/
import Derived.Test.YtlaommikkfojfaaGreatDoorFlJoin
import Derived.Lib.ConvBytes
import Derived.Laws.BytesString
namespace Go.Fl
open Go
section
variable {P : Program} {st : St} {d : Option Nat} {ty : TypeId} {pos : String} {aft : Array Edge} {g : Option (Nat × Bool)}
theorem bytesWorld_eq (w : World) (e : TypeId) (s : ByteArray) : Go.Lib.bytesWorld w e s = w.drew.alloc (.cells (Go.Lib.bytesCells w e s) e ((Go.Lib.bytesCells w e s).size, (Go.Lib.bytesCells w e s).size + 1)) := by
  have h : ∀ (w' : World) (c : Array Value) (e : TypeId), (w'.alloc (.cells c e)).freeze ⟨w'.heap.size, c.size, none⟩ 1 = w'.alloc (.cells c e (c.size, c.size + 1)) := by
    intro w' c e
    simp only [World.freeze, World.alloc]
    rw [if_neg (by decide)]
    congr 1
    apply Array.ext_getElem?
    intro i
    simp only [Array.getElem?_modify, Array.getElem?_push]
    by_cases hi : i = w'.heap.size
    · subst hi; simp
    · simp [hi, Ne.symm hi]
  exact h w.drew _ e
/-- The numbers of a string's bytes. -/
def nums (l : List UInt8) : List Int := l.map fun c => (c.toNat : Int)
def ofNums (l : List Int) : List UInt8 := l.map fun n => UInt8.ofNat n.toNat
theorem nums_flat (l : List UInt8) : (rowOf (encK .u8) (nums l)).flatten = l.map fun c => A.c (.lit (.int .u8 c.toNat)) := by
  induction l with
  | nil => rfl
  | cons c l ih =>
    simp only [nums, rowOf, List.map_cons, List.flatten_cons] at ih ⊢
    rw [ih]; rfl
theorem Does.strBytes {s t e : TypeId} {x : Operand} {ds : TypeDesc} {l : List UInt8} (hs : P.underlying s = some ds) (ht : P.underlying t = some (.slice e)) (he : P.underlying e = some (.int .u8)) (hx : st.ev x = some (.lit (str l))) (hl : l.length ≤ 4294967296) (hd : fits d st.n = true := by rfl) :
    Does P ⟨d, .convert s t x, ty, pos, aft, g⟩ st (· = { st with H := (st.nx, .row e 1 (rowOf (encK .u8) (nums l))) :: st.H, nx := st.nx + 1 }.set d (.one (.obj st.nx))) := by
  refine ⟨fun G M ι a w hi K Q hK => ?_⟩
  have hsz : (ByteArray.mk l.toArray).size = l.length := by simp [ByteArray.size]
  have hrun := Go.Lib.run_convert_string_bytes (P := P) w s t e (ByteArray.mk l.toArray) hs ht he
  have hex : (execOp a.eval ⟨d, .convert s t x, ty, pos, aft, g⟩).run P w = .ok (.value (.slice (some ⟨w.heap.size, 0, none⟩) l.length (grownCap w l.length 0 e))) (Go.Lib.bytesWorld w e (ByteArray.mk l.toArray)) := by
    simp only [execOp, ev_lit hi hx]
    simp [hrun, hsz]
  simp only [Oper.wp, hex, Oper.upon]
  rw [bytesWorld_eq]
  have hi' : Inv G M ι st a w.drew := hi.drew (w.drawn + 1)
  have hge := grownCap_ge w l.length 0 e
  have hcm : grownCap w l.length 0 e ≤ maxLen := grownCap_le_maxLen w l.length 0 e (by unfold maxLen; omega)
  have hcs : (Go.Lib.bytesCells w e (ByteArray.mk l.toArray)).size = grownCap w l.length 0 e := by simp [Go.Lib.bytesCells, hsz]; omega
  refine hK _ M _ _ _ rfl (hi'.laid (x := (.slice (some ⟨w.heap.size, 0, none⟩) l.length (grownCap w l.length 0 e), 1)) (ob := .row e 1 (rowOf (encK .u8) (nums l))) _ rfl rfl (fun ι' hle => ⟨l.map fun c => .int .u8 c.toNat, rfl, ⟨by simp [rowOf, nums], .inr ⟨w.heap.size, 0, _, _, by simp [rowOf, nums], ⟨_, alloc_at _ _, fun i h h2 => by omega⟩, by simpa [rowOf, nums] using hge, hcm, by rw [hcs]; omega, ?_⟩⟩, ?_, ?_, ?_⟩) hd ⟨1, by simp [iset]⟩)
  · simp [Go.Lib.bytesCells, rowOf, nums]
  · intro y hy
    simp only [rowOf, nums, List.map_map, List.mem_map] at hy
    obtain ⟨c, _, rfl⟩ := hy; rfl
  · rw [nums_flat]
    refine All2.of_get (by simp) fun i a b ha hb => ?_
    simp only [List.getElem?_map] at ha hb
    cases hc : l[i]? with
    | none => rw [hc] at ha; cases ha
    | some c => rw [hc] at ha hb; simp at ha hb; subst ha; subst hb; exact RepC.lit _
  · intro u hu
    obtain ⟨c, _, rfl⟩ := List.mem_map.1 hu; rfl
theorem push_nums : ∀ (l : List Int) (acc : List UInt8), l.foldl (fun r n => r.push (UInt8.ofNat n.toNat)) (ByteArray.mk acc.toArray) = ByteArray.mk (acc ++ ofNums l).toArray
  | [], acc => by simp [ofNums]
  | n :: l, acc => by
    simp only [List.foldl_cons]
    have : (ByteArray.mk acc.toArray).push (UInt8.ofNat n.toNat) = ByteArray.mk (acc ++ [UInt8.ofNat n.toNat]).toArray := by
      simp [ByteArray.push]
    rw [this, push_nums l]
    simp [ofNums]
theorem lits_of {M : Mem} {ι : Iota} : ∀ {l : List Int} {xs : List Value}, All2 (RepA M ι) (l.map fun n => A.c (.lit (.int .u8 n))) xs → xs = l.map (Value.int .u8)
  | [], [], _ => rfl
  | n :: l, x :: xs, h => by
    have h1 := h.1
    cases h1
    rw [lits_of h.2]; rfl
  | [], _ :: _, h => h.elim
  | _ :: _, [], h => h.elim
theorem row_flat (l : List Int) : (rowOf (encK .u8) l).flatten = l.map fun n => A.c (.lit (.int .u8 n)) := by
  induction l with
  | nil => rfl
  | cons c l ih =>
    simp only [rowOf, List.map_cons, List.flatten_cons] at ih ⊢
    rw [ih]; rfl
theorem Flo.bytesStr {s t e e' : TypeId} {x : Operand} {o : Nat} {l : List Int} (k : Nat) (hk : st.H[k]? = some (o, .row e' 1 (rowOf (encK .u8) l))) (hs : P.underlying s = some (.slice e)) (ht : P.underlying t = some .string) (he : P.underlying e = some (.int .u8)) (hx : st.ev x = some (.one (.obj o))) :
    Flo P ⟨d, .convert s t x, ty, pos, aft, g⟩ st (.lit (str (ofNums l))) := by
  intro G M ι a w hi
  refine ⟨str (ofNums l), fun w' hw => ?_, RepC.lit _⟩
  obtain ⟨sz, h⟩ := hi.ev hx
  obtain ⟨y, hy, xs, hz, ho, hsz, h2, h1⟩ := hi.core.ob _ (getElem?_mem hk)
  rw [h] at hy; cases hy
  simp only at hz; subst hz
  have ho' : Owns w' e' 1 (a.eval x) (rowOf (encK .u8) l).length xs := ho.same fun b hb => hw.2 _ (getElem?_mem hk) _ b h hb
  rw [row_flat] at h2
  have hxs := lits_of h2
  have hln : (rowOf (encK .u8) l).length = l.length := rowOf_length
  rw [hln] at ho'
  rcases ho'.2 with ⟨h3, h4⟩ | ⟨b, off, cap, cur, h3, _, _⟩
  · have hl : l = [] := List.eq_nil_of_length_eq_zero h4
    subst hl
    simp [execOp, h3, convert, run_underlying hs, run_underlying ht, run_underlying he, Conv.bytesToString, ofNums]
    rfl
  · have hld := run_loadCells (P := P) (w := w') (b := b) (k := off) (us := xs) fun j u hu => by
      have h9 := owns_cell ho' (b := b) (by rw [h3]; rfl) hu
      have h8 : offV (a.eval x) = off := by rw [h3]; rfl
      rwa [h8] at h9
    have hxl : xs.length = l.length := by rw [hxs]; simp
    rw [hxl, hxs] at hld
    have hr := run_bytesToString (P := P) w' ⟨b, off, none⟩ l.length cap l hld
    have hp := push_nums l []
    simp only [List.nil_append] at hp
    have he0 : ByteArray.empty = ByteArray.mk ([] : List UInt8).toArray := rfl
    rw [he0, hp] at hr
    simp [execOp, h3, convert, run_underlying hs, run_underlying ht, run_underlying he, hr]
end
end Go.Fl
