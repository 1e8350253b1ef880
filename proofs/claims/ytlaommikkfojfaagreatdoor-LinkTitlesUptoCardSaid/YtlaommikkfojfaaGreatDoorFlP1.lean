/- The plain programs that the walks answer to. -/
import Derived.Test.YtlaommikkfojfaaGreatDoorFlPrims
namespace Go.Fl
open Go
structure T_florref2_book where
  base : List Block
def encT_florref2_book (x : T_florref2_book) : List C := [.ro 5 false (x.base.map encB)]
set_option maxRecDepth 100000
set_option linter.unusedVariables false
def f_text_hasControl_l1 (s : Bytes) : Nat → Nat → Option (Sum Unit Unit)
  | 0, _ => none
  | fuel16 + 1, v1 => cond (decide ((v1 : Int) < (s.length : Int))) (((s[v1]?).bind fun c4 => (cond (decide ((c4.toNat : Int) < (32 : Int))) (some true) ((s[v1]?).bind fun c6 => (some (decide ((c6.toNat : Int) = (127 : Int)))))) : Option Bool).bind (fun s8 => cond s8 (some (.inr (()))) (ckI (((v1 : Int)) + 1) (f_text_hasControl_l1 s fuel16 (v1 + 1))))) (some (.inl (())))
def f_text_hasControl (s : Bytes) : Option Bool :=
  (f_text_hasControl_l1 s FUEL 0).bind (fun x11 => sumC x11 (fun s12 => some false) (fun s14 => some true))
def f_text_Check (s : Bytes) : Option Int :=
  cond (decide ((2000 : Int) < (s.length : Int))) (some 4) ((f_text_hasControl s).bind fun r2 => (cond r2 (some 9) (some 0)))
def f_prop_CheckName_l1 (s : Bytes) : Nat → Nat → Option (Sum Unit Unit)
  | 0, _ => none
  | fuel29 + 1, v10 => cond (decide ((v10 : Int) < (s.length : Int))) ((s[v10]?).bind fun c13 => ((cond (decide ((97 : Int) ≤ (c13.toNat : Int))) (cond (decide ((c13.toNat : Int) ≤ (122 : Int))) (some false) (cond (decide ((48 : Int) ≤ (c13.toNat : Int))) (cond (decide ((c13.toNat : Int) ≤ (57 : Int))) (some false) (some (!(decide ((c13.toNat : Int) = (45 : Int)))))) (some (!(decide ((c13.toNat : Int) = (45 : Int))))))) (cond (decide ((48 : Int) ≤ (c13.toNat : Int))) (cond (decide ((c13.toNat : Int) ≤ (57 : Int))) (some false) (some (!(decide ((c13.toNat : Int) = (45 : Int)))))) (some (!(decide ((c13.toNat : Int) = (45 : Int)))))) : Option Bool).bind (fun s21 => cond s21 (some (.inr (()))) (ckI (((v10 : Int)) + 1) (f_prop_CheckName_l1 s fuel29 (v10 + 1)))))) (some (.inl (())))
def f_prop_CheckName (s : Bytes) : Option Int :=
  (cond (decide (s = ([] : Bytes))) (some true) (cond (decide ((20 : Int) < (s.length : Int))) (some true) ((s[0]?).bind fun c3 => (cond (decide ((c3.toNat : Int) < (97 : Int))) (some true) ((s[0]?).bind fun c5 => (some (decide ((122 : Int) < (c5.toNat : Int)))))))) : Option Bool).bind (fun s7 => cond s7 (some 3) ((f_prop_CheckName_l1 s FUEL 0).bind (fun x24 => sumC x24 (fun s25 => some 0) (fun s27 => some 3))))
def f_prop_outside (n : Int) (low : Int) (high : Int) : Option Bool :=
  cond (decide (n < low)) (some true) (some (decide (high < n)))
def f_prop_usesForm (v : PVal) : Option Bool :=
  (cond (decide (v.kind = (1 : Int))) (some true) (cond (decide (v.kind = (2 : Int))) (some true) (cond (decide (v.kind = (4 : Int))) (some true) (some (decide (v.kind = (5 : Int)))))) : Option Bool).bind (fun s5 => (cond (decide (v.kind = (3 : Int))) (some true) (some (decide (v.kind = (6 : Int)))) : Option Bool).bind (fun s9 => cond s5 (cond (decide (v.kind = (5 : Int))) (cond s9 (cond (decide (v.kind = (7 : Int))) (some true) (some (decide ((v.items.length : Int) = (0 : Int))))) (cond (decide (v.text = ([] : Bytes))) (cond (decide (v.kind = (7 : Int))) (some true) (some (decide ((v.items.length : Int) = (0 : Int))))) (some false))) (cond (decide (v.to = (0 : Int))) (cond s9 (cond (decide (v.kind = (7 : Int))) (some true) (some (decide ((v.items.length : Int) = (0 : Int))))) (cond (decide (v.text = ([] : Bytes))) (cond (decide (v.kind = (7 : Int))) (some true) (some (decide ((v.items.length : Int) = (0 : Int))))) (some false))) (some false))) (cond (decide (v.int = (0 : Int))) (cond (decide (v.kind = (5 : Int))) (cond s9 (cond (decide (v.kind = (7 : Int))) (some true) (some (decide ((v.items.length : Int) = (0 : Int))))) (cond (decide (v.text = ([] : Bytes))) (cond (decide (v.kind = (7 : Int))) (some true) (some (decide ((v.items.length : Int) = (0 : Int))))) (some false))) (cond (decide (v.to = (0 : Int))) (cond s9 (cond (decide (v.kind = (7 : Int))) (some true) (some (decide ((v.items.length : Int) = (0 : Int))))) (cond (decide (v.text = ([] : Bytes))) (cond (decide (v.kind = (7 : Int))) (some true) (some (decide ((v.items.length : Int) = (0 : Int))))) (some false))) (some false))) (some false))))
def f_prop_checkNumbers (v : PVal) : Option Int :=
  cond (decide (v.kind = (1 : Int))) ((f_prop_outside v.int 0 1).bind fun r2 => (cond r2 (some 2) (some 0))) (cond (decide (v.kind = (2 : Int))) ((f_prop_outside v.int (-1000000000) 1000000000).bind fun r6 => (cond r6 (some 2) (some 0))) (cond (decide (v.kind = (4 : Int))) ((f_prop_outside v.int 0 100000).bind fun r10 => (cond r10 (some 2) (some 0))) (cond (decide (v.kind = (5 : Int))) (((f_prop_outside v.int 0 100000).bind fun r14 => (cond r14 (some true) ((f_prop_outside v.to 0 100000).bind fun r17 => (some r17))) : Option Bool).bind (fun s20 => cond s20 (some 2) (cond (decide (v.to < v.int)) (some 5) (some 0)))) (some 0))))
def f_prop_hasControl_1 (r : Int) : Option Bool :=
  cond (decide (r < (32 : Int))) (some true) (some (decide (r = (127 : Int))))
def f_strings_indexFunc_b3fb_l1 (s : Bytes) : Nat → Nat → Option (Sum Unit Nat)
  | 0, _ => none
  | fuel12 + 1, v1 => cond (decide (v1 < s.length)) ((f_prop_hasControl_1 ((runeAt s v1).1)).bind fun r4 => (cond (decide (r4 = true)) (some (.inr v1)) (f_strings_indexFunc_b3fb_l1 s fuel12 (v1 + (runeAt s v1).2)))) (some (.inl (())))
def f_strings_indexFunc_b3fb (s : Bytes) : Option Int :=
  (f_strings_indexFunc_b3fb_l1 s FUEL 0).bind (fun x7 => sumC x7 (fun s8 => some (-1)) (fun s10 => some ((s10 : Int))))
def f_strings_IndexFunc_bb48 (s : Bytes) : Option Int :=
  (f_strings_indexFunc_b3fb s).bind fun r1 => (some r1)
def f_strings_ContainsFunc_bb48 (s : Bytes) : Option Bool :=
  (f_strings_IndexFunc_bb48 s).bind fun r1 => (some (decide ((0 : Int) ≤ r1)))
def f_prop_hasControl (s : Bytes) : Option Bool :=
  (f_strings_ContainsFunc_bb48 s).bind fun r1 => (some r1)
def f_strings_shouldUseASCIISet (bufLen : Int) : Option Bool :=
  some (decide ((8 : Int) < bufLen))
def f_strings_makeASCIISet_6248 : Option Bool :=
  some true
def f_strings_asciiSet_contains_124d (c : Int) : Option Bool :=
  ckP (0 ≤ c) ((([false, false, false, false, false, false, false, false, false, false, false, false, false, false, false, false, false, false, false, false, false, false, false, false, false, false, false, false, false, false, false, false, false, false, false, false, false, false, false, false, false, false, false, false, false, false, false, false, false, false, false, false, false, false, false, false, false, false, false, false, false, false, false, false, false, false, false, false, false, false, false, false, false, false, false, false, false, false, false, false, false, false, false, false, false, false, false, false, false, false, false, true, false, true, false, false, false, false, false, false, false, false, false, false, false, false, false, false, false, false, false, false, false, false, false, false, false, false, false, false, false, false, false, false, true, false, false, false, false, false, false, false, false, false, false, false, false, false, false, false, false, false, false, false, false, false, false, false, false, false, false, false, false, false, false, false, false, false, false, false, false, false, false, false, false, false, false, false, false, false, false, false, false, false, false, false, false, false, false, false, false, false, false, false, false, false, false, false, false, false, false, false, false, false, false, false, false, false, false, false, false, false, false, false, false, false, false, false, false, false, false, false, false, false, false, false, false, false, false, false, false, false, false, false, false, false, false, false, false, false, false, false, false, false, false, false, false, false, false, false, false, false, false, false, false, false, false, false, false, false, false, false, false, false, false, false] : List Bool)[(c).toNat]?).bind fun x1 => (some x1))
def f_internal_stringslite_IndexByte_f3a1 (c : Int) : Option Int :=
  some (indexB ([91, 93, 124] : Bytes) c)
def f_strings_IndexByte_f3a1 (c : Int) : Option Int :=
  (f_internal_stringslite_IndexByte_f3a1 c).bind fun r1 => (some r1)
def f_unicode_utf8_ValidRune (r : Int) : Option Bool :=
  (cond (decide ((0 : Int) ≤ r)) (some (decide (r < (55296 : Int)))) (some false) : Option Bool).bind (fun s3 => cond s3 (some true) ((cond (decide ((57343 : Int) < r)) (some (decide (r ≤ (1114111 : Int)))) (some false) : Option Bool).bind (fun s8 => cond s8 (some true) (some false))))
def f_internal_stringslite_IndexByte (s : Bytes) (c : Int) : Option Int :=
  some (indexB s c)
def f_strings_IndexByte (s : Bytes) (c : Int) : Option Int :=
  (f_internal_stringslite_IndexByte s c).bind fun r1 => (some r1)
def f_strings_IndexRune_1289_l2 (r : Int) (s32 : Int) : Nat → Nat → Option Unit
  | 0, _ => none
  | fuel47 + 1, j36 => cond (decide ((j36 : Int) < ((runeStr r).length : Int))) (ckI (s32 - ((j36 : Int))) ((atL ([91, 93, 124] : Bytes) (s32 - ((j36 : Int)))).bind fun c39 => (ckI (((((runeStr r).length : Int)) - 1) - ((j36 : Int))) ((atL (runeStr r) (((((runeStr r).length : Int)) - 1) - ((j36 : Int)))).bind fun c41 => (cond (decide ((c39.toNat : Int) ≠ (c41.toNat : Int))) (none) (ckI (((j36 : Int)) + 1) (f_strings_IndexRune_1289_l2 r s32 fuel47 (j36 + 1)))))))) (some (()))
def f_strings_IndexRune_1289_l1 (r : Int) : Nat → Option (Sum Unit Int)
  | 0 => none
  | fuel53 + 1 => cond (decide ((((runeStr r).length : Int)) - 1 < (3 : Int))) (((atL ([91, 93, 124] : Bytes) ((((runeStr r).length : Int)) - 1)).bind fun c18 => ((atL (runeStr r) ((((runeStr r).length : Int)) - 1)).bind fun c20 => (cond (decide ((c18.toNat : Int) ≠ (c20.toNat : Int))) (ckI (((((runeStr r).length : Int)) - 1) + 1) ((cutL ([91, 93, 124] : Bytes) (((((runeStr r).length : Int)) - 1) + 1) ((([91, 93, 124] : Bytes).length : Int))).bind fun y23 => ((atL (runeStr r) ((((runeStr r).length : Int)) - 1)).bind fun c26 => ((f_strings_IndexByte y23 ((c26.toNat : Int))).bind fun r28 => (cond (decide (r28 < (0 : Int))) (some (.inr (()))) (ckI (r28 + 1) (ckI (((((runeStr r).length : Int)) - 1) + (r28 + 1)) (some (.inl (((((runeStr r).length : Int)) - 1) + (r28 + 1))))))))))) (some (.inl ((((runeStr r).length : Int)) - 1))))) : Option (Sum Int Unit)).bind (fun x31 => sumC x31 (fun s32 => (f_strings_IndexRune_1289_l2 r s32 FUEL 1).bind (fun s45 => ckI (s32 - ((((runeStr r).length : Int)) - 1)) (some (.inr (s32 - ((((runeStr r).length : Int)) - 1)))))) (fun s34 => some (.inr (-1))))) (some (.inl (())))
def f_strings_IndexRune_1289 (r : Int) : Option Int :=
  (cond (decide ((0 : Int) ≤ r)) (some (decide (r < (128 : Int)))) (some false) : Option Bool).bind (fun s3 => cond s3 ((f_strings_IndexByte_f3a1 (IntKind.u8.wrap r)).bind fun r6 => (some r6)) (cond (decide (r = (65533 : Int))) (some (-1)) ((f_unicode_utf8_ValidRune r).bind fun r13 => (cond (!r13) (some (-1)) (ckI ((((runeStr r).length : Int)) - 1) ((f_strings_IndexRune_1289_l1 r FUEL ).bind (fun x48 => sumC x48 (fun s49 => some (-1)) (fun s51 => some s51))))))))
def f_strings_IndexAny_1877_l1 (s : Bytes) : Nat → Nat → Option (Sum Unit Nat)
  | 0, _ => none
  | fuel19 + 1, i7 => cond (decide ((i7 : Int) < (s.length : Int))) ((s[i7]?).bind fun c10 => ((f_strings_asciiSet_contains_124d ((c10.toNat : Int))).bind fun r11 => (cond r11 (some (.inr i7)) (ckI (((i7 : Int)) + 1) (f_strings_IndexAny_1877_l1 s fuel19 (i7 + 1)))))) (some (.inl (())))
def f_strings_IndexAny_1877_l2 (s : Bytes) : Nat → Nat → Option (Sum Unit Nat)
  | 0, _ => none
  | fuel36 + 1, v25 => cond (decide (v25 < s.length)) ((f_strings_IndexRune_1289 ((runeAt s v25).1)).bind fun r28 => (cond (decide ((0 : Int) ≤ r28)) (some (.inr v25)) (f_strings_IndexAny_1877_l2 s fuel36 (v25 + (runeAt s v25).2)))) (some (.inl (())))
def f_strings_IndexAny_1877 (s : Bytes) : Option Int :=
  ((f_strings_shouldUseASCIISet ((s.length : Int))).bind fun r1 => (cond r1 ((f_strings_makeASCIISet_6248).bind fun r4 => (cond r4 ((f_strings_IndexAny_1877_l1 s FUEL 0).bind (fun x14 => sumC x14 (fun s15 => some (.inr (-1))) (fun s17 => some (.inr ((s17 : Int)))))) (some (.inl (()))))) (some (.inl (())))) : Option (Sum Unit Int)).bind (fun x20 => sumC x20 (fun s21 => (f_strings_IndexAny_1877_l2 s FUEL 0).bind (fun x31 => sumC x31 (fun s32 => some (-1)) (fun s34 => some ((s34 : Int))))) (fun s23 => some s23))
def f_strings_ContainsAny_1877 (s : Bytes) : Option Bool :=
  (f_strings_IndexAny_1877 s).bind fun r1 => (some (decide ((0 : Int) ≤ r1)))
def f_prop_checkText (v : PVal) : Option Int :=
  (cond (decide ((2000 : Int) < (v.text.length : Int))) (some true) (cond (decide (v.kind = (6 : Int))) (some (decide ((100 : Int) < (v.text.length : Int)))) (some false)) : Option Bool).bind (fun s4 => cond s4 (some 4) ((f_prop_hasControl v.text).bind fun r7 => (cond r7 (some 9) ((cond (decide (v.kind = (6 : Int))) (cond (decide (v.text = ([] : Bytes))) (some true) ((v.text[0]?).bind fun c12 => (cond (decide ((c12.toNat : Int) = (32 : Int))) (some true) (ckI (((v.text.length : Int)) - 1) ((atL v.text (((v.text.length : Int)) - 1)).bind fun c14 => (cond (decide ((c14.toNat : Int) = (32 : Int))) (some true) ((f_strings_ContainsAny_1877 v.text).bind fun r17 => (some r17)))))))) (some false) : Option Bool).bind (fun s20 => cond s20 (some 1) (some 0))))))
def f_prop_CheckValue_l1 (rec : PVal → Option Int) : List PVal → Option (Sum Unit Int)
  | [] => some (.inl (()))
  | x18 :: rest => (cond (decide (x18.kind = (0 : Int))) (some true) (some (decide (x18.kind = (7 : Int)))) : Option Bool).bind (fun s21 => cond s21 (some (.inr 10)) ((rec x18).bind fun r25 => (cond (decide (r25 ≠ (0 : Int))) (some (.inr r25)) (f_prop_CheckValue_l1 rec rest ))))
def f_prop_CheckValue : Nat → PVal → Option Int
  | 0, _ => none
  | fuelR + 1, v =>
  (f_prop_outside v.kind 0 7).bind fun r1 => (cond r1 (some 10) ((f_prop_usesForm v).bind fun r4 => (cond (!r4) (some 1) ((f_prop_checkNumbers v).bind fun r7 => (cond (decide (r7 ≠ (0 : Int))) (some r7) ((f_prop_checkText v).bind fun r10 => (cond (decide (r10 ≠ (0 : Int))) (some r10) (cond (decide ((20 : Int) < (v.items.length : Int))) (some 4) ((f_prop_CheckValue_l1 (f_prop_CheckValue fuelR) v.items ).bind (fun x28 => sumC x28 (fun s29 => some 0) (fun s31 => some s31)))))))))))
def f_prop_CheckProps_l1 (l : List PProp) : List PProp → Nat → Option (Sum Unit Int)
  | [], v4 => some (.inl (()))
  | x6 :: rest, v4 => (f_prop_CheckName x6.name).bind fun r7 => (cond (decide (r7 ≠ (0 : Int))) (some (.inr r7)) ((cond (decide ((0 : Int) < (v4 : Int))) (ckI (((v4 : Int)) - 1) ((atL l (((v4 : Int)) - 1)).bind fun x11 => (some (Op.bytesLess x6.name x11.name || decide (x6.name = x11.name))))) (some false) : Option Bool).bind (fun s14 => cond s14 (some (.inr 5)) (cond (decide (x6.value.kind = (0 : Int))) (some (.inr 10)) ((f_prop_CheckValue FUEL x6.value).bind fun r19 => (cond (decide (r19 ≠ (0 : Int))) (some (.inr r19)) (f_prop_CheckProps_l1 l rest (v4 + 1) )))))))
def f_prop_CheckProps (l : List PProp) : Option Int :=
  cond (decide ((20 : Int) < (l.length : Int))) (some 4) ((f_prop_CheckProps_l1 l l 0 ).bind (fun x22 => sumC x22 (fun s23 => some 0) (fun s25 => some s25)))
def f_tree_checkBlock (base : List Block) (i : Int) : Option Int :=
  (atL base i).bind fun x1 => ((cond (decide (i = (0 : Int))) (cond (decide (x1.id ≠ (0 : Int))) (some true) (cond (decide ((0 : Int) < i)) (cond (decide (x1.id < (1 : Int))) (some true) (some (decide ((1000000 : Int) < x1.id)))) (some false))) (cond (decide ((0 : Int) < i)) (cond (decide (x1.id < (1 : Int))) (some true) (some (decide ((1000000 : Int) < x1.id)))) (some false)) : Option Bool).bind (fun s10 => cond s10 (some 2) ((cond (decide ((0 : Int) < i)) (ckI (i - 1) ((atL base (i - 1)).bind fun x14 => (some (decide (x1.id ≤ x14.id))))) (some false) : Option Bool).bind (fun s17 => cond s17 (some 5) ((cond (decide (i = (0 : Int))) (cond (decide (x1.text ≠ ([] : Bytes))) (some true) (cond (decide ((0 : Int) < (x1.props.length : Int))) (some true) (some (decide (x1.parent ≠ (0 : Int)))))) (some false) : Option Bool).bind (fun s25 => cond s25 (some 1) ((f_text_Check x1.text).bind fun r28 => (cond (decide (r28 ≠ (0 : Int))) (some r28) (cond (decide ((500 : Int) < (x1.kids.length : Int))) (some 4) ((f_prop_CheckProps x1.props).bind fun r33 => (some r33)))))))))))
def f_tree_index_1 (b : Block) (id : Int) : Option Int :=
  some (IntKind.i64.wrap (b.id - id))
def f_slices_BinarySearchFunc_api_Block_api_Block_int_1bcc_l1 (x : List Block) (target : Int) : Nat → Int → Int → Option Int
  | 0, _, _ => none
  | fuel19 + 1, i2, j3 => cond (decide (i2 < j3)) (ckI (i2 + j3) ((atL x (IntKind.i64.wrap (shrK .u64 (IntKind.u64.wrap (i2 + j3)) (1 : Int)))).bind fun x6 => ((f_tree_index_1 x6 target).bind fun r8 => (cond (decide (r8 < (0 : Int))) (ckI ((IntKind.i64.wrap (shrK .u64 (IntKind.u64.wrap (i2 + j3)) (1 : Int))) + 1) (f_slices_BinarySearchFunc_api_Block_api_Block_int_1bcc_l1 x target fuel19 ((IntKind.i64.wrap (shrK .u64 (IntKind.u64.wrap (i2 + j3)) (1 : Int))) + 1) j3)) (f_slices_BinarySearchFunc_api_Block_api_Block_int_1bcc_l1 x target fuel19 i2 (IntKind.i64.wrap (shrK .u64 (IntKind.u64.wrap (i2 + j3)) (1 : Int)))))))) (some i2)
def f_slices_BinarySearchFunc_api_Block_api_Block_int_1bcc (x : List Block) (target : Int) : Option (Int × Bool) :=
  (f_slices_BinarySearchFunc_api_Block_api_Block_int_1bcc_l1 x target FUEL 0 ((x.length : Int))).bind (fun s12 => cond (decide (s12 < (x.length : Int))) ((atL x s12).bind fun x15 => ((f_tree_index_1 x15 target).bind fun r17 => (some ((s12, decide (r17 = (0 : Int))))))) (some ((s12, false))))
def f_tree_index (base : List Block) (id : Int) : Option Int :=
  (f_slices_BinarySearchFunc_api_Block_api_Block_int_1bcc base id).bind fun r1 => (cond (!r1.2) (some (-1)) (some r1.1))
def f_tree_checkKids_l2 (base : List Block) (x4 : Block) : List Int → (List (Int × Bool)) → Option (Sum Unit Nat)
  | [], seen8 => some (.inl (()))
  | x11 :: rest, seen8 => (f_tree_index base x11).bind fun r12 => (cond (decide (r12 < (0 : Int))) (some (.inr 7)) (((atL base r12).bind fun x15 => (cond (decide (x15.parent ≠ x4.id)) (some true) (some (decide (x11 = (0 : Int))))) : Option Bool).bind (fun s19 => cond s19 (some (.inr 1)) (cond ((mget seen8 x11).getD false) (some (.inr 6)) (ckN (seen8.length + 1) (f_tree_checkKids_l2 base x4 rest (mset seen8 x11 true)))))))
def f_tree_checkKids_l1 (base : List Block) : List Block → Option (Sum Unit Nat)
  | [] => some (.inl (()))
  | x4 :: rest => (f_tree_checkKids_l2 base x4 x4.kids (([] : List (Int × Bool)))).bind (fun x23 => sumC x23 (fun s24 => f_tree_checkKids_l1 base rest ) (fun s26 => some (.inr s26)))
def f_tree_checkKids (base : List Block) : Option Int :=
  (f_tree_checkKids_l1 base base ).bind (fun x28 => sumC x28 (fun s29 => some 0) (fun s31 => some ((s31 : Int))))
def f_tree_depths_l2 (x10 : Block) : List Int → (List (Int × Int)) → (List Int) → Option ((List (Int × Int)) × (List Int))
  | [], at_16, todo18 => some ((at_16, todo18))
  | x21 :: rest, at_16, todo18 => cond (!((mget at_16 x21).isSome)) (ckI (((mget at_16 x10.id).getD (0 : Int)) + 1) (ckN (at_16.length + 1) (ckN (todo18.length + ([x21]).length) (f_tree_depths_l2 x10 rest (mset at_16 x21 (((mget at_16 x10.id).getD (0 : Int)) + 1)) (todo18 ++ ([x21])))))) (f_tree_depths_l2 x10 rest at_16 todo18)
def f_tree_depths_l1 (base : List Block) : Nat → (List (Int × Int)) → (List Int) → Option ((List (Int × Int)))
  | 0, _, _ => none
  | fuel30 + 1, at_1, todo3 => cond (decide ((0 : Int) < (todo3.length : Int))) ((todo3[0]?).bind fun x7 => ((f_tree_index base x7).bind fun r8 => ((atL base r8).bind fun x10 => ((cutL todo3 1 ((todo3.length : Int))).bind fun y12 => ((f_tree_depths_l2 x10 x10.kids at_1 y12).bind (fun s24 => f_tree_depths_l1 base fuel30 s24.1 s24.2)))))) (some at_1)
def f_tree_depths (base : List Block) : Option ((List (Int × Int))) :=
  ckN ((([] : List (Int × Int))).length + 1) ((f_tree_depths_l1 base FUEL (mset (([] : List (Int × Int))) 0 0) ([0])).bind (fun s28 => some s28))
def f_tree_Check_l1 (base : List Block) : Nat → Nat → Option (Sum Unit Int)
  | 0, _ => none
  | fuel17 + 1, v6 => cond (decide ((v6 : Int) < (base.length : Int))) ((f_tree_checkBlock base ((v6 : Int))).bind fun r9 => (cond (decide (r9 ≠ (0 : Int))) (some (.inr r9)) (ckI (((v6 : Int)) + 1) (f_tree_Check_l1 base fuel17 (v6 + 1))))) (some (.inl (())))
def f_tree_Check_l2 (r21 : (List (Int × Int))) : List Block → Option (Sum Unit Nat)
  | [] => some (.inl (()))
  | x27 :: rest => cond (!((mget r21 x27.id).isSome)) (some (.inr 12)) (cond (decide ((40 : Int) < (mget r21 x27.id).getD (0 : Int))) (some (.inr 13)) (f_tree_Check_l2 r21 rest ))
def f_tree_Check (base : List Block) : Option Int :=
  cond (decide ((base.length : Int) = (0 : Int))) (some 1) (cond (decide ((2000 : Int) < (base.length : Int))) (some 4) ((f_tree_Check_l1 base FUEL 0).bind (fun x12 => sumC x12 (fun s13 => (f_tree_checkKids base).bind fun r18 => (cond (decide (r18 ≠ (0 : Int))) (some r18) ((f_tree_depths base).bind fun r21 => ((f_tree_Check_l2 r21 base ).bind (fun x30 => sumC x30 (fun s31 => some 0) (fun s33 => some ((s33 : Int)))))))) (fun s15 => some s15))))
def f_link_view_mark_c7f0_l1 (rec : (List Block) → (List (Int × Int)) → (List (Int × Int)) → (List (Bytes × Int)) → (List (Bytes × Int)) → Int → Int → Option ((List Block) × (List (Int × Int)) × (List (Int × Int)) × (List (Bytes × Int)) × (List (Bytes × Int)))) (page : Int) : List Int → (List Block) → (List (Int × Int)) → (List (Int × Int)) → (List (Bytes × Int)) → (List (Bytes × Int)) → Option ((List Block) × (List (Int × Int)) × (List (Int × Int)) × (List (Bytes × Int)) × (List (Bytes × Int)))
  | [], v6, v7, v8, v9, v10 => some ((v6, v7, v8, v9, v10))
  | x13 :: rest, v6, v7, v8, v9, v10 => (rec v6 v7 v8 v9 v10 x13 page).bind fun r14 => (f_link_view_mark_c7f0_l1 rec page rest r14.1 r14.2.1 r14.2.2.1 r14.2.2.2.1 r14.2.2.2.2)
def f_link_view_mark_c7f0 : Nat → (List Block) → (List (Int × Int)) → (List (Int × Int)) → (List (Bytes × Int)) → (List (Bytes × Int)) → Int → Int → Option ((List Block) × (List (Int × Int)) × (List (Int × Int)) × (List (Bytes × Int)) × (List (Bytes × Int)))
  | 0, _, _, _, _, _, _, _ => none
  | fuelR + 1, v, v2, v3, v4, v5, id, page =>
  ckN (v3.length + 1) ((atL v ((mget v2 id).getD (0 : Int))).bind fun x1 => ((f_link_view_mark_c7f0_l1 (f_link_view_mark_c7f0 fuelR) page x1.kids v v2 (mset v3 id page) v4 v5).bind (fun s17 => some ((s17.1, s17.2.1, s17.2.2.1, s17.2.2.2.1, s17.2.2.2.2)))))
def f_slices_Values_int_int (s : List Int) : Option ((List Int)) :=
  some s
def f_slices_AppendSeq_int_int_bd1b_rd1 (v : Int) : Option ((List Int)) :=
  ckN ((([] : List Int)).length + ([v]).length) (some ((([] : List Int)) ++ ([v])))
def f_slices_AppendSeq_int_int_bd1b_rd1_ef77 (v : Int) (s : List Int) : Option ((List Int)) :=
  ckN (s.length + ([v]).length) (some (s ++ ([v])))
def f_slices_Values_int_int_1_b4ef_l1 : List Int → (List Int) → Option ((List Int))
  | [], yield5 => some yield5
  | x8 :: rest, yield5 => (f_slices_AppendSeq_int_int_bd1b_rd1_ef77 x8 yield5).bind fun r9 => (f_slices_Values_int_int_1_b4ef_l1 rest r9)
def f_slices_Values_int_int_1_b4ef (p1 : List Int) : Option ((List Int) × (List Int)) :=
  (f_slices_Values_int_int_1_b4ef_l1 p1 (([] : List Int))).bind (fun s13 => some ((s13, p1)))
def f_slices_AppendSeq_int_int_bd1b (seq : List Int) : Option ((List Int) × (List Int)) :=
  (f_slices_Values_int_int_1_b4ef seq).bind fun r1 => (some ((r1.1, r1.2)))
def f_slices_Collect_int_8a7f (seq : List Int) : Option ((List Int) × (List Int)) :=
  (f_slices_AppendSeq_int_int_bd1b seq).bind fun r1 => (some ((r1.1, r1.2)))
def f_slices_Sorted_int_8a7f (seq : List Int) : Option ((List Int) × (List Int)) :=
  (f_slices_Collect_int_8a7f seq).bind fun r1 => ((sortIC r1.1).bind fun r4 => (some ((r4, r1.2))))
def f_link_lower_l1 : List Int → Nat → (List Int) → Option ((List Int))
  | [], v3, b2 => some b2
  | x5 :: rest, v3, b2 => (b2[v3]?).bind fun x6 => ((cond (decide ((65 : Int) ≤ x6)) (some (decide (x6 ≤ (90 : Int)))) (some false) : Option Bool).bind (fun s9 => cond s9 ((b2[v3]?).bind fun x12 => (f_link_lower_l1 rest (v3 + 1) (b2.set v3 (IntKind.u8.wrap ((IntKind.u8.wrap (x6 + 97)) - 65))))) (f_link_lower_l1 rest (v3 + 1) b2)))
def f_link_lower (s : Bytes) : Option Bytes :=
  ckN (s.length) ((f_link_lower_l1 (nums s) 0 (nums s)).bind (fun s14 => some (ofNums s14)))
def f_strings_Count_8e1a (s : Bytes) : Option Int :=
  some (countB s (32 : Int))
def f_internal_stringslite_IndexByte_6766 (s : Bytes) : Option Int :=
  some (indexB s (32 : Int))
def f_internal_stringslite_Index_8e1a (s : Bytes) : Option Int :=
  cond (decide (([32] : Bytes) = s)) (some 0) ((f_internal_stringslite_IndexByte_6766 s).bind fun r2 => (some r2))
def f_strings_Index_8e1a (s : Bytes) : Option Int :=
  (f_internal_stringslite_Index_8e1a s).bind fun r1 => (some r1)
def f_strings_genSplit_7a42_l1 (s : Bytes) (r1 : Int) : Nat → Bytes → (List Bytes) → Nat → Option (Bytes × (List Bytes) × Nat)
  | 0, _, _, _ => none
  | fuel26 + 1, s3, a4, i5 => cond (decide ((i5 : Int) < (if (((s.length : Int)) + 1) < (r1 + 1) then (((s.length : Int)) + 1) else (r1 + 1)) - 1)) ((f_strings_Index_8e1a s3).bind fun r8 => (cond (decide (r8 < (0 : Int))) (some ((s3, a4, i5))) (ckI (r8 + 0) ((cutL s3 0 (r8 + 0)).bind fun y11 => ((a4[i5]?).bind fun x14 => (ckI (r8 + 1) ((cutL s3 (r8 + 1) ((s3.length : Int))).bind fun y15 => (ckI (((i5 : Int)) + 1) (f_strings_genSplit_7a42_l1 s r1 fuel26 y15 (a4.set i5 y11) (i5 + 1)))))))))) (some ((s3, a4, i5)))
def f_strings_genSplit_7a42 (s : Bytes) : Option ((List Bytes)) :=
  (f_strings_Count_8e1a s).bind fun r1 => (ckI (r1 + 1) (ckI (((s.length : Int)) + 1) (ckP (0 ≤ (if (((s.length : Int)) + 1) < (r1 + 1) then (((s.length : Int)) + 1) else (r1 + 1))) (ckN ((if (((s.length : Int)) + 1) < (r1 + 1) then (((s.length : Int)) + 1) else (r1 + 1)).toNat) (ckI ((if (((s.length : Int)) + 1) < (r1 + 1) then (((s.length : Int)) + 1) else (r1 + 1)) - 1) ((f_strings_genSplit_7a42_l1 s r1 FUEL s (List.replicate ((if (((s.length : Int)) + 1) < (r1 + 1) then (((s.length : Int)) + 1) else (r1 + 1)).toNat) ([] : Bytes)) 0).bind (fun s19 => (s19.2.1[s19.2.2]?).bind fun x22 => (ckI (((s19.2.2 : Int)) + 1) ((cutL (s19.2.1.set s19.2.2 s19.1) 0 (((s19.2.2 : Int)) + 1)).bind fun y23 => (some y23))))))))))
def f_strings_Split_8e1a (s : Bytes) : Option ((List Bytes)) :=
  (f_strings_genSplit_7a42 s).bind fun r1 => (some r1)
def f_link_FoldTitle_1 (w : Bytes) : Option Bool :=
  some (decide (w = ([] : Bytes)))
def f_slices_IndexFunc_string_string_0c06_l1 (s : List Bytes) : Nat → Nat → Option (Sum Unit Nat)
  | 0, _ => none
  | fuel14 + 1, v2 => cond (decide ((v2 : Int) < (s.length : Int))) ((s[v2]?).bind fun x5 => ((f_link_FoldTitle_1 x5).bind fun r6 => (cond r6 (some (.inr v2)) (ckI (((v2 : Int)) + 1) (f_slices_IndexFunc_string_string_0c06_l1 s fuel14 (v2 + 1)))))) (some (.inl (())))
def f_slices_IndexFunc_string_string_0c06 (s : List Bytes) : Option (Int × (List Bytes)) :=
  (f_slices_IndexFunc_string_string_0c06_l1 s FUEL 0).bind (fun x9 => sumC x9 (fun s10 => some ((-1, s))) (fun s12 => some (((s12 : Int), s))))
def f_slices_DeleteFunc_string_string_0c06_l1 : Nat → (List Bytes) → Int → Int → Option ((List Bytes) × Int)
  | 0, _, _, _ => none
  | fuel23 + 1, s4, i5, j6 => cond (decide (j6 < (s4.length : Int))) (((atL s4 j6).bind fun x10 => ((f_link_FoldTitle_1 x10).bind fun r12 => (cond (!r12) ((atL s4 i5).bind fun x15 => (ckI (i5 + 1) (some ((s4.set ((i5).toNat) x10, i5 + 1))))) (some ((s4, i5))))) : Option ((List Bytes) × Int)).bind (fun s18 => ckI (j6 + 1) (f_slices_DeleteFunc_string_string_0c06_l1 fuel23 s18.1 s18.2 (j6 + 1)))) (some ((s4, i5)))
def f_slices_DeleteFunc_string_string_0c06 (s : List Bytes) : Option (Sum ((List Bytes)) ((List Bytes))) :=
  (f_slices_IndexFunc_string_string_0c06 s).bind fun r1 => (cond (decide (r1.1 = (-1 : Int))) (some ((.inl r1.2))) (ckI (r1.1 + 1) ((f_slices_DeleteFunc_string_string_0c06_l1 FUEL r1.2 r1.1 (r1.1 + 1)).bind (fun s21 => ckP (0 ≤ s21.2 ∧ s21.2 ≤ (s21.1.length : Int)) (ckP (((s21.2).toNat) + (s21.1.length - ((s21.2).toNat)) ≤ s21.1.length) ((cutL (s21.1.take ((s21.2).toNat) ++ List.replicate (s21.1.length - ((s21.2).toNat)) ([] : Bytes) ++ s21.1.drop (((s21.2).toNat) + (s21.1.length - ((s21.2).toNat)))) 0 s21.2).bind fun y24 => (some ((.inr y24)))))))))
def f_link_FoldTitle (s : Bytes) : Option Bytes :=
  (f_link_lower s).bind fun r1 => ((f_strings_Split_8e1a r1).bind fun r3 => ((f_slices_DeleteFunc_string_string_0c06 r3).bind (fun r6 => sumC r6 (fun r6_c0 => (joinC r6_c0 ([32] : Bytes)).bind fun r8 => (some r8)) (fun r6_c1 => (joinC r6_c1 ([32] : Bytes)).bind fun r12 => (some r12)))))
def f_link_keep_65f5 (m : List (Bytes × Int)) (name : Bytes) (page : Int) : Option ((List (Bytes × Int))) :=
  cond (!((mget m name).isSome)) (ckN (m.length + 1) (some (mset m name page))) (some m)
def f_link_aliasesOf_l2 : List PVal → (List Bytes) → Option ((List Bytes))
  | [], l10 => some l10
  | x13 :: rest, l10 => cond (decide (x13.kind = (3 : Int))) (ckN (l10.length + ([x13.text]).length) (f_link_aliasesOf_l2 rest (l10 ++ ([x13.text])))) (f_link_aliasesOf_l2 rest l10)
def f_link_aliasesOf_l1 : List PProp → (List Bytes) → Option ((List Bytes))
  | [], l3 => some l3
  | x6 :: rest, l3 => cond (decide (x6.name ≠ ([97, 108, 105, 97, 115] : Bytes))) (f_link_aliasesOf_l1 rest l3) (ckN (([x6.value]).length + x6.value.items.length) ((f_link_aliasesOf_l2 (([x6.value]) ++ x6.value.items) l3).bind (fun s16 => f_link_aliasesOf_l1 rest s16)))
def f_link_aliasesOf (b : Block) : Option ((List Bytes)) :=
  (f_link_aliasesOf_l1 b.props (([] : List Bytes))).bind (fun s20 => some s20)
def f_link_look_l1 : List Block → Nat → (List (Int × Int)) → Option ((List (Int × Int)))
  | [], v6, v5 => some v5
  | x8 :: rest, v6, v5 => ckN (v5.length + 1) (f_link_look_l1 rest (v6 + 1) (mset v5 x8.id ((v6 : Int))))
def f_link_look_l2 : List Int → (List Block) → (List (Int × Int)) → (List (Int × Int)) → (List (Bytes × Int)) → (List (Bytes × Int)) → Option ((List Block) × (List (Int × Int)) × (List (Int × Int)) × (List (Bytes × Int)) × (List (Bytes × Int)))
  | [], v19, v20, v21, v22, v23 => some ((v19, v20, v21, v22, v23))
  | x26 :: rest, v19, v20, v21, v22, v23 => (f_link_view_mark_c7f0 FUEL v19 v20 v21 v22 v23 x26 x26).bind fun r27 => (f_link_look_l2 rest r27.1 r27.2.1 r27.2.2.1 r27.2.2.2.1 r27.2.2.2.2)
def f_link_look_l4 (x45 : Int) : List Bytes → (List (Bytes × Int)) → Option ((List (Bytes × Int)))
  | [], v55 => some v55
  | x58 :: rest, v55 => (f_link_FoldTitle x58).bind fun r59 => ((f_link_keep_65f5 v55 r59 x45).bind fun r61 => (f_link_look_l4 x45 rest r61))
def f_link_look_l3 (base : List Block) (s30 : (List Block) × (List (Int × Int)) × (List (Int × Int)) × (List (Bytes × Int)) × (List (Bytes × Int))) : List Int → (List (Bytes × Int)) → (List (Bytes × Int)) → Option ((List (Bytes × Int)) × (List (Bytes × Int)))
  | [], v40, v41 => some ((v40, v41))
  | x45 :: rest, v40, v41 => (atL base ((mget s30.2.1 x45).getD (0 : Int))).bind fun x46 => ((f_link_FoldTitle x46.text).bind fun r48 => ((f_link_keep_65f5 v40 r48 x45).bind fun r50 => ((f_link_aliasesOf x46).bind fun r52 => ((f_link_look_l4 x45 r52 v41).bind (fun s64 => f_link_look_l3 base s30 rest r50 s64)))))
def f_link_look (base : List Block) : Option (Sum Int ((List Block) × (List (Int × Int)) × (List (Int × Int)) × (List (Bytes × Int)) × (List (Bytes × Int)) × Int)) :=
  (f_tree_Check base).bind fun r1 => (cond (decide (r1 ≠ (0 : Int))) (some ((.inl r1))) ((f_link_look_l1 base 0 (([] : List (Int × Int)))).bind (fun s10 => (base[0]?).bind fun x17 => ((f_link_look_l2 x17.kids base s10 (([] : List (Int × Int))) (([] : List (Bytes × Int))) (([] : List (Bytes × Int)))).bind (fun s30 => (base[0]?).bind fun x32 => ((f_slices_Values_int_int x32.kids).bind fun r33 => ((f_slices_Sorted_int_8a7f r33).bind fun r36 => ((f_link_look_l3 base s30 r36.1 s30.2.2.2.1 s30.2.2.2.2).bind (fun s67 => some ((.inr ((s30.1, s30.2.1, s30.2.2.1, s67.1, s67.2, 0)))))))))))))
def f_link_view_lead_5076 (v : List Block) (v2 : List (Int × Int)) (v3 : List (Int × Int)) (v4 : List (Bytes × Int)) (v5 : List (Bytes × Int)) (title : Bytes) : Option (Int × (List Block) × (List (Int × Int)) × (List (Int × Int)) × (List (Bytes × Int)) × (List (Bytes × Int))) :=
  (f_link_FoldTitle title).bind fun r1 => (cond ((mget v4 r1).isSome) (some (((mget v4 r1).getD (0 : Int), v, v2, v3, v4, v5))) (some (((mget v5 r1).getD (0 : Int), v, v2, v3, v4, v5))))
def f_link_Page (base : List Block) (title : Bytes) : Option (Int × Int) :=
  (f_link_look base).bind (fun r1 => sumC r1 (fun r1_c0 => cond (decide (r1_c0 ≠ (0 : Int))) (some ((0, r1_c0))) (none)) (fun r1_c1 => cond (decide (r1_c1.2.2.2.2.2 ≠ (0 : Int))) (some ((0, r1_c1.2.2.2.2.2))) ((f_link_view_lead_5076 r1_c1.1 r1_c1.2.1 r1_c1.2.2.1 r1_c1.2.2.2.1 r1_c1.2.2.2.2.1 title).bind fun r11 => (cond (decide (r11.1 = (0 : Int))) (some ((0, 7))) (some ((r11.1, 0)))))))
def f_florref1_below_l1 (s : Bytes) : Nat → Nat → Option (Sum Unit Unit)
  | 0, _ => none
  | fuel16 + 1, i1 => cond (decide ((i1 : Int) < (s.length : Int))) (((s[i1]?).bind fun c4 => (cond (decide ((c4.toNat : Int) < (32 : Int))) (some true) ((s[i1]?).bind fun c6 => (some (decide ((c6.toNat : Int) = (127 : Int)))))) : Option Bool).bind (fun s8 => cond s8 (some (.inr (()))) (ckI (((i1 : Int)) + 1) (f_florref1_below_l1 s fuel16 (i1 + 1))))) (some (.inl (())))
def f_florref1_below (s : Bytes) : Option Bool :=
  (f_florref1_below_l1 s FUEL 0).bind (fun x11 => sumC x11 (fun s12 => some false) (fun s14 => some true))
def f_florref1_TextError (s : Bytes) : Option Int :=
  cond (decide ((2000 : Int) < (s.length : Int))) (some 4) ((f_florref1_below s).bind fun r2 => (cond r2 (some 9) (some 0)))
def f_florref1_inRange (n : Int) (low : Int) (high : Int) : Option Bool :=
  cond (decide (low ≤ n)) (some (decide (n ≤ high))) (some false)
def f_florref1_at_l1 (id : Int) : List Block → Nat → Option (Sum Unit Nat)
  | [], v2 => some (.inl (()))
  | x4 :: rest, v2 => cond (decide (x4.id = id)) (some (.inr v2)) (f_florref1_at_l1 id rest (v2 + 1) )
def f_florref1_at (base : List Block) (id : Int) : Option Int :=
  (f_florref1_at_l1 id base 0 ).bind (fun x6 => sumC x6 (fun s7 => some (-1)) (fun s9 => some ((s9 : Int))))
def f_florref1_reach_2c97_l1 (rec : (List Block) → Int → Int → (List Int) → Option ((List Int))) (base : List Block) (d : Int) : List Int → (List Int) → Option ((List Int))
  | [], depth4 => some depth4
  | x7 :: rest, depth4 => (f_florref1_at base x7).bind fun r8 => ((atL depth4 r8).bind fun x10 => (cond (decide (x10 = (0 : Int))) (ckI (d + 1) ((atL depth4 r8).bind fun x13 => (ckI (d + 1) ((rec base r8 (d + 1) (depth4.set ((r8).toNat) (d + 1))).bind fun r15 => (f_florref1_reach_2c97_l1 rec base d rest r15))))) (f_florref1_reach_2c97_l1 rec base d rest depth4)))
def f_florref1_reach_2c97 : Nat → (List Block) → Int → Int → (List Int) → Option ((List Int))
  | 0, _, _, _, _ => none
  | fuelR + 1, base, i, d, depth =>
  (atL base i).bind fun x1 => ((f_florref1_reach_2c97_l1 (f_florref1_reach_2c97 fuelR) base d x1.kids depth).bind (fun s18 => some s18))
def f_florref1_BaseError_l1 (base : List Block) : List Block → Nat → Option (Sum Unit Int)
  | [], v6 => some (.inl (()))
  | x8 :: rest, v6 => (cond (decide ((v6 : Int) = (0 : Int))) (cond (decide (x8.id ≠ (0 : Int))) (some true) (cond (decide ((0 : Int) < (v6 : Int))) ((f_florref1_inRange x8.id 1 1000000).bind fun r12 => (some (!r12))) (some false))) (cond (decide ((0 : Int) < (v6 : Int))) ((f_florref1_inRange x8.id 1 1000000).bind fun r15 => (some (!r15))) (some false)) : Option Bool).bind (fun s18 => cond s18 (some (.inr 2)) ((cond (decide ((0 : Int) < (v6 : Int))) (ckI (((v6 : Int)) - 1) ((atL base (((v6 : Int)) - 1)).bind fun x23 => (some (decide (x8.id ≤ x23.id))))) (some false) : Option Bool).bind (fun s26 => cond s26 (some (.inr 5)) ((cond (decide ((v6 : Int) = (0 : Int))) (cond (decide (x8.text ≠ ([] : Bytes))) (some true) (cond (decide ((0 : Int) < (x8.props.length : Int))) (some true) (some (decide (x8.parent ≠ (0 : Int)))))) (some false) : Option Bool).bind (fun s34 => cond s34 (some (.inr 1)) ((f_florref1_TextError x8.text).bind fun r37 => (cond (decide (r37 ≠ (0 : Int))) (some (.inr r37)) (cond (decide ((500 : Int) < (x8.kids.length : Int))) (some (.inr 4)) ((f_prop_CheckProps x8.props).bind fun r42 => (cond (decide (r42 ≠ (0 : Int))) (some (.inr r42)) (f_florref1_BaseError_l1 base rest (v6 + 1) )))))))))))
def f_florref1_BaseError_l4 (x58 : Int) : List Int → Option (Sum Unit Unit)
  | [] => some (.inl (()))
  | x75 :: rest => cond (decide (x75 = x58)) (some (.inr (()))) (f_florref1_BaseError_l4 x58 rest )
def f_florref1_BaseError_l3 (base : List Block) (x53 : Block) : List Int → Nat → Option (Sum Unit Nat)
  | [], v56 => some (.inl (()))
  | x58 :: rest, v56 => (f_florref1_at base x58).bind fun r59 => (cond (decide (r59 < (0 : Int))) (some (.inr 7)) (((atL base r59).bind fun x62 => (cond (decide (x62.parent ≠ x53.id)) (some true) (some (decide (r59 = (0 : Int))))) : Option Bool).bind (fun s66 => cond s66 (some (.inr 1)) ((cutL x53.kids 0 ((v56 : Int))).bind fun y69 => ((f_florref1_BaseError_l4 x58 y69 ).bind (fun x77 => sumC x77 (fun s78 => f_florref1_BaseError_l3 base x53 rest (v56 + 1) ) (fun s80 => some (.inr 6))))))))
def f_florref1_BaseError_l2 (base : List Block) : List Block → Option (Sum Unit Nat)
  | [] => some (.inl (()))
  | x53 :: rest => (f_florref1_BaseError_l3 base x53 x53.kids 0 ).bind (fun x82 => sumC x82 (fun s83 => f_florref1_BaseError_l2 base rest ) (fun s85 => some (.inr s85)))
def f_florref1_BaseError_l5 (base : List Block) (r93 : (List Int)) : Nat → Nat → Option (Sum Unit Nat)
  | 0, _ => none
  | fuel109 + 1, v96 => cond (decide ((v96 : Int) < (base.length : Int))) (cond (decide ((v96 : Int) = (0 : Int))) (ckI (((v96 : Int)) + 1) (f_florref1_BaseError_l5 base r93 fuel109 (v96 + 1))) ((r93[v96]?).bind fun x100 => (cond (decide (x100 = (0 : Int))) (some (.inr 12)) ((r93[v96]?).bind fun x102 => (cond (decide ((40 : Int) < x102)) (some (.inr 13)) (ckI (((v96 : Int)) + 1) (f_florref1_BaseError_l5 base r93 fuel109 (v96 + 1)))))))) (some (.inl (())))
def f_florref1_BaseError (base : List Block) : Option Int :=
  cond (decide ((base.length : Int) = (0 : Int))) (some 1) (cond (decide ((2000 : Int) < (base.length : Int))) (some 4) ((f_florref1_BaseError_l1 base base 0 ).bind (fun x45 => sumC x45 (fun s46 => (f_florref1_BaseError_l2 base base ).bind (fun x87 => sumC x87 (fun s88 => ckN base.length ((f_florref1_reach_2c97 FUEL base 0 0 (List.replicate base.length ((0 : Int)))).bind fun r93 => ((f_florref1_BaseError_l5 base r93 FUEL 0).bind (fun x104 => sumC x104 (fun s105 => some 0) (fun s107 => some ((s107 : Int))))))) (fun s90 => some ((s90 : Int))))) (fun s48 => some s48))))
def f_florref2_open (base : List Block) : Option (T_florref2_book × Int) :=
  (f_florref1_BaseError base).bind fun r1 => (some (((⟨base⟩ : T_florref2_book), r1)))
def f_florref2_FoldOfTitle_1 (w : Bytes) : Option Bool :=
  some (decide (w = ([] : Bytes)))
def f_slices_IndexFunc_string_string_582f_l1 (s : List Bytes) : Nat → Nat → Option (Sum Unit Nat)
  | 0, _ => none
  | fuel14 + 1, v2 => cond (decide ((v2 : Int) < (s.length : Int))) ((s[v2]?).bind fun x5 => ((f_florref2_FoldOfTitle_1 x5).bind fun r6 => (cond r6 (some (.inr v2)) (ckI (((v2 : Int)) + 1) (f_slices_IndexFunc_string_string_582f_l1 s fuel14 (v2 + 1)))))) (some (.inl (())))
def f_slices_IndexFunc_string_string_582f (s : List Bytes) : Option (Int × (List Bytes)) :=
  (f_slices_IndexFunc_string_string_582f_l1 s FUEL 0).bind (fun x9 => sumC x9 (fun s10 => some ((-1, s))) (fun s12 => some (((s12 : Int), s))))
def f_slices_DeleteFunc_string_string_582f_l1 : Nat → (List Bytes) → Int → Int → Option ((List Bytes) × Int)
  | 0, _, _, _ => none
  | fuel23 + 1, s4, i5, j6 => cond (decide (j6 < (s4.length : Int))) (((atL s4 j6).bind fun x10 => ((f_florref2_FoldOfTitle_1 x10).bind fun r12 => (cond (!r12) ((atL s4 i5).bind fun x15 => (ckI (i5 + 1) (some ((s4.set ((i5).toNat) x10, i5 + 1))))) (some ((s4, i5))))) : Option ((List Bytes) × Int)).bind (fun s18 => ckI (j6 + 1) (f_slices_DeleteFunc_string_string_582f_l1 fuel23 s18.1 s18.2 (j6 + 1)))) (some ((s4, i5)))
def f_slices_DeleteFunc_string_string_582f (s : List Bytes) : Option (Sum ((List Bytes)) ((List Bytes))) :=
  (f_slices_IndexFunc_string_string_582f s).bind fun r1 => (cond (decide (r1.1 = (-1 : Int))) (some ((.inl r1.2))) (ckI (r1.1 + 1) ((f_slices_DeleteFunc_string_string_582f_l1 FUEL r1.2 r1.1 (r1.1 + 1)).bind (fun s21 => ckP (0 ≤ s21.2 ∧ s21.2 ≤ (s21.1.length : Int)) (ckP (((s21.2).toNat) + (s21.1.length - ((s21.2).toNat)) ≤ s21.1.length) ((cutL (s21.1.take ((s21.2).toNat) ++ List.replicate (s21.1.length - ((s21.2).toNat)) ([] : Bytes) ++ s21.1.drop (((s21.2).toNat) + (s21.1.length - ((s21.2).toNat)))) 0 s21.2).bind fun y24 => (some ((.inr y24)))))))))
def f_florref2_bytesSmall_l1 : List Int → Nat → (List Int) → Option ((List Int))
  | [], v3, b2 => some b2
  | x5 :: rest, v3, b2 => (b2[v3]?).bind fun x6 => ((cond (decide ((65 : Int) ≤ x6)) (some (decide (x6 ≤ (90 : Int)))) (some false) : Option Bool).bind (fun s9 => cond s9 ((b2[v3]?).bind fun x12 => (f_florref2_bytesSmall_l1 rest (v3 + 1) (b2.set v3 (IntKind.u8.wrap (x6 + 32))))) (f_florref2_bytesSmall_l1 rest (v3 + 1) b2)))
def f_florref2_bytesSmall (s : Bytes) : Option Bytes :=
  ckN (s.length) ((f_florref2_bytesSmall_l1 (nums s) 0 (nums s)).bind (fun s14 => some (ofNums s14)))
def f_florref2_small (s : Bytes) : Option Bytes :=
  (f_florref2_bytesSmall s).bind fun r1 => (some r1)
def f_florref2_FoldOfTitle (s : Bytes) : Option Bytes :=
  (f_strings_Split_8e1a s).bind fun r1 => ((f_slices_DeleteFunc_string_string_582f r1).bind (fun r4 => sumC r4 (fun r4_c0 => (joinC r4_c0 ([32] : Bytes)).bind fun r6 => ((f_florref2_small r6).bind fun r8 => (some r8))) (fun r4_c1 => (joinC r4_c1 ([32] : Bytes)).bind fun r12 => ((f_florref2_small r12).bind fun r14 => (some r14)))))
def f_florref2_book_pages (b : T_florref2_book) : Option ((List Int)) :=
  (b.base[0]?).bind fun x1 => (some x1.kids)
def f_slices_Clone_int_int (s : List Int) : Option ((List Int)) :=
  ckN ((([] : List Int)).length + s.length) (some ((([] : List Int)) ++ s))
def f_florref2_book_sorted (b : T_florref2_book) : Option ((List Int)) :=
  (f_florref2_book_pages b).bind fun r1 => ((f_slices_Clone_int_int r1).bind fun r3 => ((sortIC r3).bind fun r6 => (some r6)))
def f_florref2_book_block_l1 (id : Int) (b : T_florref2_book) : Nat → Nat → Option (Sum Unit (Int × Int × (List Int) × Bytes × (List PProp)))
  | 0, _ => none
  | fuel13 + 1, v2 => cond (decide ((v2 : Int) < (b.base.length : Int))) ((b.base[v2]?).bind fun x5 => (cond (decide (x5.id = id)) ((b.base[v2]?).bind fun x7 => (some (.inr ((x7.id, x7.parent, x7.kids, x7.text, x7.props))))) (ckI (((v2 : Int)) + 1) (f_florref2_book_block_l1 id b fuel13 (v2 + 1))))) (some (.inl (())))
def f_florref2_book_block (b : T_florref2_book) (id : Int) : Option (Sum Unit (Int × Int × (List Int) × Bytes × (List PProp))) :=
  (f_florref2_book_block_l1 id b FUEL 0).bind (fun x8 => sumC x8 (fun s9 => some ((.inl (())))) (fun s11 => some ((.inr ((s11.1, s11.2.1, s11.2.2.1, s11.2.2.2.1, s11.2.2.2.2))))))
def f_florref2_GetOf_l1 (name : Bytes) : List PProp → Option (Sum Unit (Int × Int × Int × Bytes × (List PVal)))
  | [] => some (.inl (()))
  | x4 :: rest => cond (decide (x4.name = name)) (some (.inr ((x4.value.kind, x4.value.int, x4.value.to, x4.value.text, x4.value.items)))) (f_florref2_GetOf_l1 name rest )
def f_florref2_GetOf (l : List PProp) (name : Bytes) : Option (Sum (Int × Int × Int × Bytes × Bool) (PVal × Bool)) :=
  (f_florref2_GetOf_l1 name l ).bind (fun x6 => sumC x6 (fun s7 => some ((.inl ((0, 0, 0, ([] : Bytes), false))))) (fun s9 => some ((.inr (((⟨s9.1, s9.2.1, s9.2.2.1, s9.2.2.2.1, s9.2.2.2.2⟩ : PVal), true))))))
def f_florref2_book_aliases_l1 : Nat → Option Unit
  | 0 => none
  | fuel12 + 1 => some (())
def f_florref2_book_aliases_l2 : List PVal → (List Bytes) → Option ((List Bytes))
  | [], out20 => some out20
  | x23 :: rest, out20 => cond (decide (x23.kind = (3 : Int))) (ckN (out20.length + ([x23.text]).length) (f_florref2_book_aliases_l2 rest (out20 ++ ([x23.text])))) (f_florref2_book_aliases_l2 rest out20)
def f_florref2_book_aliases (b : T_florref2_book) (page : Int) : Option ((List Bytes)) :=
  (f_florref2_book_block b page).bind (fun r1 => sumC r1 (fun r1_c0 => none) (fun r1_c1 => (f_florref2_GetOf r1_c1.2.2.2.2 ([97, 108, 105, 97, 115] : Bytes)).bind (fun r4 => sumC r4 (fun r4_c0 => cond (decide (r4_c0.1 = (3 : Int))) (none) ((f_florref2_book_aliases_l1 FUEL ).bind (fun s10 => some ([])))) (fun r4_c1 => (cond (decide (r4_c1.1.kind = (3 : Int))) (some ([r4_c1.1])) (some r4_c1.1.items) : Option ((List PVal))).bind (fun s16 => (f_florref2_book_aliases_l2 s16 (([] : List Bytes))).bind (fun s26 => some s26))))))
def f_florref2_book_page_1_555a (a : Bytes) (p1 : Bytes) : Option (Bool × Bytes) :=
  (f_florref2_FoldOfTitle a).bind fun r1 => (some ((decide (r1 = p1), p1)))
def f_slices_IndexFunc_string_string_11cd_l1 (s : List Bytes) : Nat → Bytes → Nat → Option (Sum Bytes (Nat × Bytes))
  | 0, _, _ => none
  | fuel15 + 1, v2, v3 => cond (decide ((v3 : Int) < (s.length : Int))) ((s[v3]?).bind fun x6 => ((f_florref2_book_page_1_555a x6 v2).bind fun r7 => (cond r7.1 (some (.inr ((v3, r7.2)))) (ckI (((v3 : Int)) + 1) (f_slices_IndexFunc_string_string_11cd_l1 s fuel15 r7.2 (v3 + 1)))))) (some (.inl v2))
def f_slices_IndexFunc_string_string_11cd (s : List Bytes) (f : Bytes) : Option (Int × Bytes) :=
  (f_slices_IndexFunc_string_string_11cd_l1 s FUEL f 0).bind (fun x10 => sumC x10 (fun s11 => some ((-1, s11))) (fun s13 => some (((s13.1 : Int), s13.2))))
def f_slices_ContainsFunc_string_string_11cd (s : List Bytes) (f : Bytes) : Option (Bool × Bytes) :=
  (f_slices_IndexFunc_string_string_11cd s f).bind fun r1 => (some ((decide ((0 : Int) ≤ r1.1), r1.2)))
def f_florref2_book_page_l1 (b : T_florref2_book) (r1 : Bytes) : List Int → Option (Sum Unit Int)
  | [] => some (.inl (()))
  | x8 :: rest => (f_florref2_book_block b x8).bind (fun r9 => sumC r9 (fun r9_c0 => none) (fun r9_c1 => (f_florref2_FoldOfTitle r9_c1.2.2.2.1).bind fun r12 => (cond (decide (r12 = r1)) (some (.inr x8)) (f_florref2_book_page_l1 b r1 rest ))))
def f_florref2_book_page_l2 (b : T_florref2_book) : List Int → Bytes → Option (Sum Unit Int)
  | [], v24 => some (.inl (()))
  | x27 :: rest, v24 => (f_florref2_book_aliases b x27).bind fun r28 => ((f_slices_ContainsFunc_string_string_11cd r28 v24).bind fun r30 => (cond r30.1 (some (.inr x27)) (f_florref2_book_page_l2 b rest r30.2)))
def f_florref2_book_page (b : T_florref2_book) (title : Bytes) : Option Int :=
  (f_florref2_FoldOfTitle title).bind fun r1 => ((f_florref2_book_sorted b).bind fun r3 => ((f_florref2_book_page_l1 b r1 r3 ).bind (fun x15 => sumC x15 (fun s16 => (f_florref2_book_sorted b).bind fun r21 => ((f_florref2_book_page_l2 b r21 r1).bind (fun x33 => sumC x33 (fun s34 => some 0) (fun s36 => some s36)))) (fun s19 => some s19))))
def f_florref2_PageFor (base : List Block) (title : Bytes) : Option (Int × Int) :=
  (f_florref2_open base).bind fun r1 => (cond (decide (r1.2 ≠ (0 : Int))) (some ((0, r1.2))) ((f_florref2_book_page r1.1 title).bind fun r4 => (cond (decide ((0 : Int) < r4)) (some ((r4, 0))) (some ((0, 7))))))
def f_link_view_isPage (id : Int) : Option Bool :=
  cond (decide (id ≠ (0 : Int))) (none) (some false)
def f_link_view_isPage_42fa (v : List Block) (v2 : List (Int × Int)) (v3 : List (Int × Int)) (v4 : List (Bytes × Int)) (v5 : List (Bytes × Int)) (id : Int) : Option (Bool × (List Block) × (List (Int × Int)) × (List (Int × Int)) × (List (Bytes × Int)) × (List (Bytes × Int))) :=
  cond (decide (id ≠ (0 : Int))) (some ((decide ((mget v3 id).getD (0 : Int) = id), v, v2, v3, v4, v5))) (some ((false, v, v2, v3, v4, v5)))
def f_link_lookAt_2dde_l1 : List Int → Option (Sum Unit Unit)
  | [] => some (.inl (()))
  | x7 :: rest => (f_link_view_isPage x7).bind fun r8 => (cond (!r8) (some (.inr (()))) (f_link_lookAt_2dde_l1 rest ))
def f_link_lookAt_2dde_l2 : List Int → (List Block) → (List (Int × Int)) → (List (Int × Int)) → (List (Bytes × Int)) → (List (Bytes × Int)) → Option (Sum ((List Block) × (List (Int × Int)) × (List (Int × Int)) × (List (Bytes × Int)) × (List (Bytes × Int))) Unit)
  | [], v24, v25, v26, v27, v28 => some (.inl ((v24, v25, v26, v27, v28)))
  | x31 :: rest, v24, v25, v26, v27, v28 => (f_link_view_isPage_42fa v24 v25 v26 v27 v28 x31).bind fun r32 => (cond (!r32.1) (some (.inr (()))) (f_link_lookAt_2dde_l2 rest r32.2.1 r32.2.2.1 r32.2.2.2.1 r32.2.2.2.2.1 r32.2.2.2.2.2))
def f_link_lookAt_2dde (base : List Block) (pages : List Int) : Option (Sum (Int × (List Int)) ((List Block) × (List (Int × Int)) × (List (Int × Int)) × (List (Bytes × Int)) × (List (Bytes × Int)) × Int × (List Int))) :=
  (f_link_look base).bind (fun r1 => sumC r1 (fun r1_c0 => cond (decide (r1_c0 ≠ (0 : Int))) (some ((.inl ((r1_c0, pages))))) ((f_link_lookAt_2dde_l1 pages ).bind (fun x11 => sumC x11 (fun s12 => some ((.inl ((0, pages))))) (fun s14 => some ((.inl ((7, pages)))))))) (fun r1_c1 => cond (decide (r1_c1.2.2.2.2.2 ≠ (0 : Int))) (some ((.inl ((r1_c1.2.2.2.2.2, pages))))) ((f_link_lookAt_2dde_l2 pages r1_c1.1 r1_c1.2.1 r1_c1.2.2.1 r1_c1.2.2.2.1 r1_c1.2.2.2.2.1).bind (fun x35 => sumC x35 (fun s36 => some ((.inr ((s36.1, s36.2.1, s36.2.2.1, s36.2.2.2.1, s36.2.2.2.2, 0, pages))))) (fun s43 => some ((.inl ((7, pages)))))))))
def f_link_view_block_42fa (v : List Block) (v2 : List (Int × Int)) (v3 : List (Int × Int)) (v4 : List (Bytes × Int)) (v5 : List (Bytes × Int)) (id : Int) : Option (Block × (List Block) × (List (Int × Int)) × (List (Int × Int)) × (List (Bytes × Int)) × (List (Bytes × Int))) :=
  (atL v ((mget v2 id).getD (0 : Int))).bind fun x1 => (some ((x1, v, v2, v3, v4, v5)))
def f_slices_Clip_string_string_77a5 (s : List Bytes) : Option ((List Bytes)) :=
  (cutL s 0 ((s.length : Int))).bind fun y3 => (some y3)
def f_link_view_names_42fa_l1 : List Bytes → (List Bytes) → (List (Bytes × Bool)) → Option ((List Bytes))
  | [], l1007, seen1008 => some l1007
  | x1011 :: rest, l1007, seen1008 => (f_link_FoldTitle x1011).bind fun r1012 => (cond (!((mget seen1008 r1012).getD false)) (ckN (seen1008.length + 1) (ckN (l1007.length + ([x1011]).length) (f_link_view_names_42fa_l1 rest (l1007 ++ ([x1011])) (mset seen1008 r1012 true)))) (f_link_view_names_42fa_l1 rest l1007 seen1008))
def f_link_view_names_42fa (v : List Block) (v2 : List (Int × Int)) (v3 : List (Int × Int)) (v4 : List (Bytes × Int)) (v5 : List (Bytes × Int)) (page : Int) : Option ((List Bytes) × (List Block) × (List (Int × Int)) × (List (Int × Int)) × (List (Bytes × Int)) × (List (Bytes × Int))) :=
  (f_link_view_block_42fa v v2 v3 v4 v5 page).bind fun r1 => ((f_link_aliasesOf r1.1).bind fun r503 => (ckN (([r1.1.text]).length + r503.length) ((f_link_view_names_42fa_l1 (([r1.1.text]) ++ r503) (([] : List Bytes)) (([] : List (Bytes × Bool)))).bind (fun s1016 => (f_slices_Clip_string_string_77a5 s1016).bind fun r1019 => (some ((r1019, r1.2.1, r1.2.2.1, r1.2.2.2.1, r1.2.2.2.2.1, r1.2.2.2.2.2)))))))
def f_link_Names (base : List Block) (page : Int) : Option ((List Bytes) × Int) :=
  (f_link_lookAt_2dde base ([page])).bind (fun r1 => sumC r1 (fun r1_c0 => cond (decide (r1_c0.1 ≠ (0 : Int))) (some (([], r1_c0.1))) (none)) (fun r1_c1 => cond (decide (r1_c1.2.2.2.2.2.1 ≠ (0 : Int))) (some (([], r1_c1.2.2.2.2.2.1))) ((f_link_view_names_42fa r1_c1.1 r1_c1.2.1 r1_c1.2.2.1 r1_c1.2.2.2.1 r1_c1.2.2.2.2.1 page).bind fun r11 => (some ((r11.1, 0))))))
def f_slices_Index_int_int_l1 (s : List Int) (v : Int) : Nat → Nat → Option (Sum Unit Nat)
  | 0, _ => none
  | fuel12 + 1, v2 => cond (decide ((v2 : Int) < (s.length : Int))) ((s[v2]?).bind fun x5 => (cond (decide (v = x5)) (some (.inr v2)) (ckI (((v2 : Int)) + 1) (f_slices_Index_int_int_l1 s v fuel12 (v2 + 1))))) (some (.inl (())))
def f_slices_Index_int_int (s : List Int) (v : Int) : Option Int :=
  (f_slices_Index_int_int_l1 s v FUEL 0).bind (fun x7 => sumC x7 (fun s8 => some (-1)) (fun s10 => some ((s10 : Int))))
def f_slices_Contains_int_int (s : List Int) (v : Int) : Option Bool :=
  (f_slices_Index_int_int s v).bind fun r1 => (some (decide ((0 : Int) ≤ r1)))
def f_florref2_book_isPage (b : T_florref2_book) (id : Int) : Option Bool :=
  cond (decide ((0 : Int) < id)) ((f_florref2_book_pages b).bind fun r2 => ((f_slices_Contains_int_int r2 id).bind fun r4 => (some r4))) (some false)
def f_florref2_book_names_l1 : List Bytes → (List Bytes) → (List (Bytes × Bool)) → Option ((List Bytes))
  | [], out1508, seen1509 => some out1508
  | x1512 :: rest, out1508, seen1509 => (f_florref2_FoldOfTitle x1512).bind fun r1513 => (cond (!((mget seen1509 r1513).getD false)) (ckN (seen1509.length + 1) (ckN (out1508.length + ([x1512]).length) (f_florref2_book_names_l1 rest (out1508 ++ ([x1512])) (mset seen1509 r1513 true)))) (f_florref2_book_names_l1 rest out1508 seen1509))
def f_florref2_book_names (b : T_florref2_book) (page : Int) : Option ((List Bytes)) :=
  (f_florref2_book_block b page).bind (fun r1 => sumC r1 (fun r1_c0 => none) (fun r1_c1 => (f_florref2_book_aliases b page).bind fun r1004 => (ckN (([r1_c1.2.2.2.1]).length + r1004.length) ((f_florref2_book_names_l1 (([r1_c1.2.2.2.1]) ++ r1004) (([] : List Bytes)) (([] : List (Bytes × Bool)))).bind (fun s1517 => some s1517)))))
def f_florref2_NamesFor (base : List Block) (page : Int) : Option ((List Bytes) × Int) :=
  (f_florref2_open base).bind fun r1 => (((cond (decide (r1.2 = (0 : Int))) ((f_florref2_book_isPage r1.1 page).bind fun r4 => (some (!r4))) (some false) : Option Bool).bind (fun s7 => cond s7 (some 7) (some r1.2)) : Option Int).bind (fun s12 => cond (decide (s12 ≠ (0 : Int))) (some (([], s12))) ((f_florref2_book_names r1.1 page).bind fun r16 => (some ((r16, 0))))))
def f_slices_Equal_string_string_l1 (s1 : List Bytes) (s2 : List Bytes) : Nat → Nat → Option (Sum Unit Unit)
  | 0, _ => none
  | fuel16 + 1, v5 => cond (decide ((v5 : Int) < (s1.length : Int))) ((s1[v5]?).bind fun x8 => ((s2[v5]?).bind fun x9 => (cond (decide (x8 ≠ x9)) (some (.inr (()))) (ckI (((v5 : Int)) + 1) (f_slices_Equal_string_string_l1 s1 s2 fuel16 (v5 + 1)))))) (some (.inl (())))
def f_slices_Equal_string_string (s1 : List Bytes) (s2 : List Bytes) : Option Bool :=
  cond (decide ((s1.length : Int) ≠ (s2.length : Int))) (some false) ((f_slices_Equal_string_string_l1 s1 s2 FUEL 0).bind (fun x11 => sumC x11 (fun s12 => some true) (fun s14 => some false)))
def f_florlaw2_LinkTitles (base : List Block) (title : Bytes) (page : Int) : Option Bool :=
  (f_link_Page base title).bind fun r1 => ((f_florref2_PageFor base title).bind fun r3 => ((f_link_Names base page).bind fun r5 => ((f_florref2_NamesFor base page).bind fun r7 => (cond (decide (r1.1 = r3.1)) (cond (decide (r1.2 = r3.2)) (cond (decide (r5.2 = r7.2)) ((f_slices_Equal_string_string r5.1 r7.1).bind fun r12 => (cond r12 ((f_link_FoldTitle title).bind fun r15 => ((f_florref2_FoldOfTitle title).bind fun r17 => (some (decide (r15 = r17))))) (some false))) (some false)) (some false)) (some false)))))
end Go.Fl
