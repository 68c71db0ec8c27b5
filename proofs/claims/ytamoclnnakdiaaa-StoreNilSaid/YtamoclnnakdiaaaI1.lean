/-
  Operations, reckoned: what a closed operation comes to, as a thing that the kernel computes.
  Conditions: none.
-/
import Derived.Test.YtamoclnnakdiaaaA23
namespace Go.Proofs.Ytamoclnnakdiaaa.Abs
open Go Go.RowKit
set_option linter.unusedVariables false
set_option linter.unusedSimpArgs false

/-- What becomes of a heap: an object more, or one put anew. -/
inductive HA where
  | push (o : AObj)
  | set (id : Nat) (o : AObj)

def HA.app : HA → List AObj → List AObj
  | .push o, H => H ++ [o]
  | .set id o, H => hset H id o

/-- What an operation comes to: a value, with the heap as it was; a value and what becomes of the heap; a call; not known. -/
inductive XR where
  | q (v : AV)
  | e (v : AV) (a : HA)
  | call (g : Gn) (args : List AV)
  | no

def ck (b : Bool) (r : XR) : XR := bif b then r else .no

/-- It is what the equations say. -/
def good (H : List AObj) (r : R) : XR → Prop
  | .q v => (match r with | .ok c v' H' => c ∧ v' = v ∧ H' = H | .any c a b H' => c ∧ a = v ∧ b = v ∧ H' = H | _ => False)
  | .e v a => (match r with | .ok c v' H' => c ∧ v' = v ∧ H' = a.app H | _ => False)
  | .call g args => r = .call g args
  | .no => True

theorem good_ck {H : List AObj} {r : R} {x : XR} {b : Bool} (h : b = true → good H r x) : good H r (ck b x) := by
  cases b with
  | true => exact h rfl
  | false => trivial

def xLoadR (c : Option (Bool × Nat)) (cs : List AV) : XR :=
  match c with
  | some (true, n) => ck (Nat.ble n cs.length) (.q (.agg (cs.take n)))
  | some (false, _) =>
    match cs with
    | c :: _ => .q c
    | [] => .no
  | none => .no
theorem xLoadR_ok (c : Option (Bool × Nat)) (cs : List AV) (H : List AObj) : good H (loadR c cs H) (xLoadR c cs) := by
  unfold xLoadR loadR
  split
  · refine good_ck fun hb => ⟨by simpa using hb, rfl, rfl⟩
  · cases cs with
    | nil => trivial
    | cons x xs => exact ⟨trivial, rfl, rfl⟩
  · trivial

theorem good_and {H : List AObj} {r : R} {x : XR} {p : Prop} (hp : p) (hx : ∀ v : Gn × List AV, x ≠ .call v.1 v.2) (h : good H r x) : good H (andR p r) x := by
  cases x with
  | q v => cases r <;> simp only [good, andR] at h ⊢ <;> first | exact ⟨⟨hp, h.1⟩, h.2⟩ | exact h
  | e v H' => cases r <;> simp only [good, andR] at h ⊢ <;> first | exact ⟨⟨hp, h.1⟩, h.2⟩ | exact h
  | call g a => exact absurd rfl (hx (g, a))
  | no => trivial

theorem xLoadR_nc (c : Option (Bool × Nat)) (cs : List AV) : ∀ v : Gn × List AV, xLoadR c cs ≠ .call v.1 v.2 := by
  intro v
  unfold xLoadR ck
  split
  · cases Nat.ble _ _ <;> simp
  · split <;> simp
  · simp

def xLoad (c : Option (Bool × Nat)) (hg : Nat → Option AObj) (x : AV) : XR :=
  match x with
  | .ptr id off =>
    match hg id with
    | some (.var cs) => xLoadR c (cs.drop off)
    | _ => .no
  | .eptr id g i off =>
    match hg id with
    | some (.arr g' _ _ els) => ck (Nat.beq g g' && Nat.blt i els.length) (xLoadR c ((look els i).cells.drop off))
    | _ => .no
  | .fptr cs => xLoadR c cs
  | _ => .no
theorem xLoad_ok (c : Option (Bool × Nat)) (H : List AObj) (x : AV) : good H (rLoad c H x) (xLoad c (hget H) x) := by
  cases x <;> first | trivial | skip
  · rename_i id off
    simp only [xLoad, rLoad]
    cases hget H id with
    | none => trivial
    | some o => cases o <;> first | exact xLoadR_ok _ _ _ | trivial
  · rename_i id g i off
    simp only [xLoad, rLoad]
    cases hget H id with
    | none => trivial
    | some o =>
      cases o <;> first | trivial | skip
      refine good_ck fun hb => ?_
      simp only [Bool.and_eq_true, Nat.beq_eq, Nat.blt_eq] at hb
      exact good_and hb (xLoadR_nc _ _) (xLoadR_ok _ _ _)
  · exact xLoadR_ok _ _ _

def xStore (n : Option Nat) (hg : Nat → Option AObj) (x p : AV) : XR :=
  match p with
  | .ptr id off =>
    match hg id, n with
    | some (.var cs), some n => ck (storable x && Nat.beq n x.cells.length && Nat.ble (off + x.cells.length) cs.length) (.e .junk (.set id (.var (spl cs off x.cells))))
    | _, _ => .no
  | .eptr id g i off =>
    match hg id, n with
    | some (.arr g' e sz els), some n => ck (Nat.beq g g' && Nat.blt i els.length && storable x && Nat.beq n x.cells.length && Nat.ble (off + x.cells.length) (look els i).cells.length &&
        (match look els i with | .agg _ => true | _ => (match spl (look els i).cells off x.cells with | [y] => (match y with | .agg _ => false | _ => true) | _ => false)))
        (.e .junk (.set id (.arr g e sz (els.set i (reagg (look els i) (spl (look els i).cells off x.cells))))))
    | _, _ => .no
  | _ => .no
theorem xStore_ok (n : Option Nat) (H : List AObj) (x p : AV) : good H (rStore n H x p) (xStore n (hget H) x p) := by
  cases p <;> first | trivial | skip
  · rename_i id off
    simp only [xStore, rStore]
    cases hget H id with
    | none => trivial
    | some o =>
      cases o <;> first | trivial | skip
      cases n with
      | none => trivial
      | some n =>
        refine good_ck fun hb => ?_
        simp only [Bool.and_eq_true, Nat.beq_eq, Nat.ble_eq] at hb
        exact ⟨⟨hb.1.1, by rw [hb.1.2], hb.2⟩, rfl, rfl⟩
  · rename_i id g i off
    simp only [xStore, rStore]
    cases hget H id with
    | none => trivial
    | some o =>
      cases o <;> first | trivial | skip
      rename_i g' e sz els
      cases n with
      | none => trivial
      | some n =>
      refine good_ck fun hb => ?_
      simp only [Bool.and_eq_true, Nat.beq_eq, Nat.ble_eq, Nat.blt_eq] at hb
      obtain ⟨⟨⟨⟨⟨h1, h2⟩, h3⟩, h4⟩, h5⟩, h6⟩ := hb
      refine ⟨⟨h1, h2, h3, by rw [h4], h5, ?_⟩, rfl, rfl⟩
      cases hl : look els i with
      | agg cs0 => rfl
      | _ =>
        rw [hl] at h6
        simp only at h6
        generalize spl _ off x.cells = zs at h6 ⊢
        cases zs with
        | nil => simp at h6
        | cons y ys =>
          cases ys with
          | nil => cases y <;> first | rfl | simp at h6
          | cons _ _ => simp at h6

def xFieldAddr (c : Option (Nat × Bool × Nat)) (x : AV) : XR :=
  match c, x with
  | some (o, _, _), .ptr id off => .q (.ptr id (off + o))
  | some (o, _, _), .eptr id g i off => .q (.eptr id g i (off + o))
  | some (o, _, _), .fptr cs => .q (.fptr (cs.drop o))
  | _, _ => .no
theorem xFieldAddr_ok (c : Option (Nat × Bool × Nat)) (H : List AObj) (x : AV) : good H (rFieldAddr c H x) (xFieldAddr c x) := by
  rcases c with _ | ⟨o, b, n⟩
  · trivial
  · cases x <;> first | exact ⟨trivial, rfl, rfl⟩ | trivial

def xField (c : Option (Nat × Bool × Nat)) (x : AV) : XR :=
  match c, x with
  | some (o, true, n), .agg cs => ck (Nat.ble (o + n) cs.length) (.q (.agg ((cs.drop o).take n)))
  | some (o, false, _), .agg cs => ck (Nat.blt o cs.length) (.q (look cs o))
  | _, _ => .no
theorem xField_ok (c : Option (Nat × Bool × Nat)) (H : List AObj) (x : AV) : good H (rField c H x) (xField c x) := by
  rcases c with _ | ⟨o, b, n⟩
  · trivial
  · cases b <;> cases x <;> first | trivial | exact good_ck fun hb => ⟨by simpa using hb, rfl, rfl⟩

/-- A number that is not below nought. -/
def natOf : Int → Option Nat
  | .ofNat n => some n
  | .negSucc _ => none
theorem natOf_some {n : Int} {m : Nat} (h : natOf n = some m) : n = (m : Int) := by
  cases n with
  | ofNat k => cases h; rfl
  | negSucc k => cases h

def xIndexAddr (c : Option (TypeId × Nat)) (a : Option (Nat × Bool × Nat)) (hg : Nat → Option AObj) (x i : AV) : XR :=
  match x, i with
  | .fz xs, .int _ n =>
    match c, natOf n with
    | some (_, sz), some m => ck (Nat.blt m xs.length && Nat.beq (look xs m).cells.length sz) (.q (.fptr (look xs m).cells))
    | _, _ => .no
  | .sl id g off len, .int _ n =>
    match c, natOf n, hg id with
    | some (_, sz), some m, some (.arr g' _ sz' els) => ck (Nat.beq g g' && Nat.blt m len && Nat.beq sz' sz) (.q (.eptr id g (off + m) 0))
    | _, _, _ => .no
  | .ptr id off, .int _ n =>
    match a, natOf n with
    | some (len, _, sz), some m => ck (Nat.blt m len) (.q (.ptr id (off + m * sz)))
    | _, _ => .no
  | _, _ => .no
theorem xIndexAddr_ok (c : Option (TypeId × Nat)) (a : Option (Nat × Bool × Nat)) (H : List AObj) (x i : AV) : good H (rIndexAddr c a H x i) (xIndexAddr c a (hget H) x i) := by
  cases x <;> first | trivial | skip
  all_goals (cases i <;> first | trivial | skip)
  all_goals
    rename_i n
    rcases n with m | m
  all_goals try (rcases c with _ | ⟨e, sz⟩ <;> rcases a with _ | ⟨l, b, sz'⟩ <;> trivial)
  · rcases a with _ | ⟨l, b, sz⟩
    · trivial
    · refine good_ck fun hb => ?_
      simp only [Nat.blt_eq] at hb
      exact ⟨⟨Int.natCast_nonneg _, Int.ofNat_lt.2 hb⟩, rfl, rfl⟩
  · rcases c with _ | ⟨e, sz⟩
    · trivial
    · refine good_ck fun hb => ?_
      simp only [Bool.and_eq_true, Nat.beq_eq, Nat.blt_eq] at hb
      exact ⟨⟨Int.natCast_nonneg _, Int.ofNat_lt.2 hb.1, hb.2⟩, rfl, rfl⟩
  · rename_i id g off len k
    rcases c with _ | ⟨e, sz⟩
    · trivial
    · simp only [xIndexAddr, rIndexAddr, natOf, idxRs]
      cases hget H id with
      | none => trivial
      | some o =>
        cases o <;> first | trivial | skip
        refine good_ck fun hb => ?_
        simp only [Bool.and_eq_true, Nat.beq_eq, Nat.blt_eq] at hb
        exact ⟨⟨hb.1.1, Int.natCast_nonneg _, Int.ofNat_lt.2 hb.1.2, hb.2⟩, rfl, rfl⟩

def xIndex (c : Option TypeDesc) (a : Option (Nat × Bool × Nat)) (x i : AV) : XR :=
  match x, i with
  | .str s, .int _ n =>
    match c, natOf n with
    | some .string, some m => ck (Nat.blt m s.length) (.q (.int .u8 ((bAt s m).toNat : Int)))
    | _, _ => .no
  | .agg cs, .int _ n =>
    match a, natOf n with
    | some (l, true, sz), some m => ck (Nat.blt m l && Nat.ble (m * sz + sz) cs.length) (.q (.agg ((cs.drop (m * sz)).take sz)))
    | some (l, false, sz), some m => ck (Nat.blt m l && Nat.blt (m * sz) cs.length) (.q (look cs (m * sz)))
    | _, _ => .no
  | _, _ => .no
theorem xIndex_ok (c : Option TypeDesc) (a : Option (Nat × Bool × Nat)) (H : List AObj) (x i : AV) : good H (rIndex c a H x i) (xIndex c a x i) := by
  cases x <;> first | trivial | skip
  all_goals (cases i <;> first | trivial | skip)
  all_goals rename_i n
  · cases n with
    | negSucc n => (rcases c with _ | c <;> first | trivial | (cases c <;> trivial))
    | ofNat m =>
      rcases c with _ | c
      · trivial
      · cases c <;> first | trivial | skip
        refine good_ck fun hb => ?_
        simp only [Nat.blt_eq] at hb
        exact ⟨⟨Int.natCast_nonneg _, Int.ofNat_lt.2 hb⟩, rfl, rfl⟩
  · cases n with
    | negSucc n => (rcases a with _ | ⟨l, b, sz⟩ <;> first | trivial | (cases b <;> trivial))
    | ofNat m =>
      rcases a with _ | ⟨l, b, sz⟩
      · trivial
      · cases b
        · refine good_ck fun hb => ?_
          simp only [Bool.and_eq_true, Nat.blt_eq] at hb
          exact ⟨⟨Int.natCast_nonneg _, Int.ofNat_lt.2 hb.1, hb.2⟩, rfl, rfl⟩
        · refine good_ck fun hb => ?_
          simp only [Bool.and_eq_true, Nat.blt_eq, Nat.ble_eq] at hb
          exact ⟨⟨Int.natCast_nonneg _, Int.ofNat_lt.2 hb.1, hb.2⟩, rfl, rfl⟩

def xPtr (tp : Bool) (op : BinOp) (hg : Nat → Option AObj) (x y : AV) : XR :=
  match ptrV x y with
  | some r =>
    ck (tp && (match x, y with | .ptr i _, .ptr j _ => isVar (hg i) && isVar (hg j) | _, _ => true))
      (match op with | .eql => .q (.bool r) | .neq => .q (.bool (!r)) | _ => .no)
  | none => .no
theorem xPtr_ok (tp : Bool) (op : BinOp) (H : List AObj) (x y : AV) : good H (rPtr op (tp = true ∧ ptrC H x y) (ptrV x y) H) (xPtr tp op (hget H) x y) := by
  unfold xPtr
  cases ptrV x y with
  | none => trivial
  | some r =>
    refine good_ck fun hb => ?_
    have hc : tp = true ∧ ptrC H x y := by
      simp only [Bool.and_eq_true] at hb
      refine ⟨hb.1, ?_⟩
      unfold ptrC
      split
      · simpa using hb.2
      · trivial
    cases op <;> first | exact ⟨hc, rfl, rfl⟩ | trivial

def xVal : Option AV → XR
  | some v => .q v
  | none => .no

def xBin (P : Program) (op : BinOp) (t : TypeId) (hg : Nat → Option AObj) (x y : AV) : XR :=
  match x, y with
  | .int k a, .int k' b => ck (decide (k = k')) (xVal (binInt op k a b))
  | .str a, .str b =>
    match op with
    | .add => ck (Nat.ble (a.length + b.length) 9223372036854775807) (.q (.str (a ++ b)))
    | op => xVal (binStr op a b)
  | .bool a, .bool b =>
    match P.underlying t, op with
    | some .bool, .eql => .q (.bool (a == b))
    | some .bool, .neq => .q (.bool (!(a == b)))
    | _, _ => .no
  | .agg xs, .agg ys =>
    match tq P t, op with
    | some ks, .eql => (match eqA ks xs ys with | some r => .q (.bool r) | none => .no)
    | some ks, .neq => (match eqA ks xs ys with | some r => .q (.bool (!r)) | none => .no)
    | _, _ => .no
  | x, y => xPtr (tptr P t) op hg x y
theorem xVal_ok (H : List AObj) (v : Option AV) (c : Prop) (hc : c) : good H (valR v c H) (xVal v) := by
  cases v with
  | none => trivial
  | some v => exact ⟨hc, rfl, rfl⟩
theorem xBin_ok (P : Program) (op : BinOp) (t : TypeId) (H : List AObj) (x y : AV) : good H (rBin P op t H x y) (xBin P op t (hget H) x y) := by
  unfold xBin
  split
  · exact good_ck fun hb => xVal_ok H _ _ (by simpa using hb)
  · rename_i a b
    by_cases hop : op = .add
    · subst hop
      refine good_ck fun hb => ?_
      exact ⟨by simpa using hb, rfl, rfl⟩
    · have h1 : rBin P op t H (.str a) (.str b) = valR (binStr op a b) True H := by cases op <;> first | rfl | exact absurd rfl hop
      rw [h1]
      cases op <;> first | exact xVal_ok H _ True trivial | exact absurd rfl hop
  · split
    · rename_i h; exact ⟨h, rfl, rfl⟩
    · rename_i h; exact ⟨h, rfl, rfl⟩
    · trivial
  · rename_i xs ys
    cases ht : tq P t with
    | none => trivial
    | some ks =>
      cases op <;> first | trivial | skip
      all_goals
        simp only [rBin, ht, eqRt]
        cases eqA ks xs ys with
        | none => trivial
        | some r => exact ⟨trivial, rfl, rfl⟩
  · rename_i h1 h2 h3 h4
    have : rBin P op t H x y = rPtr op (tptr P t = true ∧ ptrC H x y) (ptrV x y) H := by
      unfold rBin
      split <;> first | rfl | exact absurd rfl (h1 _ _ _ _ rfl) | exact absurd rfl (h2 _ _ rfl) | exact absurd rfl (h3 _ _ rfl) | exact absurd rfl (h4 _ _ rfl)
    rw [this]
    exact xPtr_ok _ _ _ _ _

def xNil (c : Option TypeDesc) (op : BinOp) (n : Option (Bool × Bool)) : XR :=
  match n, op with
  | some (a, b), .eql => ck (isSl c && (a == b)) (.q (.bool a))
  | some (a, b), .neq => ck (isSl c && (a == b)) (.q (.bool (!a)))
  | _, _ => .no
theorem xNil_ok (c : Option TypeDesc) (op : BinOp) (H : List AObj) (n : Option (Bool × Bool)) : good H (rNilS c op H n) (xNil c op n) := by
  rcases n with _ | ⟨a, b⟩
  · trivial
  · cases op <;> first | trivial | skip
    all_goals
      refine good_ck fun hb => ?_
      simp only [Bool.and_eq_true, beq_iff_eq] at hb
      exact ⟨hb.1, rfl, by rw [hb.2], rfl⟩

def xUn (op : UnOp) (x : AV) : XR :=
  match op, x with
  | .not, .bool b => .q (.bool (!b))
  | .neg, .int k n => .q (.int k (k.wrap (0 - n)))
  | _, _ => .no
theorem xUn_ok (op : UnOp) (H : List AObj) (x : AV) : good H (rUn op H x) (xUn op x) := by
  cases op <;> cases x <;> first | exact ⟨trivial, rfl, rfl⟩ | trivial

def xConv (a b : Option TypeDesc) (x : AV) : XR :=
  match a, b, x with
  | some _, some (.int k), .int _ n => .q (.int k (k.wrap n))
  | some _, some .string, .str s => .q (.str s)
  | _, _, _ => .no
theorem xConv_ok (a b : Option TypeDesc) (H : List AObj) (x : AV) : good H (rConv a b H x) (xConv a b x) := by
  rcases a with _ | a
  · trivial
  · rcases b with _ | b
    · trivial
    · cases b <;> cases x <;> first | exact ⟨trivial, rfl, rfl⟩ | trivial

def xExtract (i : Nat) (x : AV) : XR :=
  match x with
  | .tuple vs => ck (Nat.blt i vs.length) (.q (look vs i))
  | _ => .no
theorem xExtract_ok (i : Nat) (H : List AObj) (x : AV) : good H (rExtract i H x) (xExtract i x) := by
  cases x <;> first | trivial | exact good_ck fun hb => ⟨by simpa using hb, rfl, rfl⟩

def xBuild (c : Option (List AV × List (Nat × Nat))) (parts : List (Nat × AV)) : XR :=
  match c with
  | some (zs, places) => xVal ((fillA places zs parts).map .agg)
  | none => .no
theorem xBuild_ok (c : Option (List AV × List (Nat × Nat))) (H : List AObj) (parts : List (Nat × AV)) : good H (rBuild c H parts) (xBuild c parts) := by
  rcases c with _ | ⟨zs, places⟩
  · trivial
  · exact xVal_ok H _ _ trivial

def xBsl (c : Option (TypeId × Nat)) (z : TypeId → Option AV) (n : Nat) (parts : List (Nat × AV)) : XR :=
  match c with
  | some (e, sz) =>
    match z e with
    | some z => ck (Nat.beq z.cells.length sz && storable z && Nat.ble (n * sz) 16777216 && Nat.blt 0 sz) (xVal ((fillE sz (List.replicate n z) parts).map mkFz))
    | none => .no
  | none => .no
theorem xBsl_ok (c : Option (TypeId × Nat)) (z : TypeId → Option AV) (n : Nat) (H : List AObj) (parts : List (Nat × AV)) : good H (rBsl c z n H parts) (xBsl c z n parts) := by
  rcases c with _ | ⟨e, sz⟩
  · trivial
  · simp only [xBsl, rBsl]
    cases z e with
    | none => trivial
    | some z =>
      refine good_ck fun hb => ?_
      simp only [Bool.and_eq_true, Nat.beq_eq, Nat.ble_eq, Nat.blt_eq] at hb
      exact xVal_ok H _ _ ⟨hb.1.1.1, hb.1.1.2, hb.1.2, hb.2⟩

def xLen (c : Option TypeDesc) (hg : Nat → Option AObj) (x : AV) : XR :=
  match c, x with
  | some .string, .str s => .q (.int .i64 (s.length : Int))
  | some (.slice _), .sl id g off len =>
    match hg id with
    | some (.arr g' _ _ _) => ck (Nat.beq g g') (.q (.int .i64 (len : Int)))
    | _ => .no
  | some (.slice _), .fz xs => .q (.int .i64 (xs.length : Int))
  | some (.slice _), .nils => .q (.int .i64 0)
  | some (.slice _), .nilc => .q (.int .i64 0)
  | _, _ => .no
theorem xLen_ok (c : Option TypeDesc) (H : List AObj) (x : AV) : good H (rLen c H x) (xLen c (hget H) x) := by
  rcases c with _ | c
  · trivial
  · cases c <;> cases x <;> first | exact ⟨trivial, rfl, rfl⟩ | trivial | skip
    rename_i e id g off len
    simp only [xLen, rLen]
    cases hget H id with
    | none => trivial
    | some o =>
      cases o <;> first | trivial | skip
      exact good_ck fun hb => ⟨by simpa [genIs] using hb, rfl, rfl⟩

def allSz (sz : Nat) : List AV → Bool
  | [] => true
  | z :: zs => Nat.beq z.cells.length sz && allSz sz zs
theorem allSz_ok {sz : Nat} : ∀ {l : List AV}, allSz sz l = true → ∀ z, z ∈ l → z.cells.length = sz
  | [], _, z, h => by cases h
  | y :: l, h, z, hz => by
    simp only [allSz, Bool.and_eq_true, Nat.beq_eq] at h
    rcases List.mem_cons.1 hz with rfl | hz
    · exact h.1
    · exact allSz_ok h.2 z hz

def xApp (c : Option (TypeId × Nat × Nat)) (ys : Option (List AV)) (hg : Nat → Option AObj) (hl : Nat) (x : AV) : XR :=
  match c, ys, x with
  | some (e, sz, by_), some ys, .nils => ck (allSz sz ys && Nat.ble (ys.length * by_) 140737488355328) (.e (.sl hl 0 0 ys.length) (.push (.arr 0 e sz ys)))
  | some (e, sz, by_), some ys, .nilc => ck (allSz sz ys && Nat.ble (ys.length * by_) 140737488355328) (.e (.sl hl 0 0 ys.length) (.push (.arr 0 e sz ys)))
  | some (e, sz, by_), some ys, .sl id g off len =>
    match hg id with
    | some (.arr g' e' sz' els) => ck (allSz sz ys && Nat.beq g g' && Nat.beq e' e && Nat.beq sz' sz && Nat.beq off 0 && Nat.beq len els.length && Nat.ble ((len + ys.length) * by_) 140737488355328)
        (.e (.sl id (g + 1) 0 (len + ys.length)) (.set id (.arr (g + 1) e sz (els ++ ys))))
    | _ => .no
  | _, _, _ => .no
theorem xApp_ok (c : Option (TypeId × Nat × Nat)) (ys : Option (List AV)) (H : List AObj) (x : AV) : good H (rApp c ys H x) (xApp c ys (hget H) H.length x) := by
  rcases c with _ | ⟨e, sz, b⟩
  · trivial
  · rcases ys with _ | ys
    · trivial
    · cases x <;> first | trivial | skip
      · refine good_ck fun hb => ?_
        simp only [Bool.and_eq_true, Nat.ble_eq] at hb
        exact ⟨⟨allSz_ok hb.1, hb.2⟩, rfl, rfl⟩
      · refine good_ck fun hb => ?_
        simp only [Bool.and_eq_true, Nat.ble_eq] at hb
        exact ⟨⟨allSz_ok hb.1, hb.2⟩, rfl, rfl⟩
      · rename_i id g off len
        simp only [xApp, rApp]
        cases hget H id with
        | none => trivial
        | some o =>
          cases o <;> first | trivial | skip
          refine good_ck fun hb => ?_
          simp only [Bool.and_eq_true, Nat.ble_eq, Nat.beq_eq] at hb
          obtain ⟨⟨⟨⟨⟨⟨h1, h2⟩, h3⟩, h4⟩, h5⟩, h6⟩, h7⟩ := hb
          exact ⟨⟨allSz_ok h1, h2, h3, h4, h5, h6, h7⟩, rfl, rfl⟩

def xPick (c a b : AV) : XR :=
  match c with
  | .bool t => .q (bif t then a else b)
  | _ => .no
theorem xPick_ok (H : List AObj) (c a b : AV) : good H (rPick c a b H) (xPick c a b) := by
  cases c <;> first | trivial | exact ⟨trivial, rfl, rfl⟩

/-- The elements of a slice that can be read now. -/
def rowOfG (hg : Nat → Option AObj) : AV → Option (List AV)
  | .fz xs => some xs
  | .nils => some []
  | .nilc => some []
  | .sl id g off len =>
    match hg id with
    | some (.arr g' _ _ els) => if g = g' then some ((els.drop off).take len) else none
    | _ => none
  | _ => none
theorem rowOfG_eq (H : List AObj) (x : AV) : rowOfG (hget H) x = rowOf H x := by
  cases x <;> rfl

def xBuiltin (P : Program) (b : Builtin) (ts : List TypeId) (args : List AV) (hg : Nat → Option AObj) (hl : Nat) : XR :=
  match b, ts, args with
  | .len, [t], [x] => xLen (P.underlying t) hg x
  | .append, [t, u], [x, y] => ck (Nat.beq t u) (xApp (tap P t) (rowOfG hg y) hg hl x)
  | .max, _, [.int k a, .int _ b] => .q (.int k (if b > a then b else a))
  | .min, _, [.int k a, .int _ b] => .q (.int k (if b < a then b else a))
  | _, _, _ => .no
theorem ck_nc {b : Bool} {x : XR} (h : ∀ v : Gn × List AV, x ≠ .call v.1 v.2) : ∀ v : Gn × List AV, ck b x ≠ .call v.1 v.2 := by
  intro v
  cases b with
  | true => exact h v
  | false => simp [ck]
theorem xApp_nc (c : Option (TypeId × Nat × Nat)) (ys : Option (List AV)) (hg : Nat → Option AObj) (hl : Nat) (x : AV) : ∀ v : Gn × List AV, xApp c ys hg hl x ≠ .call v.1 v.2 := by
  intro v
  unfold xApp
  split
  · exact ck_nc (by simp) v
  · exact ck_nc (by simp) v
  · split
    · exact ck_nc (by simp) v
    · simp
  · simp
theorem xBuiltin_ok (P : Program) (b : Builtin) (ts : List TypeId) (args : List AV) (H : List AObj) : good H (rBuiltin P b ts args H) (xBuiltin P b ts args (hget H) H.length) := by
  unfold xBuiltin
  split
  · exact xLen_ok _ _ _
  · exact good_ck fun hb => good_and (by simpa using hb) (xApp_nc _ _ _ _ _) (by rw [rowOfG_eq]; exact xApp_ok _ _ _ _)
  · exact ⟨trivial, rfl, rfl⟩
  · exact ⟨trivial, rfl, rfl⟩
  · trivial

def xSlice (d : Option TypeDesc) (c : Option (TypeId × Nat)) (hg : Nat → Option AObj) (x : AV) (lo hi : Option AV) : XR :=
  match d, x with
  | some .string, .str s =>
    match loOf lo, hiOf s.length hi with
    | some l, some h => ck (Nat.ble l h && Nat.ble h s.length) (.q (.str ((s.drop l).take (h - l))))
    | _, _ => .no
  | some (.slice _), .fz xs =>
    match loOf lo, hiOf xs.length hi, c with
    | some l, some h, some (_, sz) => ck (Nat.ble l h && Nat.ble h xs.length && allSz sz xs) (.q (.fz ((xs.drop l).take (h - l))))
    | _, _, _ => .no
  | some (.slice _), .sl id g off len =>
    match loOf lo, hiOf len hi, c, hg id with
    | some l, some h, some (_, sz), some (.arr g' _ sz' _) => ck (Nat.beq g g' && Nat.beq sz sz' && Nat.ble l h && Nat.ble h len && (Nat.beq l 0 || Nat.blt l len)) (.q (.sl id g (off + l) (h - l)))
    | _, _, _, _ => .no
  | _, _ => .no
theorem xSlice_ok (d : Option TypeDesc) (c : Option (TypeId × Nat)) (H : List AObj) (x : AV) (lo hi : Option AV) : good H (rSlice d c H x lo hi) (xSlice d c (hget H) x lo hi) := by
  rcases d with _ | d
  · trivial
  cases d <;> cases x <;> first | trivial | skip
  · rename_i s
    simp only [xSlice, rSlice]
    cases loOf lo with
    | none => trivial
    | some l =>
      cases hiOf s.length hi with
      | none => trivial
      | some h =>
        refine good_ck fun hb => ?_
        simp only [Bool.and_eq_true, Nat.ble_eq] at hb
        exact ⟨hb, rfl, rfl⟩
  · rename_i xs
    simp only [xSlice, rSlice]
    cases loOf lo with
    | none => trivial
    | some l =>
      cases hiOf xs.length hi with
      | none => trivial
      | some h =>
        rcases c with _ | ⟨e, sz⟩
        · trivial
        · refine good_ck fun hb => ?_
          simp only [Bool.and_eq_true, Nat.ble_eq] at hb
          exact ⟨⟨hb.1.1, hb.1.2, allSz_ok hb.2⟩, rfl, rfl⟩
  · rename_i id g off len
    simp only [xSlice, rSlice]
    cases loOf lo with
    | none => trivial
    | some l =>
      cases hiOf len hi with
      | none => trivial
      | some h =>
        rcases c with _ | ⟨e, sz⟩
        · trivial
        · simp only [bndR, partS]
          cases hget H id with
          | none => trivial
          | some o =>
            cases o <;> first | trivial | skip
            refine good_ck fun hb => ?_
            simp only [Bool.and_eq_true, Nat.ble_eq, Nat.beq_eq, Bool.or_eq_true, Nat.blt_eq] at hb
            obtain ⟨⟨⟨⟨a1, a2⟩, a3⟩, a4⟩, a5⟩ := hb
            exact ⟨⟨a1, a2, a3, a4, a5⟩, rfl, rfl⟩

def xCall (f : AV) (args : List AV) : XR :=
  match f with
  | .fn (.func g) first cap => .call (.f g) (first ++ args ++ cap)
  | .yfn id => .call (.y id) args
  | _ => .no
theorem xCall_ok (H : List AObj) (f : AV) (args : List AV) : good H (rCall f args) (xCall f args) := by
  cases f <;> first | rfl | trivial | skip
  rename_i f _ _
  cases f <;> first | rfl | trivial

/-- What 'x == nil' may give. -/
def nilOfG (hg : Nat → Option AObj) : AV → Option (Bool × Bool)
  | .fz [] => some (true, false)
  | .fz (_ :: _) => some (false, false)
  | .nils => some (true, true)
  | .nilc => some (true, false)
  | .sl id g _ _ => some (nilArr g (hg id))
  | _ => none
theorem nilOfG_eq (H : List AObj) (x : AV) : nilOfG (hget H) x = nilOf H x := by
  cases x <;> rfl

def xOne (P : Program) (op : Op) (f : Operand → AV) (hg : Nat → Option AObj) (hl : Nat) : XR :=
  match op with
  | .move x => .q (f x)
  | .assign x => .q (f x)
  | .pick c a b => xPick (f c) (f a) (f b)
  | .alloc e => (match zeroV P e with | some z => ck (storable z) (.e (.ptr hl 0) (.push (.var z.cells))) | none => .no)
  | .box _ x => ck (storable (f x)) (.e (.ptr hl 0) (.push (.var (f x).cells)))
  | .build t parts => xBuild (tb P t) (parts.toList.map fun p => (p.1, f p.2))
  | .buildSlice t n parts => xBsl (te P t) (zeroV P) n (parts.toList.map fun p => (p.1, f p.2))
  | .load t x => xLoad (tc P t) hg (f x)
  | .store t p x => xStore ((tc P t).map (·.2)) hg (f x) (f p)
  | .binOp op t x y _ => bif isNilS y then xNil (P.underlying t) op (nilOfG hg (f x)) else xBin P op t hg (f x) (f y)
  | .unOp op _ x => xUn op (f x)
  | .convert s d x => xConv (P.underlying s) (P.underlying d) (f x)
  | .makeInterface t x => ck (ti P t) (.q (.iface t (f x)))
  | .nilCheck x => ck (nonnil (f x)) (.q (f x))
  | .makeFunc g first cap => .q (.fn g (first.toList.map f) (cap.toList.map f))
  | .fieldAddr s x i => xFieldAddr (tf P s i) (f x)
  | .field s x i => xField (tf P s i) (f x)
  | .indexAddr t x i => xIndexAddr (te P t) (ta P t) hg (f x) (f i)
  | .index t x i => xIndex (P.underlying t) (ta P t) (f x) (f i)
  | .extract x i => xExtract i (f x)
  | .slice t x lo hi none => xSlice (P.underlying t) (te P t) hg (f x) (lo.map f) (hi.map f)
  | .call { callee := .builtin b, args := args, argTypes := ts } => xBuiltin P b ts.toList (args.toList.map f) hg hl
  | .call { callee := .value g, args := args, argTypes := _ } => xCall (f g) (args.toList.map f)
  | _ => .no

theorem xOne_ok (P : Program) (op : Op) (T : List AV) (H : List AObj) : good H (oneR P op T H) (xOne P op (ev T) (hget H) H.length) := by
  unfold xOne
  split <;> simp only [oneR]
  · exact ⟨trivial, rfl, rfl⟩
  · exact ⟨trivial, rfl, rfl⟩
  · exact xPick_ok _ _ _ _
  · rename_i e
    cases zeroV P e with
    | none => trivial
    | some z => exact good_ck fun hb => ⟨hb, rfl, rfl⟩
  · exact good_ck fun hb => ⟨hb, rfl, rfl⟩
  · exact xBuild_ok _ _ _
  · exact xBsl_ok _ _ _ _ _
  · exact xLoad_ok _ _ _
  · exact xStore_ok _ _ _ _
  · rename_i x y z u
    rw [nilOfG_eq]
    cases isNilS z with
    | true => exact xNil_ok _ _ _ _
    | false => exact xBin_ok _ _ _ _ _ _
  · exact xUn_ok _ _ _
  · exact xConv_ok _ _ _ _
  · exact good_ck fun hb => ⟨hb, rfl, rfl⟩
  · exact good_ck fun hb => ⟨hb, rfl, rfl⟩
  · exact ⟨trivial, rfl, rfl⟩
  · exact xFieldAddr_ok _ _ _
  · exact xField_ok _ _ _
  · exact xIndexAddr_ok _ _ _ _ _
  · exact xIndex_ok _ _ _ _ _
  · exact xExtract_ok _ _ _
  · exact xSlice_ok _ _ _ _ _ _
  · exact xBuiltin_ok _ _ _ _ _
  · exact xCall_ok _ _ _
  · trivial

end Go.Proofs.Ytamoclnnakdiaaa.Abs
