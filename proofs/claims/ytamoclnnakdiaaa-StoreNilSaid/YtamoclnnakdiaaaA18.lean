/-
  Drawn regions that turn the heap: walked in the text's order, each operation asked again at each heap at which it may stand.
  Conditions: none.
-/
import Derived.Test.YtamoclnnakdiaaaA17
namespace Go.Proofs.Ytamoclnnakdiaaa.Abs
open Go Go.RowKit
set_option linter.unusedVariables false

/-- Where an operation of a drawn region stands: it turns heap k into heap k + 1, or it is quiet, at one of ks. -/
inductive Plan where
  | eff (k : Nat)
  | quiet (ks : List Nat)
  deriving DecidableEq

def planOf (ops : Array Oper) (E : List Nat) (i : Nat) : Plan :=
  match E.findIdx? (· == i) with
  | some k => .eff k
  | none => .quiet ((List.range (E.length + 1)).filter fun k => decide (loE ops E i ≤ k) && decide (k ≤ hiE ops E i))

def planOK (ops : Array Oper) (E : List Nat) (pl : List Plan) : Bool := decide (pl = (List.range ops.size).map (planOf ops E))

def wIs : Option AV → AV → Prop
  | some u, v => u = v
  | none, _ => True

def callR (P : Program) (g : Gn) (args : List AV) (H : List AObj) (w : Option AV) (H' : List AObj) : Prop := ∃ v, ACallG P g args H (fun x H'' => x = .ret v ∧ H'' = H') ∧ wIs w v

/-- What an operation comes to is this. -/
def resR (P : Program) (r : R) (H : List AObj) (w : Option AV) (H' : List AObj) : Prop :=
  match r with
  | .ok c v H'' => c ∧ wIs w v ∧ H'' = H'
  | .call g args => callR P g args H w H'
  | _ => False

def hsAt (hs : List (List AObj)) (k : Nat) : List AObj := hs.getD k []

def chkKs (P : Program) (op : Op) (d : Option AV) (Tf : List AV) (hs : List (List AObj)) : List Nat → Prop
  | [] => True
  | k :: ks => resR P (oneR P op Tf (hsAt hs k)) (hsAt hs k) d (hsAt hs k) ∧ chkKs P op d Tf hs ks

theorem chkKs_spec {P : Program} {op : Op} {d : Option AV} {Tf : List AV} {hs : List (List AObj)} : ∀ {ks : List Nat}, chkKs P op d Tf hs ks → ∀ k, k ∈ ks → resR P (oneR P op Tf (hsAt hs k)) (hsAt hs k) d (hsAt hs k)
  | [], _, k, h => by simp at h
  | j :: ks, ⟨h1, h2⟩, k, h => by
    rcases List.mem_cons.1 h with rfl | h
    · exact h1
    · exact chkKs_spec h2 k h

def dval (T : List AV) : Option Tmp → Option AV
  | some d => some (look T d)
  | none => none

def chkP (P : Program) (op : Op) (d : Option Tmp) (Tf : List AV) (hs : List (List AObj)) : Plan → Prop
  | .eff k => resR P (oneR P op Tf (hsAt hs k)) (hsAt hs k) (dval Tf d) (hsAt hs (k + 1))
  | .quiet ks => chkKs P op (dval Tf d) Tf hs ks

def isQuiet : Plan → Prop
  | .eff _ => False
  | .quiet _ => True

def undefD (T : List AV) : Option Tmp → Prop
  | some d => look T d = .tuple []
  | none => True

def chkG (P : Program) (w : Option Bool) (op : Op) (d : Option Tmp) (Tf : List AV) (hs : List (List AObj)) (p : Plan) : Prop :=
  match w with
  | some true => chkP P op d Tf hs p
  | some false => undefD Tf d ∧ isQuiet p
  | none => False

def chkR (P : Program) (l : List Oper) (hs : List (List AObj)) (Tf : List AV) : List Oper → List Plan → Prop
  | [], [] => True
  | o :: os, p :: ps => (match o.guard with
      | none => chkP P o.op o.dst Tf hs p
      | some (j, want) => chkG P (wantO Tf want (dstOf l j)) o.op o.dst Tf hs p) ∧ chkR P l hs Tf os ps
  | _, _ => False

/-- The walk in the text's order; the heaps behind the operations of E are kept. -/
def walkE (P : Program) (l : List Oper) (K : List AV → List (List AObj) → Prop) : List Oper → List Plan → List AV → List AObj → List (List AObj) → Prop
  | [], _, T, _, acc => K T acc
  | o :: os, p :: ps, T, H, acc =>
    let next : AV → List AObj → Prop := fun v H' =>
      match p with
      | .eff _ => walkE P l K os ps (put T o.dst v) H' (acc ++ [H'])
      | .quiet _ => walkE P l K os ps (put T o.dst v) H acc
    let go : Prop :=
      match oneR P o.op T H with
      | .ok c v H' => c ∧ next v H'
      | .call g args => ∃ v H', ACallG P g args H (fun x H'' => x = .ret v ∧ H'' = H') ∧ next v H'
      | _ => False
    match o.guard with
    | none => go
    | some (j, want) =>
      match wantO T want (dstOf l j) with
      | some true => go
      | some false => walkE P l K os ps (put T o.dst (.tuple [])) H acc
      | none => False
  | _, _, _, _, _ => False

section
/-- A call in a drawn row. -/
def callE (P : Program) (g : Gn) (args : List AV) (H : List AObj) (next : AV → List AObj → Prop) : Prop := ∃ v H', ACallG P g args H (fun x H'' => x = .ret v ∧ H'' = H') ∧ next v H'
def goE (P : Program) (r : R) (H : List AObj) (next : AV → List AObj → Prop) : Prop :=
  match r with
  | .ok c v H' => c ∧ next v H'
  | .call g args => callE P g args H next
  | _ => False
def nextE (P : Program) (l : List Oper) (K : List AV → List (List AObj) → Prop) (p : Plan) (os : List Oper) (ps : List Plan) (T : List AV) (d : Option Tmp) (H : List AObj) (acc : List (List AObj)) (v : AV) (H' : List AObj) : Prop :=
  match p with
  | .eff _ => walkE P l K os ps (put T d v) H' (acc ++ [H'])
  | .quiet _ => walkE P l K os ps (put T d v) H acc
def gdE (P : Program) (w : Option Bool) (op : Op) (T : List AV) (H : List AObj) (next : AV → List AObj → Prop) (no : Prop) : Prop :=
  match w with
  | some true => goE P (oneR P op T H) H next
  | some false => no
  | none => False
variable (P l K)
@[go_sem] theorem walkE_nil (ps : List Plan) (T : List AV) (H : List AObj) (acc : List (List AObj)) : walkE P l K [] ps T H acc = K T acc := _root_.id rfl
@[go_sem] theorem walkE_cons (d : Option Tmp) (op : Op) (ty : TypeId) (p : String) (af : Array Edge) (os : List Oper) (q : Plan) (ps : List Plan) (T : List AV) (H : List AObj) (acc : List (List AObj)) :
    walkE P l K (⟨d, op, ty, p, af, none⟩ :: os) (q :: ps) T H acc = goE P (oneR P op T H) H (nextE P l K q os ps T d H acc) := _root_.id rfl
@[go_sem] theorem walkE_guard (d : Option Tmp) (op : Op) (ty : TypeId) (p : String) (af : Array Edge) (j : Nat) (want : Bool) (os : List Oper) (q : Plan) (ps : List Plan) (T : List AV) (H : List AObj) (acc : List (List AObj)) :
    walkE P l K (⟨d, op, ty, p, af, some (j, want)⟩ :: os) (q :: ps) T H acc = gdE P (wantO T want (dstOf l j)) op T H (nextE P l K q os ps T d H acc) (walkE P l K os ps (put T d (.tuple [])) H acc) := _root_.id rfl
@[go_sem] theorem goE_ok (c : Prop) (v : AV) (H' H : List AObj) (next : AV → List AObj → Prop) : goE P (.ok c v H') H next = (c ∧ next v H') := _root_.id rfl
@[go_sem] theorem goE_call (g : Gn) (args : List AV) (H : List AObj) (next : AV → List AObj → Prop) : goE P (.call g args) H next = callE P g args H next := _root_.id rfl
@[go_sem] theorem nextE_eff (k : Nat) (os : List Oper) (ps : List Plan) (T : List AV) (d : Option Tmp) (H : List AObj) (acc : List (List AObj)) (v : AV) (H' : List AObj) : nextE P l K (.eff k) os ps T d H acc v H' = walkE P l K os ps (put T d v) H' (acc ++ [H']) := _root_.id rfl
@[go_sem] theorem nextE_quiet (ks : List Nat) (os : List Oper) (ps : List Plan) (T : List AV) (d : Option Tmp) (H : List AObj) (acc : List (List AObj)) (v : AV) (H' : List AObj) : nextE P l K (.quiet ks) os ps T d H acc v H' = walkE P l K os ps (put T d v) H acc := _root_.id rfl
@[go_sem] theorem gdE_true (op : Op) (T : List AV) (H : List AObj) (next : AV → List AObj → Prop) (no : Prop) : gdE P (some true) op T H next no = goE P (oneR P op T H) H next := _root_.id rfl
@[go_sem] theorem gdE_false (op : Op) (T : List AV) (H : List AObj) (next : AV → List AObj → Prop) (no : Prop) : gdE P (some false) op T H next no = no := _root_.id rfl
end

theorem walkE_ex {P : Program} {l : List Oper} {K : List AV → List (List AObj) → Prop} : ∀ {os : List Oper} {ps : List Plan} {T : List AV} {H : List AObj} {acc : List (List AObj)}, walkE P l K os ps T H acc → ∃ Tf hs, K Tf hs
  | [], _, T, _, acc, h => ⟨T, acc, h⟩
  | ⟨d, op, ty, p, af, g⟩ :: os, q :: ps, T, H, acc, h => by
    have next : ∀ v H', nextE P l K q os ps T d H acc v H' → ∃ Tf hs, K Tf hs := by
      intro v H' h
      unfold nextE at h
      cases q <;> exact walkE_ex h
    have go : goE P (oneR P op T H) H (nextE P l K q os ps T d H acc) → ∃ Tf hs, K Tf hs := by
      intro h
      unfold goE at h
      split at h
      · exact next _ _ h.2
      · obtain ⟨v, H', _, h2⟩ := h
        exact next _ _ h2
      · exact h.elim
    cases g with
    | none => rw [walkE_cons] at h; exact go h
    | some g =>
      obtain ⟨j, want⟩ := g
      rw [walkE_guard] at h
      unfold gdE at h
      split at h
      · exact go h
      · exact walkE_ex h
      · exact h.elim
  | _ :: _, [], _, _, _, h => by simp only [walkE] at h

theorem resR_one {P : Program} {o : Oper} {T : List AV} {H H' : List AObj} {w : Option AV} (h : resR P (oneR P o.op T H) H w H') : ∃ v, wIs w v ∧ oneK P o T H (fun x H'' => x = v ∧ H'' = H') (fun _ _ => False) := by
  cases hr : oneR P o.op T H with
  | ok c v H'' =>
    rw [hr] at h
    obtain ⟨h1, h2, h3⟩ := h
    refine ⟨v, h2, oneR_sound ?_⟩
    rw [hr]
    exact ⟨h1, rfl, h3⟩
  | call g args =>
    rw [hr] at h
    obtain ⟨v, h1, h2⟩ := h
    refine ⟨v, h2, oneR_sound ?_⟩
    rw [hr]
    exact h1.mono (fun x H'' ⟨a, b⟩ => by subst a b; exact ⟨rfl, rfl⟩)
  | any c v u H'' => rw [hr] at h; exact h.elim
  | no => rw [hr] at h; exact h.elim

theorem resR_cong {P : Program} {o : Oper} {T : List AV} {H H' : List AObj} {v : AV} {d : Tmp} (h : resR P (oneR P o.op T H) H (some (look T d)) H') : oneK P o T H (fun x H'' => x = look T d ∧ H'' = H') (fun _ _ => False) := by
  obtain ⟨v, h1, h2⟩ := resR_one h
  obtain rfl := h1
  exact h2

theorem oneK_any {P : Program} {o : Oper} {T : List AV} {H H' : List AObj} (h : resR P (oneR P o.op T H) H none H') : ∃ v, oneK P o T H (fun x H'' => x = v ∧ H'' = H') (fun _ _ => False) := by
  obtain ⟨v, _, h2⟩ := resR_one h
  exact ⟨v, h2⟩

theorem chkR_chkL {P : Program} {l : List Oper} {E : List Nat} {hs : List (List AObj)} {Tf : List AV} (hd : ∀ (i : Nat) (o : Oper), l[i]? = some o → o.dst = none → (E.findIdx? (· == i)).isSome = true) :
    ∀ (os : List Oper) (i : Nat) (ps : List Plan), l.drop i = os → ps = ((List.range l.length).map (planOf l.toArray E)).drop i → chkR P l hs Tf os ps → chkL P l.toArray E hs Tf os i
  | [], i, ps, _, _, h => trivial
  | o :: os, i, ps, hos, hps, h => by
    have hlt : i < l.length := by
      rcases Nat.lt_or_ge i l.length with h' | h'
      · exact h'
      · rw [List.drop_eq_nil_of_le h'] at hos; cases hos
    have hoi : l[i]? = some o := by
      have : (l.drop i)[0]? = some o := by rw [hos]; rfl
      rw [List.getElem?_drop] at this
      simpa using this
    have hps2 : ps = planOf l.toArray E i :: ((List.range l.length).map (planOf l.toArray E)).drop (i + 1) := by
      rw [hps, List.drop_eq_getElem_cons (by simpa using hlt)]
      simp
    subst hps2
    obtain ⟨h1, h2⟩ := h
    refine ⟨?_, chkR_chkL hd os (i + 1) _ ?_ rfl h2⟩
    · have key : chkP P o.op o.dst Tf hs (planOf l.toArray E i) → ∃ v, dstIs o Tf v ∧
          match E.findIdx? (· == i) with
          | some k => oneK P o Tf (hs.getD k []) (fun x H' => x = v ∧ H' = hs.getD (k + 1) []) (fun _ _ => False)
          | none => ∀ k, loE l.toArray E i ≤ k → k ≤ hiE l.toArray E i → oneK P o Tf (hs.getD k []) (fun x H' => x = v ∧ H' = hs.getD k []) (fun _ _ => False) := by
        intro hk
        unfold planOf at hk
        cases hf : E.findIdx? (· == i) with
        | some k =>
          rw [hf] at hk
          simp only [chkP] at hk
          unfold dstIs
          cases hds : o.dst with
          | none =>
            rw [hds] at hk
            obtain ⟨v, hv⟩ := oneK_any hk
            exact ⟨v, trivial, hv⟩
          | some d =>
            rw [hds] at hk
            exact ⟨look Tf d, rfl, resR_cong (v := look Tf d) hk⟩
        | none =>
          rw [hf] at hk
          simp only [chkP] at hk
          unfold dstIs
          cases hds : o.dst with
          | none => exact absurd (hd i o hoi hds) (by rw [hf]; simp)
          | some d =>
            rw [hds] at hk
            refine ⟨look Tf d, rfl, fun k hk1 hk2 => resR_cong (v := look Tf d) (chkKs_spec hk k ?_)⟩
            simp only [List.mem_filter, List.mem_range, Bool.and_eq_true, decide_eq_true_eq]
            refine ⟨?_, hk1, hk2⟩
            have : hiE l.toArray E i ≤ E.length := List.length_filter_le _ _
            omega
      unfold chkOne chkV
      obtain ⟨d, op, ty, p, af, g⟩ := o
      cases g with
      | none => exact key h1
      | some g =>
        obtain ⟨j, want⟩ := g
        simp only [wantedA_some]
        simp only at h1
        unfold chkG at h1
        cases hw : wantO Tf want (dstOf l j) with
        | none => rw [hw] at h1; exact h1.elim
        | some b =>
          rw [hw] at h1
          cases b with
          | true => exact key h1
          | false =>
            refine ⟨?_, ?_⟩
            · have := h1.1
              unfold dstIs
              cases d with
              | none => trivial
              | some d => exact this
            · have := h1.2
              unfold planOf at this
              cases hf : E.findIdx? (· == i) with
              | some k => rw [hf] at this; exact this.elim
              | none => rfl
    · have : (l.drop i).drop 1 = os := by rw [hos]; rfl
      rwa [List.drop_drop] at this
termination_by os => os.length

def dstAll (ops : Array Oper) (E : List Nat) : Bool := (List.range ops.size).all fun i => match ops[i]? with | some o => o.dst.isSome || (E.findIdx? (· == i)).isSome | none => true

/-- Slots that no operation puts are as they were. -/
def keepT (ds : List Nat) : Nat → List AV → List AV → Prop
  | _, [], [] => True
  | n, x :: l, y :: l' => (ds.contains n = true ∨ y = x) ∧ keepT ds (n + 1) l l'
  | _, _, _ => False

theorem keepT.spec {ds : List Nat} : ∀ {n : Nat} {l l' : List AV}, keepT ds n l l' → l'.length = l.length ∧ ∀ t, ds.contains (n + t) = false → look l' t = look l t
  | _, [], [], _ => ⟨rfl, fun t _ => rfl⟩
  | n, x :: l, y :: l', ⟨h1, h2⟩ => by
    obtain ⟨g1, g2⟩ := keepT.spec h2
    refine ⟨by simp [g1], fun t ht => ?_⟩
    cases t with
    | zero =>
      rcases h1 with h1 | h1
      · rw [Nat.add_zero] at ht; rw [h1] at ht; cases ht
      · exact h1
    | succ t => simp only [look]; exact g2 t (by rw [show n + 1 + t = n + (t + 1) by omega]; exact ht)
  | _, [], _ :: _, h => h.elim
  | _, _ :: _, [], h => h.elim

def allLe (m : Nat) : List (List AObj) → Prop
  | [] => True
  | H :: hs => m ≤ H.length ∧ allLe m hs

theorem allLe.spec {m : Nat} : ∀ {hs : List (List AObj)}, allLe m hs → ∀ k, k < hs.length → m ≤ (hs.getD k []).length
  | [], _, k, h => by simp at h
  | H :: hs, ⟨h1, h2⟩, k, h => by
    cases k with
    | zero => simpa using h1
    | succ k => simpa using allLe.spec h2 k (by simpa using h)

theorem awp_region_e {rd : Bool} {P : Program} {m id : Nat} {Q : AExit → AState → Prop} {l : List Oper} {T : List AV} {H : List AObj} (E : List Nat) (pl : List Plan) (ds : List Nat) (hmix : P.follows .mixedOrders = true) (hok : drawOK l.toArray E = true)
    (hpl : planOK l.toArray E pl = true) (hds : dstAll l.toArray E = true) (hin : (l.toArray.toList.filterMap (·.dst)) = ds) (hnd : decide E.Nodup = true)
    (h : walkE P l (fun Tf hs => chkR P l hs Tf l pl ∧ keepT ds 0 T Tf ∧ hsAt hs 0 = H ∧ hs.length = E.length + 1 ∧ allLe m hs ∧ Q .normal ⟨Tf, hsAt hs E.length⟩) l pl T H [H]) : AWP P rd m (.region id l.toArray true) Q ⟨T, H⟩ := by
  obtain ⟨Tf, hs, h1, h2, h3, h4, h5, h6⟩ := walkE_ex h
  obtain ⟨k1, k2⟩ := h2.spec
  refine awp_region_draw E hs Tf hmix hok h3 k1 ?_ ?_ ?_ (of_decide_eq_true hnd) h6
  · intro t ht hno
    refine k2 t ?_
    rw [Nat.zero_add, ← hin]
    rw [← Bool.not_eq_true, List.contains_iff_mem, List.mem_filterMap]
    rintro ⟨o, ho, hod⟩
    obtain ⟨j, hj⟩ := List.getElem?_of_mem ho
    exact hno j o (by simpa using hj) hod
  · refine chkR_chkL ?_ l 0 pl rfl ?_ h1
    · intro i o hio hno
      have := (List.all_eq_true.1 hds) i (List.mem_range.2 (by simpa using lt_of_get hio))
      simpa [hio, hno] using this
    · simpa [planOK] using hpl
  · intro k hk
    exact h5.spec k (by omega)

section
variable (P : Program) (l : List Oper)
@[go_sem] theorem chkR_nil (hs : List (List AObj)) (Tf : List AV) : chkR P l hs Tf [] [] = True := _root_.id rfl
@[go_sem] theorem chkR_cons (d : Option Tmp) (op : Op) (ty : TypeId) (p : String) (af : Array Edge) (os : List Oper) (q : Plan) (ps : List Plan) (hs : List (List AObj)) (Tf : List AV) :
    chkR P l hs Tf (⟨d, op, ty, p, af, none⟩ :: os) (q :: ps) = (chkP P op d Tf hs q ∧ chkR P l hs Tf os ps) := _root_.id rfl
@[go_sem] theorem chkR_guard (d : Option Tmp) (op : Op) (ty : TypeId) (p : String) (af : Array Edge) (j : Nat) (want : Bool) (os : List Oper) (q : Plan) (ps : List Plan) (hs : List (List AObj)) (Tf : List AV) :
    chkR P l hs Tf (⟨d, op, ty, p, af, some (j, want)⟩ :: os) (q :: ps) = (chkG P (wantO Tf want (dstOf l j)) op d Tf hs q ∧ chkR P l hs Tf os ps) := _root_.id rfl
@[go_sem] theorem chkG_true (op : Op) (d : Option Tmp) (Tf : List AV) (hs : List (List AObj)) (p : Plan) : chkG P (some true) op d Tf hs p = chkP P op d Tf hs p := _root_.id rfl
@[go_sem] theorem chkG_false (op : Op) (d : Option Tmp) (Tf : List AV) (hs : List (List AObj)) (p : Plan) : chkG P (some false) op d Tf hs p = (undefD Tf d ∧ isQuiet p) := _root_.id rfl
@[go_sem] theorem chkP_eff (op : Op) (d : Option Tmp) (Tf : List AV) (hs : List (List AObj)) (k : Nat) : chkP P op d Tf hs (.eff k) = resR P (oneR P op Tf (hsAt hs k)) (hsAt hs k) (dval Tf d) (hsAt hs (k + 1)) := _root_.id rfl
@[go_sem] theorem chkP_quiet (op : Op) (d : Option Tmp) (Tf : List AV) (hs : List (List AObj)) (ks : List Nat) : chkP P op d Tf hs (.quiet ks) = chkKs P op (dval Tf d) Tf hs ks := _root_.id rfl
@[go_sem] theorem chkKs_nil (op : Op) (d : Option AV) (Tf : List AV) (hs : List (List AObj)) : chkKs P op d Tf hs [] = True := _root_.id rfl
@[go_sem] theorem chkKs_cons (op : Op) (d : Option AV) (Tf : List AV) (hs : List (List AObj)) (k : Nat) (ks : List Nat) : chkKs P op d Tf hs (k :: ks) = (resR P (oneR P op Tf (hsAt hs k)) (hsAt hs k) d (hsAt hs k) ∧ chkKs P op d Tf hs ks) := _root_.id rfl
@[go_sem] theorem resR_ok (c : Prop) (v : AV) (H H' H'' : List AObj) (w : Option AV) : resR P (.ok c v H'') H w H' = (c ∧ wIs w v ∧ H'' = H') := _root_.id rfl
@[go_sem] theorem resR_call (g : Gn) (args : List AV) (H H' : List AObj) (w : Option AV) : resR P (.call g args) H w H' = callR P g args H w H' := _root_.id rfl
end
@[go_sem] theorem wIs_some (u v : AV) : wIs (some u) v = (u = v) := _root_.id rfl
@[go_sem] theorem wIs_none (v : AV) : wIs none v = True := _root_.id rfl
@[go_sem] theorem dval_some (T : List AV) (d : Tmp) : dval T (some d) = some (look T d) := _root_.id rfl
@[go_sem] theorem dval_none (T : List AV) : dval T none = none := _root_.id rfl
@[go_sem] theorem undefD_some (T : List AV) (d : Tmp) : undefD T (some d) = (look T d = .tuple []) := _root_.id rfl
@[go_sem] theorem undefD_none (T : List AV) : undefD T none = True := _root_.id rfl
@[go_sem] theorem isQuiet_quiet (ks : List Nat) : isQuiet (.quiet ks) = True := _root_.id rfl
@[go_sem] theorem hsAt_zero (H : List AObj) (hs : List (List AObj)) : hsAt (H :: hs) 0 = H := _root_.id rfl
@[go_sem] theorem hsAt_succ (H : List AObj) (hs : List (List AObj)) (k : Nat) : hsAt (H :: hs) (k + 1) = hsAt hs k := _root_.id rfl
@[go_sem] theorem keepT_nil (ds : List Nat) (n : Nat) : keepT ds n [] [] = True := _root_.id rfl
@[go_sem] theorem keepT_cons (ds : List Nat) (n : Nat) (x y : AV) (l l' : List AV) : keepT ds n (x :: l) (y :: l') = ((ds.contains n = true ∨ y = x) ∧ keepT ds (n + 1) l l') := _root_.id rfl
@[go_sem] theorem allLe_nil (m : Nat) : allLe m [] = True := _root_.id rfl
@[go_sem] theorem allLe_cons (m : Nat) (H : List AObj) (hs : List (List AObj)) : allLe m (H :: hs) = (m ≤ H.length ∧ allLe m hs) := _root_.id rfl

theorem isNE {P : Program} {l : List Oper} {K : List AV → List (List AObj) → Prop} {p : Plan} {os : List Oper} {ps : List Plan} {T : List AV} {d : Option Tmp} {H : List AObj} {acc : List (List AObj)} {v : AV} {H' : List AObj} (h : nextE P l K p os ps T d H acc v H') : nextE P l K p os ps T d H acc v H' := h
theorem isWE {P : Program} {l : List Oper} {K : List AV → List (List AObj) → Prop} {os : List Oper} {ps : List Plan} {T : List AV} {H : List AObj} {acc : List (List AObj)} (h : walkE P l K os ps T H acc) : walkE P l K os ps T H acc := h
theorem callE_quiet {P : Program} {g : FuncId} {args : List AV} {H : List AObj} {v : AV} {next : AV → List AObj → Prop} (h : QuietF P g args H v) (hk : next v H) : callE P (.f g) args H next := ⟨v, H, h, hk⟩
theorem callE_new {P : Program} {g : FuncId} {args : List AV} {H : List AObj} {v : AV} {L : List AObj} {next : AV → List AObj → Prop} (h : NewF P g args H v L) (hk : next v (H ++ L)) : callE P (.f g) args H next := ⟨v, H ++ L, h, hk⟩
theorem callR_quiet {P : Program} {g : FuncId} {args : List AV} {H : List AObj} {v u : AV} (h : QuietF P g args H v) (hu : u = v) : callR P (.f g) args H (some u) H := ⟨v, h, hu⟩
theorem callR_new {P : Program} {g : FuncId} {args : List AV} {H H' : List AObj} {v u : AV} {L : List AObj} (h : NewF P g args H v L) (hu : u = v) (hH : H ++ L = H') : callR P (.f g) args H (some u) H' := ⟨v, hH ▸ h, hu⟩

end Go.Proofs.Ytamoclnnakdiaaa.Abs
