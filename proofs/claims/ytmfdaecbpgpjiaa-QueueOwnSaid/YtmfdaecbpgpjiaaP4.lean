/- The calculus and the walks, part 4: DenRun, DenDop2, DenDop3, DenClose, DenClose2, Q15Tb, Q15A, Q15B, Q15C. -/
import Derived.Test.YtmfdaecbpgpjiaaP3
import Derived.Laws.Cover3
import Derived.Below
import Derived.OpenShut
import Derived.ChangeArms
import Derived.WideShapes
import Derived.Test.YtmfdaecbpgpjiaaProg
/- A machine that runs a function's code over what is known, as far as it tells. -/
namespace Go.Den
open Go
set_option linter.unusedSectionVars false
set_option linter.unusedSimpArgs false
set_option linter.unusedVariables false

/-- What is still to be done. -/
inductive It where
  | c (code : Code)
  | r (full l : List Oper)
  | o (full : List Oper) (ts : List Nat) (ord : List (Nat × Bool))
  | b (id : Nat)

def VX (C : Cx) (Q : Post) : List It → X → Env → List Blk → Prop
  | [], x, e, s => Q x e s
  | .c code :: k, .nrm, e, s => V C code e s (fun x e s => VX C Q k x e s)
  | .r full l :: k, .nrm, e, s => VL C full.toArray l e s (fun x e s => VX C Q k x e s)
  | .o full ts ord :: k, .nrm, e, s => VO C full ts ord e s (fun x e s => VX C Q k x e s)
  | .b id :: k, .ext j, e, s => match Nat.beq j id with
    | true => VX C Q k .nrm e s
    | false => VX C Q k (.ext j) e s
  | _ :: k, x, e, s => VX C Q k x e s

/-- What a function that is handed data, and hands back data, answers. -/
structure Kon where
  pts : List TypeId
  rts : List TypeId
  f : List E → Option (Prop × List E)
structure Kit where
  bk : List Nat
  dx : Cx → Env → List Blk → Oper → Option DR
  fs : List (FuncId × Kon)
def kok (P : Program) (tb : Tab) : List (FuncId × Kon) → Prop
  | [] => True
  | (f, k) :: r => (∀ args p rs, k.f args = some (p, rs) → p → FnOk P tb f k.pts k.rts args rs) ∧ kok P tb r
def kget : List (FuncId × Kon) → FuncId → Option Kon
  | [], _ => none
  | (g, k) :: r, f => match Nat.beq g f with
    | true => some k
    | false => kget r f
structure KitOk (P : Program) (tb : Tab) (K : Kit) : Prop where
  dx : ∀ (C : Cx), C.P = P → C.tb = tb → Ok C → ∀ env σ o r, K.dx C env σ o = some r → r.p → OpOk C o env σ r
  fs : kok P tb K.fs
theorem kget_ok {P : Program} {tb : Tab} : ∀ {l : List (FuncId × Kon)} {f : FuncId} {k : Kon}, kok P tb l → kget l f = some k → ∀ args p rs, k.f args = some (p, rs) → p → FnOk P tb f k.pts k.rts args rs
  | [], _, _, _, h => by cases h
  | (g, k) :: r, f, k', hk, h => by
    simp only [kget] at h
    split at h
    · rename_i hb; cases h; have := Nat.eq_of_beq_eq_true hb; subst this; exact hk.1
    · exact kget_ok hk.2 h

def trivB (C : Cx) (op : BinOp) (xt : TypeId) : Bool := match op with
  | .eql | .neq | .lss | .leq | .gtr | .geq | .sub | .mul | .and | .or | .xor | .andNot => true
  | .add => match td C.tb xt with
    | .int _ => true
    | _ => false
  | _ => false
/-- What an operation does; whether its terms are plain. -/
def triv (C : Cx) (o : Oper) : Bool := match o.op with
  | .move _ | .assign _ | .pick _ _ _ | .extract _ _ | .alloc _ | .box _ _ | .build _ _ | .buildSlice _ _ _ | .load _ _ | .store _ _ _ | .nilCheck _ | .convert _ _ _ | .unOp _ _ _ | .fieldAddr _ _ _ | .field _ _ _ => true
  | .call { callee := .builtin .len, args := _, argTypes := _ } => true
  | .binOp op xt _ _ _ => trivB C op xt
  | _ => false
structure OS where
  ps : List Prop
  d : D
  s : List Blk
def allP : List Prop → Prop
  | [] => True
  | p :: r => match r with
    | [] => p
    | q :: r' => p ∧ allP (q :: r')
theorem allP_cons {p : Prop} {r : List Prop} (h : allP (p :: r)) : p ∧ allP r := by
  cases r with
  | nil => exact ⟨h, trivial⟩
  | cons q r => exact h
def callOf : Op → Option (FuncId × List Operand)
  | .call { callee := .value (.func f), args := ⟨xs⟩, argTypes := _ } => some (f, xs)
  | _ => none
def stops : List Nat → Option Tmp → Bool
  | [], _ => false
  | _ :: _, none => false
  | i :: r, some t => match Nat.beq i t with
    | true => true
    | false => stops r (some t)
def opS (K : Kit) (C : Cx) (env : Env) (σ : List Blk) (o : Oper) (ps : List Prop) : Option OS :=
  match stops K.bk o.dst with
  | true => none
  | false => match callOf o.op with
    | some (f, xs) => match kget K.fs f with
      | some k => match argsE C.tb env k.pts xs with
        | some args => match k.f args with
          | some (p, rs) => some ⟨p :: ps, retD k.rts rs, σ⟩
          | none => none
        | none => none
      | none => none
    | none => match dop C env σ o with
      | some ⟨p, d, s⟩ => match triv C o with
        | true => some ⟨ps, d, s⟩
        | false => some ⟨p :: ps, d, s⟩
      | none => match K.dx C env σ o with
        | some ⟨p, d, s⟩ => some ⟨p :: ps, d, s⟩
        | none => none

theorem triv_bin {C : Cx} {env σ rt op xt x y yt p d s} (h : dBin C env σ rt op xt x y yt = some ⟨p, d, s⟩)
    (ht : trivB C op xt = true) : p := by
  unfold trivB at ht
  unfold dBin at h
  cases op <;> simp only [] at ht <;> try (cases ht)
  all_goals (repeat' split at h)
  all_goals first
    | (cases h; done)
    | (cases h; first | trivial | (simp [arithP]; done) | (exfalso; simp_all; done) | simp_all)
theorem triv_p {C : Cx} {env σ o p d s} (h : dop C env σ o = some ⟨p, d, s⟩) (ht : triv C o = true) : p := by
  unfold triv at ht
  unfold dop at h
  split at h <;> rename_i ho <;> simp only [ho] at ht <;> try (cases ht)
  case h_8 => 
    unfold dLoad at h
    repeat' split at h
    all_goals first | (cases h; trivial) | cases h
  case h_9 =>
    unfold dStore at h
    repeat' split at h
    all_goals first | (rw [setK_eq] at h; cases h; trivial) | cases h
  case h_11 => exact triv_bin h ht
  case h_12 =>
    unfold dUn at h
    repeat' split at h
    all_goals first | (cases h; trivial) | cases h
  case h_15 =>
    unfold dFieldAddr at h
    repeat' split at h
    all_goals first | (cases h; trivial) | (simp only [litK_eq, appK_eq, pathK] at h; cases h; trivial) | cases h
  case h_16 =>
    unfold dField at h
    repeat' split at h
    all_goals first | (cases h; trivial) | cases h
  case h_20 =>
    unfold dLen at h
    repeat' split at h
    all_goals first | (cases h; trivial) | cases h
  all_goals (repeat' split at h)
  all_goals first | (cases h; trivial) | (rw [litK_eq, appK_eq] at h; cases h; trivial) | cases h

def isCall (o : Oper) : Bool := match callOf o.op with
  | some _ => true
  | none => false
theorem callOf_some {op : Op} {f : FuncId} {xs : List Operand} (h : callOf op = some (f, xs)) : ∃ tys, op = .call { callee := .value (.func f), args := ⟨xs⟩, argTypes := tys } := by
  unfold callOf at h
  split at h
  · cases h; exact ⟨_, rfl⟩
  · cases h
theorem isVal_call {o : Oper} (h : isVal o.op = true) : isCall o = false := by
  unfold isCall
  cases hc : callOf o.op with
  | none => rfl
  | some p =>
    obtain ⟨f, xs⟩ := p
    obtain ⟨tys, ho⟩ := callOf_some hc
    rw [ho] at h; simp [isVal] at h

theorem OpF_callE {C : Cx} (hC : Ok C) {o : Oper} {env : Env} {σ : List Blk} {ts : List Nat} {f : FuncId} {xs : Array Operand} {tys : Array TypeId} {pts rts : List TypeId} {args rs : List E} (ho : o.op = .call { callee := .value (.func f), args := xs, argTypes := tys })
    (hx : argsE C.tb env pts xs.toList = some args) (h : FnOk C.P C.tb f pts rts args rs) : OpF C o env σ ts (fun d s => d = retD rts rs ∧ s = σ) := by
  intro H β a w hr he hd K Qx hK
  obtain ⟨⟨fn, hf, hn, hb⟩, hal, hcall⟩ := h
  obtain ⟨l1, l2, l3⟩ := argsE_rel hC he hx
  have hrun : (execOp a.eval o).run C.P w = .ok (.enter f (xs.map a.eval)) w := by
    simp [execOp, ho, resolve, Act.eval, Deferred.ofValue, invoke, run_callFunc hf hn hb]
  simp only [Oper.wp, hrun, Oper.upon]
  have hargs : ArgsAt C.tb (strip H) [] [] (xs.map a.eval) (typed pts args) := by
    refine ⟨⟨by rw [typed_length l1]; simpa using l2, he.1.2.mono fun _ _ _ e => strip_pers.2 e⟩, fun i v d hv hd => ?_⟩
    simp only [Array.getElem?_map, Option.map_eq_some_iff] at hv
    obtain ⟨x, hx, rfl⟩ := hv
    exact l3 i x d (by simpa using hx) hd
  refine (hcall (strip H) w _ ⟨fun b o v e => hr.pers b o v (strip_pers.1 e), fun b o e => hr.dom b o fun h0 => e (by simp [strip, h0])⟩ (fun _ _ _ => strip_mine) hargs).mono ?_
  rintro e w' ⟨v, H', rfl, hb', hv', hs⟩
  obtain ⟨k1, k2, k3, k4⟩ := hr.after hb' hs
  refine hK v _ w' _ β σ ⟨rfl, rfl⟩ k1 (hv'.lift0 β σ k4) k2 k3 fun b o' u hu hst => ?_
  have hlt : b < w.heap.size := by
    rcases hst with ⟨x, hx⟩ | ⟨i, _, hi⟩
    · exact hr.dom b o' (by rw [hx]; simp)
    · exact hr.dom b o' (by rw [hi]; simp)
  refine ⟨(hs.cell b hlt o' fun _ => strip_mine).trans hu, ?_⟩
  simp only [merge, hlt, if_true]; exact hst

theorem opS_ok {K : Kit} {C : Cx} (hK : KitOk C.P C.tb K) (hC : Ok C) {env : Env} {σ : List Blk} {o : Oper} {ps : List Prop} {r : OS} (h : opS K C env σ o ps = some r) (hp : allP r.ps) :
    allP ps ∧ (isCall o = false → OpOk C o env σ ⟨True, r.d, r.s⟩) ∧ (isCall o = true → ∀ ts, OpF C o env σ ts (fun d s => d = r.d ∧ s = r.s)) := by
  unfold opS at h
  split at h
  · cases h
  split at h
  · rename_i f xs hc
    obtain ⟨tys, ho⟩ := callOf_some hc
    split at h
    · rename_i k hk
      split at h
      · rename_i args hx
        split at h
        · rename_i p rs hrs
          cases h
          obtain ⟨h1, h2⟩ := allP_cons hp
          exact ⟨h2, fun hn => by simp [isCall, hc] at hn, fun _ ts => OpF_callE hC ho hx (kget_ok hK.fs hk args p rs hrs h1)⟩
        · cases h
      · cases h
    · cases h
  · rename_i hc
    have hnc : isCall o ≠ true := by simp [isCall, hc]
    split at h
    · rename_i p d s hd
      split at h
      · rename_i ht; cases h; have := dop_ok hC hd (triv_p hd ht); exact ⟨hp, fun _ => ⟨this.v, this.val⟩, fun h => absurd h hnc⟩
      · cases h
        obtain ⟨h1, h2⟩ := allP_cons hp
        have := dop_ok hC hd h1; exact ⟨h2, fun _ => ⟨this.v, this.val⟩, fun h => absurd h hnc⟩
    · split at h
      · rename_i p d s hd
        cases h
        obtain ⟨h1, h2⟩ := allP_cons hp
        have := hK.dx C rfl rfl hC _ _ _ _ hd h1; exact ⟨h2, fun _ => ⟨this.v, this.val⟩, fun h => absurd h hnc⟩
      · cases h
theorem opS_v {K : Kit} {C : Cx} (hK : KitOk C.P C.tb K) (hC : Ok C) {env : Env} {σ : List Blk} {o : Oper} {ps : List Prop} {r : OS} (h : opS K C env σ o ps = some r) (hp : allP r.ps) :
    allP ps ∧ OpV C o env σ (fun d s => d = r.d ∧ s = r.s) := by
  obtain ⟨h1, h2, h3⟩ := opS_ok hK hC h hp
  refine ⟨h1, ?_⟩
  cases hc : isCall o with
  | true => exact (h3 hc []).v
  | false => exact (h2 hc).v

structure Out where
  ps : List Prop
  k : List It
  x : X
  e : Env
  s : List Blk

def unw (id : Nat) : List It → Option (List It)
  | [] => none
  | .b j :: k => match Nat.beq id j with
    | true => some k
    | false => unw id k
  | _ :: k => unw id k

def tyK {α : Type _} (o : Oper) (k : TypeId → α) : α := match o with
  | ⟨_, _, ty, _, _, _⟩ => k ty
theorem tyK_eq {α : Type _} (o : Oper) (k : TypeId → α) : tyK o k = k o.type := by cases o; rfl
/-- A datum put into a temporary, written out. -/
def putK {α : Type _} (t : Nat) (d : D) (type : TypeId) (e : Env) (k : Env → α) : α := match d with
  | .t ty x => match Nat.beq ty type with
    | true => match x with
      | .e y => k ((t, .t type (.e y)) :: e)
      | .st xs => k ((t, .t type (.st xs)) :: e)
      | .nsl => k ((t, .t type .nsl) :: e)
      | .bsl xs => k ((t, .t type (.bsl xs)) :: e)
      | .lsl i xs => k ((t, .t type (.lsl i xs)) :: e)
      | .ptr i p => k ((t, .t type (.ptr i p)) :: e)
      | .fn f c => k ((t, .t type (.fn f c)) :: e)
      | .msl i n => k ((t, .t type (.msl i n)) :: e)
      | .tsl xs => k ((t, .t type (.tsl xs)) :: e)
      | .mp i => k ((t, .t type (.mp i)) :: e)
    | false => match x with
      | .e y => k ((t, .t ty (.e y)) :: e)
      | .st xs => k ((t, .t ty (.st xs)) :: e)
      | .nsl => k ((t, .t ty .nsl) :: e)
      | .bsl xs => k ((t, .t ty (.bsl xs)) :: e)
      | .lsl i xs => k ((t, .t ty (.lsl i xs)) :: e)
      | .ptr i p => k ((t, .t ty (.ptr i p)) :: e)
      | .fn f c => k ((t, .t ty (.fn f c)) :: e)
      | .msl i n => k ((t, .t ty (.msl i n)) :: e)
      | .tsl xs => k ((t, .t ty (.tsl xs)) :: e)
      | .mp i => k ((t, .t ty (.mp i)) :: e)
  | .kb ty b => match b with
    | true => k ((t, .kb ty true) :: e)
    | false => k ((t, .kb ty false) :: e)
  | .ptr i p => k ((t, .ptr i p) :: e)
  | .el u xs j p => k ((t, .el u xs j p) :: e)
  | .asl i p u o n => k ((t, .asl i p u o n) :: e)
  | .tup xs => k ((t, .tup xs) :: e)
  | .it i => k ((t, .it i) :: e)
  | .mel u i n j p => k ((t, .mel u i n j p) :: e)
  | .tel u xs j => k ((t, .tel u xs j) :: e)
  | .any => k ((t, .any) :: e)
theorem putK_eq {α : Type _} (t : Nat) (d : D) (type : TypeId) (e : Env) (k : Env → α) : putK t d type e k = k ((t, d) :: e) := by
  unfold putK
  split
  · split
    · rename_i hb; have := Nat.eq_of_beq_eq_true hb; subst this; split <;> rfl
    · split <;> rfl
  · split <;> rfl
  all_goals rfl

/-- Whether an operation may come up in a drawing region, taken first or alone. -/
def mayO (e : Env) (ts : List Nat) (o : Oper) (b : Bool) : Bool := match isVal o.op with
  | true => (rsOf e o.op).all fun j => !ts.contains j
  | false => isCall o && !b

def okB (full : List Oper) (i : Nat) (b : Bool) (ord : List (Nat × Bool)) : Bool := match b with
  | true => true
  | false => aloneB full ((i, false) :: ord)
theorem okB_al {full : List Oper} {i : Nat} {b : Bool} {ord : List (Nat × Bool)} (h : okB full i b ord = true) : b = false → aloneB full ((i, b) :: ord) = true := fun e => by subst e; exact h

def run (K : Kit) (C : Cx) : Nat → List Prop → List It → Env → List Blk → Out
  | 0, ps, k, e, s => ⟨ps, k, .nrm, e, s⟩
  | n + 1, ps, k, e, s => match k with
    | [] => ⟨ps, [], .nrm, e, s⟩
    | .b id :: k => run K C n ps k e s
    | .r full l :: k => match l with
      | [] => run K C n ps k e s
      | o :: l => match wants full e o with
        | some true => match opS K C e s o ps with
          | some ⟨ps', d, s'⟩ => match o.dst with
            | some t => match Nat.blt t C.n with
              | true => tyK o fun ty => putK t d ty e fun e' => run K C n ps' (.r full l :: k) e' s'
              | false => ⟨ps, .r full (o :: l) :: k, .nrm, e, s⟩
            | none => run K C n ps' (.r full l :: k) e s'
          | none => ⟨ps, .r full (o :: l) :: k, .nrm, e, s⟩
        | some false => match o.dst with
          | some t => match Nat.blt t C.n with
            | true => run K C n ps (.r full l :: k) ((t, .tup []) :: e) s
            | false => ⟨ps, .r full (o :: l) :: k, .nrm, e, s⟩
          | none => run K C n ps (.r full l :: k) e s
        | none => ⟨ps, .r full (o :: l) :: k, .nrm, e, s⟩
    | .o full ts ord :: k => match ord with
      | [] => run K C n ps k e s
      | (i, b) :: ord => match full[i]? with
        | some o => match wants full e o with
          | some true => match mayO e ts o b with
            | true => match opS K C e s o ps with
              | some ⟨ps', d, s'⟩ => match okB full i b ord with
                | true => match o.dst with
                  | some t => match Nat.blt t C.n with
                    | true => tyK o fun ty => putK t d ty e fun e' => run K C n ps' (.o full ts ord :: k) e' s'
                    | false => ⟨ps, .o full ts ((i, b) :: ord) :: k, .nrm, e, s⟩
                  | none => run K C n ps' (.o full ts ord :: k) e s'
                | false => ⟨ps, .o full ts ((i, b) :: ord) :: k, .nrm, e, s⟩
              | none => ⟨ps, .o full ts ((i, b) :: ord) :: k, .nrm, e, s⟩
            | false => ⟨ps, .o full ts ((i, b) :: ord) :: k, .nrm, e, s⟩
          | some false => match okB full i b ord with
            | true => match o.dst with
              | some t => match Nat.blt t C.n with
                | true => run K C n ps (.o full ts ord :: k) ((t, .tup []) :: e) s
                | false => ⟨ps, .o full ts ((i, b) :: ord) :: k, .nrm, e, s⟩
              | none => run K C n ps (.o full ts ord :: k) e s
            | false => ⟨ps, .o full ts ((i, b) :: ord) :: k, .nrm, e, s⟩
          | none => ⟨ps, .o full ts ((i, b) :: ord) :: k, .nrm, e, s⟩
        | none => ⟨ps, .o full ts ((i, b) :: ord) :: k, .nrm, e, s⟩
    | .c c :: k => match c with
      | .skip => run K C n ps k e s
      | .seq a b => run K C n ps (.c a :: .c b :: k) e s
      | .region id ⟨l⟩ false => run K C n ps (.r l l :: k) e s
      | .block id c => run K C n ps (.c c :: .b id :: k) e s
      | .cond (.tmp t) a b => match getD e t with
        | .kb _ true => run K C n ps (.c a :: k) e s
        | .kb _ false => run K C n ps (.c b :: k) e s
        | _ => ⟨ps, .c c :: k, .nrm, e, s⟩
      | .ret => ⟨ps, [], .ret, e, s⟩
      | .exit id => match unw id k with
        | some k' => run K C n ps k' e s
        | none => ⟨ps, [], .ext id, e, s⟩
      | c => ⟨ps, .c c :: k, .nrm, e, s⟩

section
variable {C : Cx} {env : Env} {σ : List Blk} {Q : Post}

theorem VX_ret : ∀ {k : List It} {e s}, Q .ret e s → VX C Q k .ret e s
  | [], _, _, h => h
  | .c _ :: k, _, _, h => VX_ret (k := k) h
  | .r _ _ :: k, _, _, h => VX_ret (k := k) h
  | .o _ _ _ :: k, _, _, h => VX_ret (k := k) h
  | .b _ :: k, _, _, h => VX_ret (k := k) h
theorem VX_unw {id : Nat} : ∀ {k k' : List It} {e s}, unw id k = some k' → VX C Q k' .nrm e s → VX C Q k (.ext id) e s
  | [], _, _, _, h, _ => by cases h
  | .b j :: k, k', e, s, h, hv => by
    simp only [unw] at h
    simp only [VX]
    cases hb : Nat.beq id j with
    | true => rw [hb] at h; cases h; exact hv
    | false => rw [hb] at h; exact VX_unw h hv
  | .c _ :: k, k', e, s, h, hv => VX_unw (k := k) (by simpa only [unw] using h) hv
  | .r _ _ :: k, k', e, s, h, hv => VX_unw (k := k) (by simpa only [unw] using h) hv
  | .o _ _ _ :: k, k', e, s, h, hv => VX_unw (k := k) (by simpa only [unw] using h) hv
theorem VX_unw0 {id : Nat} : ∀ {k : List It} {e s}, unw id k = none → Q (.ext id) e s → VX C Q k (.ext id) e s
  | [], _, _, _, hv => hv
  | .b j :: k, e, s, h, hv => by
    simp only [unw] at h
    simp only [VX]
    cases hb : Nat.beq id j with
    | true => rw [hb] at h; cases h
    | false => rw [hb] at h; exact VX_unw0 h hv
  | .c _ :: k, e, s, h, hv => VX_unw0 (k := k) (by simpa only [unw] using h) hv
  | .r _ _ :: k, e, s, h, hv => VX_unw0 (k := k) (by simpa only [unw] using h) hv
  | .o _ _ _ :: k, e, s, h, hv => VX_unw0 (k := k) (by simpa only [unw] using h) hv

theorem wants_false_put {l : List Oper} {o : Oper} {rest : List Oper} (hw : wants l env o = some false) (hn : dstOk C.n o.dst = true)
    (h : VL C l.toArray rest (putD env o.dst (.tup [])) σ Q) : VL C l.toArray (o :: rest) env σ Q := by
  intro H β a w hr he hd
  unfold wpList
  rw [wants_rel he hw]
  have hd' : (a.put o.dst undef).defers = [] := by cases o.dst <;> exact hd
  exact h H β (a.put o.dst undef) w hr (he.put .undef hn) hd'

theorem VL_wants {l : List Oper} {o : Oper} {rest : List Oper} {R : D → List Blk → Prop} (hw : wants l env o = some true) (hn : dstOk C.n o.dst = true)
    (h : OpV C o env σ R) (k : ∀ d σ', R d σ' → VL C l.toArray rest (putD env o.dst d) σ' Q) : VL C l.toArray (o :: rest) env σ Q :=
  VL_cons_wanted hn (fun H β a he => wants_rel he hw) h k

theorem VO_step {l : List Oper} {i : Nat} {b : Bool} {o : Oper} {ts : List Nat} {rest : List (Nat × Bool)} {r : OS} (hi : l[i]? = some o) (hw : wants l env o = some true) (hn : dstOk C.n o.dst = true) (hm : mayO env ts o b = true)
    (h2 : isCall o = false → OpOk C o env σ ⟨True, r.d, r.s⟩) (h3 : isCall o = true → ∀ ts, OpF C o env σ ts (fun d s => d = r.d ∧ s = r.s)) (hk : VO C l ts rest (putD env o.dst r.d) r.s Q) (hal : b = false → aloneB l ((i, b) :: rest) = true) : VO C l ts ((i, b) :: rest) env σ Q := by
  unfold mayO at hm
  split at hm
  · rename_i hval
    have hrs' : ∀ j ∈ rsOf env o.op, j ∉ ts := fun j hj hc => by
      have := List.all_eq_true.1 hm j hj
      simp [hc] at this
    exact VO_take hi hw hn (h2 (isVal_call hval)) hval hrs' hk b hal
  · simp only [Bool.and_eq_true] at hm
    have hb : b = false := by simpa using hm.2
    subst hb
    exact VO_one hi hw hn (h3 hm.1 ts) (fun d1 s1 ⟨a1, a2⟩ => by subst a1; subst a2; exact hk) (hal rfl)

theorem run_ok {K : Kit} (hK : KitOk C.P C.tb K) (hC : Ok C) : ∀ (n : Nat) (ps : List Prop) (k : List It) (e : Env) (s : List Blk) (r : Out), run K C n ps k e s = r →
    allP r.ps → VX C Q r.k r.x r.e r.s → allP ps ∧ VX C Q k .nrm e s := by
  intro n
  induction n with
  | zero => intro ps k e s r hr hp hv; subst hr; exact ⟨hp, hv⟩
  | succ n ih =>
    intro ps k e s r hr hp hv
    unfold run at hr
    split at hr
    · subst hr; exact ⟨hp, hv⟩
    · rename_i id k; exact ih ps k e s r hr hp hv
    · rename_i full l k
      split at hr
      · obtain ⟨h1, h2⟩ := ih _ _ _ _ _ hr hp hv; exact ⟨h1, VL_nil h2⟩
      · rename_i o l
        split at hr
        · rename_i hw
          split at hr
          · rename_i ps' d s' hop
            split at hr
            · rename_i t ht
              split at hr
              · rename_i hlt
                rw [tyK_eq, putK_eq] at hr
                obtain ⟨h1, h2⟩ := ih _ _ _ _ _ hr hp hv
                obtain ⟨h3, h4⟩ := opS_v hK hC hop h1
                refine ⟨h3, VL_wants hw (by simp [dstOk, ht, hlt]) h4 fun d1 s1 ⟨a1, a2⟩ => ?_⟩
                subst a1; subst a2; rw [ht]; exact h2
              · subst hr; exact ⟨hp, hv⟩
            · rename_i ht
              obtain ⟨h1, h2⟩ := ih _ _ _ _ _ hr hp hv
              obtain ⟨h3, h4⟩ := opS_v hK hC hop h1
              refine ⟨h3, VL_wants hw (by simp [dstOk, ht]) h4 fun d1 s1 ⟨a1, a2⟩ => ?_⟩
              subst a1; subst a2; rw [ht]; exact h2
          · subst hr; exact ⟨hp, hv⟩
        · rename_i hw
          split at hr
          · rename_i t ht
            split at hr
            · rename_i hlt
              obtain ⟨h1, h2⟩ := ih _ _ _ _ _ hr hp hv
              exact ⟨h1, wants_false_put hw (by simp [dstOk, ht, hlt]) (by rw [ht]; exact h2)⟩
            · subst hr; exact ⟨hp, hv⟩
          · rename_i ht
            obtain ⟨h1, h2⟩ := ih _ _ _ _ _ hr hp hv
            exact ⟨h1, wants_false_put hw (by simp [dstOk, ht]) (by rw [ht]; exact h2)⟩
        · subst hr; exact ⟨hp, hv⟩
    · rename_i full ts ord k
      split at hr
      · obtain ⟨h1, h2⟩ := ih _ _ _ _ _ hr hp hv; exact ⟨h1, VO_nil h2⟩
      · rename_i i b ord
        split at hr
        · rename_i o hi
          split at hr
          · rename_i hw
            split at hr
            · rename_i hm
              split at hr
              · rename_i ps' d s' hop
                split at hr
                · rename_i hob
                  split at hr
                  · rename_i t ht
                    split at hr
                    · rename_i hlt
                      rw [tyK_eq, putK_eq] at hr
                      obtain ⟨h1, h2⟩ := ih _ _ _ _ _ hr hp hv
                      obtain ⟨h3, h4, h5⟩ := opS_ok hK hC hop h1
                      exact ⟨h3, VO_step hi hw (by simp [dstOk, ht, hlt]) hm h4 h5 (by rw [ht]; exact h2) (okB_al hob)⟩
                    · subst hr; exact ⟨hp, hv⟩
                  · rename_i ht
                    obtain ⟨h1, h2⟩ := ih _ _ _ _ _ hr hp hv
                    obtain ⟨h3, h4, h5⟩ := opS_ok hK hC hop h1
                    exact ⟨h3, VO_step hi hw (by simp [dstOk, ht]) hm h4 h5 (by rw [ht]; exact h2) (okB_al hob)⟩
                · subst hr; exact ⟨hp, hv⟩
              · subst hr; exact ⟨hp, hv⟩
            · subst hr; exact ⟨hp, hv⟩
          · rename_i hw
            split at hr
            · rename_i hob
              split at hr
              · rename_i t ht
                split at hr
                · rename_i hlt
                  obtain ⟨h1, h2⟩ := ih _ _ _ _ _ hr hp hv
                  exact ⟨h1, VO_skip hi hw (by simp [dstOk, ht, hlt]) (by rw [ht]; exact h2) b (okB_al hob)⟩
                · subst hr; exact ⟨hp, hv⟩
              · rename_i ht
                obtain ⟨h1, h2⟩ := ih _ _ _ _ _ hr hp hv
                exact ⟨h1, VO_skip hi hw (by simp [dstOk, ht]) (by rw [ht]; exact h2) b (okB_al hob)⟩
            · subst hr; exact ⟨hp, hv⟩
          · subst hr; exact ⟨hp, hv⟩
        · subst hr; exact ⟨hp, hv⟩
    · rename_i c k
      split at hr
      · obtain ⟨h1, h2⟩ := ih _ _ _ _ _ hr hp hv; exact ⟨h1, V_skip h2⟩
      · obtain ⟨h1, h2⟩ := ih _ _ _ _ _ hr hp hv
        refine ⟨h1, V_seq (V.mono h2 fun x e s hx => ?_)⟩
        cases x <;> exact hx
      · obtain ⟨h1, h2⟩ := ih _ _ _ _ _ hr hp hv; exact ⟨h1, V_region h2⟩
      · rename_i id c
        obtain ⟨h1, h2⟩ := ih _ _ _ _ _ hr hp hv
        refine ⟨h1, V_block (V.mono h2 fun x e s hx => ?_)⟩
        cases x with
        | nrm => exact hx
        | ret => exact hx
        | ext j =>
          simp only [VX] at hx
          simp only [blockP]
          by_cases hj : j = id
          · subst hj; simp only [Nat.beq_refl] at hx; simp only [if_true]; exact hx
          · have : Nat.beq j id = false := by
              cases hb : Nat.beq j id with
              | false => rfl
              | true => exact absurd (Nat.eq_of_beq_eq_true hb) hj
            simp only [this] at hx; simp only [if_neg hj]; exact hx
      · rename_i t a b
        split at hr
        · rename_i ty ht
          obtain ⟨h1, h2⟩ := ih _ _ _ _ _ hr hp hv
          exact ⟨h1, V_cond (b := true) (by rw [ht]; rfl) (fun _ => h2) (fun h => by cases h)⟩
        · rename_i ty ht
          obtain ⟨h1, h2⟩ := ih _ _ _ _ _ hr hp hv
          exact ⟨h1, V_cond (b := false) (by rw [ht]; rfl) (fun h => by cases h) (fun _ => h2)⟩
        · subst hr; exact ⟨hp, hv⟩
      · subst hr; exact ⟨hp, V_ret (VX_ret hv)⟩
      · rename_i id
        split at hr
        · rename_i k' hk
          obtain ⟨h1, h2⟩ := ih _ _ _ _ _ hr hp hv
          exact ⟨h1, V_exit (VX_unw hk h2)⟩
        · rename_i hk; subst hr; exact ⟨hp, V_exit (VX_unw0 hk hv)⟩
      · subst hr; exact ⟨hp, hv⟩

theorem VX_run {K : Kit} (n : Nat) (hK : KitOk C.P C.tb K) (hC : Ok C) {k k' : List It} {e e' : Env} {s s' : List Blk} {x : X} {ps : List Prop} (h : run K C n [] k e s = ⟨ps, k', x, e', s'⟩) (hp : allP ps)
    (hv : VX C Q k' x e' s') : VX C Q k .nrm e s := (run_ok hK hC n [] k e s _ h hp hv).2
theorem V_of_VX {c : Code} (h : VX C Q [.c c] .nrm env σ) : V C c env σ Q := h.mono fun x e s hx => hx

def splits : List It → Bool
  | .c _ :: _ | .r _ _ :: _ | .o _ _ _ :: _ => true
  | _ => false
/-- What a temporary's datum is besides. -/
theorem VX_put {k : List It} (t : Nat) {d : D} (hk : splits k = true) (hd : ∀ H β v, DRel C.tb H β σ v (getD env t) → DRel C.tb H β σ v d) (h : VX C Q k .nrm ((t, d) :: env) σ) : VX C Q k .nrm env σ := by
  match k, hk with
  | .c code :: k, _ => exact fun H β a w hr he hdf => h H β a w hr (he.shadow fun v hv => hd H β v hv) hdf
  | .r full l :: k, _ => exact fun H β a w hr he hdf => h H β a w hr (he.shadow fun v hv => hd H β v hv) hdf
  | .o full ts ord :: k, _ => exact fun listed h1 h2 h3 h4 H β a w hr he hdf => h listed h1 h2 h3 h4 H β a w hr (he.shadow fun v hv => hd H β v hv) hdf
/-- A truth in a temporary. -/
theorem VX_split {k : List It} (t : Nat) {ty : TypeId} {b : Bool} (hk : splits k = true) (hb : getD env t = .t ty (.e (.bool b)))
    (h1 : b = true → VX C Q k .nrm ((t, .kb ty true) :: env) σ) (h0 : b = false → VX C Q k .nrm ((t, .kb ty false) :: env) σ) : VX C Q k .nrm env σ := by
  have key : ∀ H β v, DRel C.tb H β σ v (getD env t) → DRel C.tb H β σ v (.kb ty b) := fun H β v hv => by
    rw [hb] at hv
    have := boolAny_rel hv rfl
    subst this
    cases hv with
    | t a c => cases c with
      | e r => cases r with
        | bool hc => exact .kb hc
  cases b with
  | true => exact VX_put t hk key (h1 rfl)
  | false => exact VX_put t hk key (h0 rfl)
/-- An operation by its own rule. -/
theorem VX_op {k : List It} {full l : List Oper} {o : Oper} {R : D → List Blk → Prop} (hw : wants full env o = some true) (hn : dstOk C.n o.dst = true) (ho : OpV C o env σ R)
    (h : ∀ d s, R d s → VX C Q (.r full l :: k) .nrm (putD env o.dst d) s) : VX C Q (.r full (o :: l) :: k) .nrm env σ := VL_wants hw hn ho h
theorem VX_opO {k : List It} {full : List Oper} {ts : List Nat} {i : Nat} {ord : List (Nat × Bool)} {o : Oper} {R : D → List Blk → Prop} (hi : full[i]? = some o) (hw : wants full env o = some true) (hn : dstOk C.n o.dst = true) (ho : OpF C o env σ ts R)
    (h : ∀ d s, R d s → VX C Q (.o full ts ord :: k) .nrm (putD env o.dst d) s) (hal : aloneB full ((i, false) :: ord) = true := by kernel_rfl) : VX C Q (.o full ts ((i, false) :: ord) :: k) .nrm env σ := VO_one hi hw hn ho h hal
theorem VX_draw {k : List It} {id : Nat} {l : List Oper} (ts : List Nat) (r : List (Nat × Bool)) (hm : C.P.follows .mixedOrders = true) (hns : Region.noSelect l.toArray = true)
    (hl : okAll r l.length = true) (hs : okSched l.toArray r (Array.replicate l.toArray.size false) = true) (h : VX C Q (.o l ts r :: k) .nrm env σ) : VX C Q (.c (.region id l.toArray true) :: k) .nrm env σ :=
  V_draw ts r hm hns hl hs h
/-- Two that may come up together, of which neither turns a block that is told of. -/
theorem VX_pair {k : List It} {full : List Oper} {ts : List Nat} {i j : Nat} {oi oj : Oper} {di dj : D} {ord : List (Nat × Bool)} (hi : full[i]? = some oi) (hj : full[j]? = some oj) (hp : pairB full ((i, false) :: (j, false) :: ord) = true)
    (hwi : wants full env oi = some true) (hwj : wants full env oj = some true) (hwi' : wants full (putD env oj.dst dj) oi = some true) (hwj' : wants full (putD env oi.dst di) oj = some true) (hni : dstOk C.n oi.dst = true) (hnj : dstOk C.n oj.dst = true)
    (fi : OpF C oi env σ ts (fun d s => d = di ∧ s = σ)) (fj : OpF C oj env σ ts (fun d s => d = dj ∧ s = σ)) (fi' : OpF C oi (putD env oj.dst dj) σ ts (fun d s => d = di ∧ s = σ)) (fj' : OpF C oj (putD env oi.dst di) σ ts (fun d s => d = dj ∧ s = σ))
    (hsw : ∀ t, getD (putD (putD env oi.dst di) oj.dst dj) t = getD (putD (putD env oj.dst dj) oi.dst di) t)
    (h : VX C Q (.o full ts ord :: k) .nrm (putD (putD env oi.dst di) oj.dst dj) σ) : VX C Q (.o full ts ((i, false) :: (j, false) :: ord) :: k) .nrm env σ :=
  VO_pair hi hj hp hwi hwj hwi' hwj' hni hnj fi fj fi' fj' hsw h
/-- In a region that draws: from here on other blocks may be turned. -/
theorem VX_ts {k : List It} {l : List Oper} {ts : List Nat} {r : List (Nat × Bool)} (ts' : List Nat) (hs' : settled l.toArray l.length r = true) (h : VX C Q (.o l ts' r :: k) .nrm env σ) : VX C Q (.o l ts r :: k) .nrm env σ :=
  VO_ts ts' hs' h
theorem VX_weak {k : List It} {c : Code} {env' : Env} {σ' : List Blk} (hw : Weak C.k0 env' σ' env σ) (h : VX C Q (.c c :: k) .nrm env' σ') : VX C Q (.c c :: k) .nrm env σ := V_weak hw h
/-- A loop: an invariant with a number that every round lowers. -/
theorem VX_loop {k : List It} {c : Code} (I : Nat → Env → List Blk → Prop) (m0 : Nat) (h0 : I m0 env σ)
    (step : ∀ m e s, I m e s → VX C (fun x e1 s1 => match x with
      | .nrm => ∃ m', m' < m ∧ ∃ e' s', Weak C.k0 e' s' e1 s1 ∧ I m' e' s'
      | x => VX C Q k x e1 s1) [.c c] .nrm e s) : VX C Q (.c (.loop c) :: k) .nrm env σ := by
  refine V_loop I m0 h0 fun m e s hI => (V_of_VX (step m e s hI)).mono fun x e1 s1 hx => ?_
  cases x <;> exact hx
theorem VX_brk {k : List It} {id : Nat} (h : VX C Q k .nrm env σ) : VX C Q (.b id :: k) (.ext id) env σ := by
  simp only [VX, Nat.beq_refl]; exact h
/-- What a loop's body must come to. -/
def loopQ (C : Cx) (Q : Post) (k : List It) (cont : Env → List Blk → Prop) : Post := fun x e s => match x with
  | .nrm => cont e s
  | .ext id => VX C Q k (.ext id) e s
  | .ret => VX C Q k .ret e s
theorem loop_brk {k : List It} {id : Nat} {cont : Env → List Blk → Prop} (h : VX C Q k .nrm env σ) : VX C (loopQ C Q (.b id :: k) cont) [] (.ext id) env σ := VX_brk h
theorem loop_ext {k k' : List It} {id : Nat} {cont : Env → List Blk → Prop} (hu : unw id k = some k') (h : VX C Q k' .nrm env σ) : VX C (loopQ C Q k cont) [] (.ext id) env σ := by
  show VX C Q k (.ext id) env σ
  exact VX_unw (k := k) hu h
theorem loop_ret {k : List It} {cont : Env → List Blk → Prop} (h : Q .ret env σ) : VX C (loopQ C Q k cont) [] .ret env σ := VX_ret (k := k) h
theorem loop_nrm {k : List It} {cont : Env → List Blk → Prop} (h : cont env σ) : VX C (loopQ C Q k cont) [] .nrm env σ := h
/-- A loop over states that are told by something. -/
theorem VX_loopA {k : List It} {c : Code} {α : Type _} (inv : α → Prop) (envOf : α → Env) (sOf : α → List Blk) (meas : α → Nat) (a0 : α) (h0 : inv a0) (hw : Weak C.k0 (envOf a0) (sOf a0) env σ)
    (step : ∀ a, inv a → VX C (loopQ C Q k fun e1 s1 => ∃ a', meas a' < meas a ∧ inv a' ∧ Weak C.k0 (envOf a') (sOf a') e1 s1) [.c c] .nrm (envOf a) (sOf a)) : VX C Q (.c (.loop c) :: k) .nrm env σ := by
  refine VX_weak hw (VX_loop (fun m e s => ∃ a, inv a ∧ meas a = m ∧ e = envOf a ∧ s = sOf a) (meas a0) ⟨a0, h0, rfl, rfl, rfl⟩ ?_)
  rintro m e s ⟨a, ha, rfl, rfl, rfl⟩
  refine V.mono (V_of_VX (step a ha)) fun x e1 s1 hx => ?_
  cases x with
  | nrm => obtain ⟨a', h1, h2, h3⟩ := hx; exact ⟨_, h1, _, _, h3, a', h2, rfl, rfl, rfl⟩
  | ext j => exact hx
  | ret => exact hx
end
end Go.Den
/- More operations: the greater and the smaller of numbers; a slice against nil; a nil slice as a row. -/
namespace Go.Den
open Go
set_option linter.unusedSectionVars false
set_option linter.unusedSimpArgs false
set_option linter.unusedVariables false

section
variable {C : Cx} (hC : Ok C) {o : Oper} {env : Env} {σ : List Blk}

theorem opdArg2 {a : Act} {x y : Operand} {b : Builtin} {ts : Array TypeId} (ho : o.op = .call { callee := .builtin b, args := #[x, y], argTypes := ts }) {P : Program} {w : World} :
    (execOp a.eval o).run P w = (builtin b ts o.type (#[x, y].map fun | .const _ => true | _ => false) #[a.eval x, a.eval y]).run P w := by
  simp [execOp, ho, resolve, invoke]
  rfl

theorem Ok_max {x y : Operand} {t t2 : TypeId} {dx dy : D} {k : IntKind} {a b : Int} (ho : o.op = .call { callee := .builtin .max, args := #[x, y], argTypes := #[t, t2] }) (ht : td C.tb t = .int k) (ht2 : td C.tb t2 = .int k) (hr : td C.tb o.type = .int k)
    (hx : opd C.tb env t x = some dx) (hy : opd C.tb env t2 y = some dy) (ha : intAt C.tb t dx = some a) (hb : intAt C.tb t2 dy = some b) : OpOk C o env σ ⟨True, .t o.type (.e (.int (if b > a then b else a))), σ⟩ :=
  OpOk_val fun H β ac w hr' he => by
    obtain ⟨h1, h2⟩ := intAt_rel (opd_rel he hx) ha ht
    obtain ⟨h3, h4⟩ := intAt_rel (opd_rel he hy) hb ht2
    refine ⟨.int k (if b > a then b else a), fun w' hw' => ?_, .mkInt hr (by split <;> assumption)⟩
    rw [opdArg2 ho]
    simp [builtin, Builtin.max_, Builtin.max2, h1, h3]
theorem Ok_min {x y : Operand} {t t2 : TypeId} {dx dy : D} {k : IntKind} {a b : Int} (ho : o.op = .call { callee := .builtin .min, args := #[x, y], argTypes := #[t, t2] }) (ht : td C.tb t = .int k) (ht2 : td C.tb t2 = .int k) (hr : td C.tb o.type = .int k)
    (hx : opd C.tb env t x = some dx) (hy : opd C.tb env t2 y = some dy) (ha : intAt C.tb t dx = some a) (hb : intAt C.tb t2 dy = some b) : OpOk C o env σ ⟨True, .t o.type (.e (.int (if b < a then b else a))), σ⟩ :=
  OpOk_val fun H β ac w hr' he => by
    obtain ⟨h1, h2⟩ := intAt_rel (opd_rel he hx) ha ht
    obtain ⟨h3, h4⟩ := intAt_rel (opd_rel he hy) hb ht2
    refine ⟨.int k (if b < a then b else a), fun w' hw' => ?_, .mkInt hr (by split <;> assumption)⟩
    rw [opdArg2 ho]
    simp [builtin, Builtin.min_, Builtin.min2, h1, h3]

/-- A slice of data against nil: of a slice with elements the answer is known, of another one it is not. -/
theorem OpV_nilS (hC : Ok C) {op : BinOp} {xt yt u : TypeId} {x : Operand} {dx : D} {xs : List E} (ho : o.op = .binOp op xt x (.const (.slice none 0 0)) yt) (hop : op = .eql ∨ op = .neq) (ht : td C.tb xt = .sl u)
    (hx : opd C.tb env xt x = some dx) (hd : slE dx = some xs) (hs : same C.tb (tagD dx) xt = true) :
    OpV C o env σ (fun d s => ∃ b : Bool, (b = true → xs = []) ∧ d = .t C.bt (.e (.bool (if op = .eql then b else !b))) ∧ s = σ) := by
  intro H β a w hr he hd' K Qx hK
  have hrd := (slE_rel (opd_rel he hx) hd).cast hC.tab (same_td hs)
  obtain ⟨ad, c, u', g1, g2, g3, g4⟩ := hrd.sl_inv
  have heq := run_equalIn_slice_nil (P := C.P) w 9999 xt u ad xs.length c (hC.tab.sl ht)
  have hgd : eqGuard op xt x (.const (.slice none 0 0)) (.slice ad xs.length c) (.slice none 0 0) = pure () := by
    unfold eqGuard; split <;> rfl
  have hcv : a.eval (.const (.slice none 0 0)) = .slice none 0 0 := rfl
  have hrun : (execOp a.eval o).run C.P w = .ok (.value (.bool (if op = .eql then ad.isNone else !ad.isNone))) w := by
    rcases hop with rfl | rfl
    · simp [execOp, ho, g1, hcv, hgd, binOp, Op.equal, Op.maxDepth, heq]
    · simp [execOp, ho, g1, hcv, hgd, binOp, Op.equal, Op.maxDepth, heq]
  simp only [Oper.wp, hrun, Oper.upon]
  refine hK _ _ w H β σ ⟨ad.isNone, fun hb => ?_, rfl, rfl⟩ hr (.mkBool hC.bt) (.refl _ _) (.refl _ _ _)
  rcases Nat.eq_zero_or_pos xs.length with h | h
  · exact List.length_eq_zero_iff.1 h
  · obtain ⟨u2, b, off, c2, cs, k1, k2, k3, k4, k5, k6, k7⟩ := hrd.sl_row h
    rw [g1] at k2
    simp only [Value.slice.injEq] at k2
    rw [k2.1] at hb; simp at hb
end

def dop2 (C : Cx) (env : Env) (σ : List Blk) (o : Oper) : Option DR := match o.op with
  | .call { callee := .builtin b, args := ⟨[x, y]⟩, argTypes := ⟨[t, t2]⟩ } => match b with
    | .max => match td C.tb t with
      | .int k => match td C.tb t2 == .int k && td C.tb o.type == .int k with
        | true => match opd C.tb env t x with
          | some dx => match opd C.tb env t2 y with
            | some dy => match intAt C.tb t dx with
              | some a => match intAt C.tb t2 dy with
                | some b => some ⟨True, .t o.type (.e (.int (if b > a then b else a))), σ⟩
                | none => none
              | none => none
            | none => none
          | none => none
        | false => none
      | _ => none
    | .min => match td C.tb t with
      | .int k => match td C.tb t2 == .int k && td C.tb o.type == .int k with
        | true => match opd C.tb env t x with
          | some dx => match opd C.tb env t2 y with
            | some dy => match intAt C.tb t dx with
              | some a => match intAt C.tb t2 dy with
                | some b => some ⟨True, .t o.type (.e (.int (if b < a then b else a))), σ⟩
                | none => none
              | none => none
            | none => none
          | none => none
        | false => none
      | _ => none
    | _ => none
  | _ => none
theorem dop2_ok {C : Cx} (hC : Ok C) {env : Env} {σ : List Blk} {o : Oper} {r : DR} (h : dop2 C env σ o = some r) (hp : r.p) : OpOk C o env σ r := by
  unfold dop2 at h
  split at h
  · rename_i bi x y t t2 ho
    split at h
    · split at h
      · rename_i k hk
        split at h
        · rename_i hh
          simp only [Bool.and_eq_true] at hh
          split at h
          · rename_i dx hx
            split at h
            · rename_i dy hy
              split at h
              · rename_i a ha
                split at h
                · rename_i b hb; cases h; exact Ok_max ho hk (td_beq hh.1) (td_beq hh.2) hx hy ha hb
                · cases h
              · cases h
            · cases h
          · cases h
        · cases h
      · cases h
    · split at h
      · rename_i k hk
        split at h
        · rename_i hh
          simp only [Bool.and_eq_true] at hh
          split at h
          · rename_i dx hx
            split at h
            · rename_i dy hy
              split at h
              · rename_i a ha
                split at h
                · rename_i b hb; cases h; exact Ok_min ho hk (td_beq hh.1) (td_beq hh.2) hx hy ha hb
                · cases h
              · cases h
            · cases h
          · cases h
        · cases h
      · cases h
    · cases h
  · cases h

def kit (bk : List Nat) (fs : List (FuncId × Kon)) : Kit := ⟨bk, dop2, fs⟩
theorem kit_ok {P : Program} {tb : Tab} {fs : List (FuncId × Kon)} (bk : List Nat) (h : kok P tb fs) : KitOk P tb (kit bk fs) := ⟨fun C _ _ hC env σ o r h hp => dop2_ok hC h hp, h⟩

/-! ### a nil slice becomes a row -/
theorem Rel.addRow {tb H β σ w} (h : Rel tb H β σ w) (u : TypeId) : Rel tb H (β ++ [.slice none 0 0]) (σ ++ [.row u 0]) w ∧ Ev H β σ H (β ++ [.slice none 0 0]) (σ ++ [.row u 0]) := by
  have hl := h.len
  have hev : Ev H β σ H (β ++ [.slice none 0 0]) (σ ++ [.row u 0]) := by
    refine ⟨fun _ _ _ e => e, fun i ty x e => ?_, fun i ety n e => ?_, fun i s p e => ?_, fun i ety o xs e => ?_, fun i k9 e9 xs e => ?_⟩
    all_goals have hi := (List.getElem?_eq_some_iff.1 e).1
    · exact ⟨List.getElem?_append_left (by omega), x, by rw [List.getElem?_append_left hi]; exact e⟩
    · exact ⟨n, by rw [List.getElem?_append_left hi]; exact e, Nat.le_refl _, fun _ => List.getElem?_append_left (by omega)⟩
    · exact ⟨List.getElem?_append_left (by omega), s, p, by rw [List.getElem?_append_left hi]; exact e⟩
    · exact ⟨o, xs, by rw [List.getElem?_append_left hi]; exact e, Nat.le_refl _, fun _ => List.getElem?_append_left (by omega)⟩
    · exact ⟨List.getElem?_append_left (by omega), xs, by rw [List.getElem?_append_left hi]; exact e⟩
  refine ⟨⟨h.pers, h.dom, by simp [hl], fun i k bv hk hv => ?_⟩, hev⟩
  rcases Nat.lt_or_ge i σ.length with hi | hi
  · rw [List.getElem?_append_left hi] at hk
    rw [List.getElem?_append_left (by omega)] at hv
    exact (h.blk i k bv hk hv).mono hev (fun b o e => ⟨e, rfl, fun _ _ => rfl, rfl⟩) (fun b x _ _ e => e)
  · have : i = σ.length := by have := (List.getElem?_eq_some_iff.1 hk).1; simp at this; omega
    subst this
    rw [List.getElem?_append_right (Nat.le_refl _)] at hk
    rw [List.getElem?_append_right (by omega)] at hv
    simp [hl] at hk hv
    subst hk; subst hv
    exact .inl ⟨rfl, rfl⟩

theorem DRel.promote {tb : Tab} {H β σ v ty u} (hl : β.length = σ.length) (h : DRel tb H β σ v (.t ty .nsl)) (hu : td tb ty = .sl u) : DRel tb H (β ++ [.slice none 0 0]) (σ ++ [.row u 0]) v (.t ty (.lsl σ.length [])) := by
  cases h with
  | t a b =>
    cases b with
    | nsl c =>
      refine .t a (.lsl hu (.sl0 c) ⟨0, by simp, Nat.le_refl _, fun _ => ?_⟩)
      rw [List.getElem?_append_right (by omega)]; simp [hl]

/-- The temporary t holds a nil slice: from here on it is the newest of a row that is empty. -/
theorem VX_promote {C : Cx} {Q : Post} {env : Env} {σ : List Blk} {k : List It} {c : Code} (t : Nat) {ty u : TypeId} (ht : getD env t = .t ty .nsl) (hu : td C.tb ty = .sl u)
    (h : VX C Q (.c c :: k) .nrm ((t, .t ty (.lsl σ.length [])) :: env) (σ ++ [.row u 0])) : VX C Q (.c c :: k) .nrm env σ := by
  intro H β a w hr he hd
  obtain ⟨hr2, hev⟩ := hr.addRow u
  have he2 := he.mono hev
  have hv := he.get t
  rw [ht] at hv
  have hp := hv.promote hr.len hu
  have he3 : EnvRel C.tb H (β ++ [.slice none 0 0]) (σ ++ [.row u 0]) C.n a ((t, .t ty (.lsl σ.length [])) :: env) := by
    refine ⟨he.1, fun t' => ?_⟩
    have hg : getD ((t, .t ty (.lsl σ.length [])) :: env) t' = match Nat.beq t t' with | true => .t ty (.lsl σ.length []) | false => getD env t' := rfl
    rw [hg]
    cases hb : Nat.beq t t' with
    | true => have := Nat.eq_of_beq_eq_true hb; subst this; exact hp
    | false => exact he2.2 t'
  exact wp_mono (h H _ a w hr2 he3 hd) fun _ _ _ hl => hl.trans (.refl _ _) (hev.kp C.k0)
end Go.Den
namespace Go.Den
open Go
section
variable {C : Cx} {env : Env} {σ : List Blk} {Q : Post}
theorem VX_go (hC : Ok C) {fs : List (FuncId × Kon)} (hk : kok C.P C.tb fs) (n : Nat) (bk : List Nat) {k k' : List It} {e e' : Env} {s s' : List Blk} {x : X} {ps : List Prop} (h : run (kit bk fs) C n [] k e s = ⟨ps, k', x, e', s'⟩) (hp : allP ps)
    (hv : VX C Q k' x e' s') : VX C Q k .nrm e s := VX_run n (kit_ok bk hk) hC h hp hv
/-- A number in a temporary, told otherwise. -/
theorem VX_eq {k : List It} (t : Nat) {d d' : D} (hk : splits k = true) (hd : getD env t = d) (h : d = d') (hv : VX C Q k .nrm ((t, d') :: env) σ) : VX C Q k .nrm env σ :=
  VX_put t hk (fun H β v hv => by rw [hd, h] at hv; exact hv) hv
end
theorem wk0 {k0 : Nat} {env' env : Env} {σ : List Blk} (h0 : Nat.ble k0 σ.length = true) (hb : ∀ k ∈ σ, k.under σ.length = true) (h : leL σ.length env' env) : Weak k0 env' σ env σ :=
  ⟨⟨[], by simp⟩, Nat.le_of_ble_eq_true h0, hb, h⟩
theorem lc {k : Nat} {t : Nat} {d' : D} {e' e : Env} (h : leD k d' (getD e t)) (r : leL k e' e) : leL k ((t, d') :: e') e := ⟨h, r⟩
theorem lnil {k : Nat} {e : Env} : leL k [] e := trivial
theorem ls {k : Nat} {d d' : D} (h : d' = d) (hu : d.under k = true) : leD k d' d := .inr (.inl ⟨h, hu⟩)
theorem li {k : Nat} {ty : TypeId} {a b : Int} (h : a = b) : leD k (.t ty (.e (.int a))) (.t ty (.e (.int b))) := .inr (.inl ⟨by rw [h], rfl⟩)
theorem lsr {k : Nat} {ty ty' : TypeId} {x y : E} (ht : ty = ty') (h : x = y) : leD k (.t ty (.e x)) (.t ty' (.e y)) := .inr (.inl ⟨by rw [h, ht], rfl⟩)
theorem lrow {k : Nat} {ty i xs} : leD k (.t ty (.e (.sl xs))) (.t ty (.lsl i xs)) := .inr (.inr (.inl ⟨ty, i, xs, rfl, rfl⟩))
theorem lnsl {k : Nat} {ty} : leD k (.t ty (.e (.sl []))) (.t ty .nsl) := .inr (.inr (.inr (.inl ⟨ty, rfl, rfl⟩)))
theorem lbsl {k : Nat} {ty xs} : leD k (.t ty (.e (.sl xs))) (.t ty (.bsl xs)) := .inr (.inr (.inr (.inr (.inl ⟨ty, xs, rfl, rfl⟩))))
theorem lkb {k : Nat} {ty b} : leD k (.t ty (.e (.bool b))) (.kb ty b) := .inr (.inr (.inr (.inr (.inr ⟨ty, b, rfl, rfl⟩))))
end Go.Den
/- Calls that hand over blocks, as steps of the machine. -/
namespace Go.Den
open Go
/-! what a call hands back, written out -/
mutual
def normT {α : Type _} : T → (T → α) → α
  | .e x, k => k (.e x)
  | .st xs, k => normTs xs fun ys => k (.st ys)
  | .nsl, k => k .nsl
  | .bsl xs, k => k (.bsl xs)
  | .lsl i xs, k => litK i fun j => k (.lsl j xs)
  | .ptr i p, k => litK i fun j => k (.ptr j p)
  | .fn f c, k => k (.fn f c)
  | .msl i n, k => litK i fun j => k (.msl j n)
  | .tsl xs, k => normTs xs fun ys => k (.tsl ys)
  | .mp i, k => litK i fun j => k (.mp j)
def normTs {α : Type _} : List T → (List T → α) → α
  | [], k => k []
  | x :: xs, k => normT x fun y => normTs xs fun ys => k (y :: ys)
end
mutual
theorem normT_eq {α : Type _} : ∀ (x : T) (k : T → α), normT x k = k x
  | .e x, k => rfl
  | .st xs, k => by simp only [normT]; rw [normTs_eq xs]
  | .nsl, k => rfl
  | .bsl xs, k => rfl
  | .lsl i xs, k => by simp only [normT]; rw [litK_eq]
  | .ptr i p, k => by simp only [normT]; rw [litK_eq]
  | .fn f c, k => rfl
  | .msl i n, k => by simp only [normT]; rw [litK_eq]
  | .tsl xs, k => by simp only [normT]; rw [normTs_eq xs]
  | .mp i, k => by simp only [normT]; rw [litK_eq]
theorem normTs_eq {α : Type _} : ∀ (xs : List T) (k : List T → α), normTs xs k = k xs
  | [], k => rfl
  | x :: xs, k => by simp only [normTs]; rw [normT_eq x, normTs_eq xs]
end
mutual
def normD {α : Type _} : D → (D → α) → α
  | .t ty x, k => normT x fun y => k (.t ty y)
  | .ptr i p, k => litK i fun j => k (.ptr j p)
  | .el u xs j p, k => k (.el u xs j p)
  | .asl i p u off n, k => litK i fun j => k (.asl j p u off n)
  | .tup xs, k => normDs xs fun ys => k (.tup ys)
  | .it i, k => litK i fun j => k (.it j)
  | .kb ty b, k => k (.kb ty b)
  | .mel u i n j p, k => litK i fun i' => k (.mel u i' n j p)
  | .tel u xs j, k => normTs xs fun ys => k (.tel u ys j)
  | .any, k => k .any
def normDs {α : Type _} : List D → (List D → α) → α
  | [], k => k []
  | x :: xs, k => normD x fun y => normDs xs fun ys => k (y :: ys)
end
mutual
theorem normD_eq {α : Type _} : ∀ (x : D) (k : D → α), normD x k = k x
  | .t ty x, k => by simp only [normD]; rw [normT_eq x]
  | .ptr i p, k => by simp only [normD]; rw [litK_eq]
  | .el u xs j p, k => rfl
  | .asl i p u off n, k => by simp only [normD]; rw [litK_eq]
  | .tup xs, k => by simp only [normD]; rw [normDs_eq xs]
  | .it i, k => by simp only [normD]; rw [litK_eq]
  | .kb ty b, k => rfl
  | .mel u i n j p, k => by simp only [normD]; rw [litK_eq]
  | .tel u xs j, k => by simp only [normD]; rw [normTs_eq xs]
  | .any, k => rfl
theorem normDs_eq {α : Type _} : ∀ (xs : List D) (k : List D → α), normDs xs k = k xs
  | [], k => rfl
  | x :: xs, k => by simp only [normDs]; rw [normD_eq x, normDs_eq xs]
end
def normB {α : Type _} : Blk → (Blk → α) → α
  | .tree ty x, k => normT x fun y => k (.tree ty y)
  | .row u n, k => k (.row u n)
  | .iter s p, k => k (.iter s p)
  | .dead, k => k .dead
  | .mrow u o xs, k => k (.mrow u o xs)
  | .mp kt e es, k => k (.mp kt e es)
theorem normB_eq {α : Type _} (x : Blk) (k : Blk → α) : normB x k = k x := by
  cases x with
  | tree ty x => simp only [normB]; rw [normT_eq x]
  | _ => rfl
def normBs {α : Type _} : List Blk → (List Blk → α) → α
  | [], k => k []
  | x :: xs, k => normB x fun y => normBs xs fun ys => k (y :: ys)
theorem normBs_eq {α : Type _} : ∀ (xs : List Blk) (k : List Blk → α), normBs xs k = k xs
  | [], k => rfl
  | x :: xs, k => by simp only [normBs]; rw [normB_eq x, normBs_eq xs]
def retK (env : Env) (dst : Option Tmp) : Option D → Option Env
  | some d => match dst with
    | some t => normD d fun d' => some ((t, d') :: env)
    | none => some env
  | none => none
theorem retK_eq (env : Env) (dst : Option Tmp) (d : D) : retK env dst (some d) = some (putD env dst d) := by
  cases dst with
  | none => rfl
  | some t => simp only [retK]; rw [normD_eq d]; rfl
section
variable {C : Cx} {env : Env} {σ : List Blk} {Q : Post}
theorem VX_callR (hC : Ok C) {k : List It} {full l : List Oper} {o : Oper} {f : FuncId} {xs : Array Operand} {tys : Array TypeId} (pts : List TypeId) {ds args : List D} {σ0 : List Blk} {Q0 : D → List Blk → Prop} (idx : List Nat)
    (hw : wants full env o = some true) (hn : dstOk C.n o.dst = true) (ho : o.op = .call { callee := .value (.func f), args := xs, argTypes := tys }) (hx : argsD C.tb env pts xs.toList = some ds) (hds : D.rens (idxOf idx) ds = some args) (hp : pickB σ (idxOf idx) idx 0 = some σ0)
    (h : FnG C.P C.tb f σ0 args Q0)
    (hk : ∀ d s, backR σ idx Q0 d s → VX C Q (.r full l :: k) .nrm (putD env o.dst d) s) : VX C Q (.r full (o :: l) :: k) .nrm env σ :=
  VX_op hw hn (OpF_call (ts := idx) hC ho hx hds hp h (by simp [disj])).v hk
theorem VX_callD (hC : Ok C) {k : List It} {full l : List Oper} {o : Oper} {f : FuncId} {xs : Array Operand} {tys : Array TypeId} (pts : List TypeId) {ds args : List D} {σ0 s0 τ s : List Blk} {d0 : D} {env' : Env} (idx : List Nat)
    (hw : wants full env o = some true) (hn : dstOk C.n o.dst = true) (ho : o.op = .call { callee := .value (.func f), args := xs, argTypes := tys }) (hx : argsD C.tb env pts xs.toList = some ds) (hds : D.rens (idxOf idx) ds = some args) (hp : pickB σ (idxOf idx) idx 0 = some σ0)
    (h : FnG C.P C.tb f σ0 args (fun d s => d = d0 ∧ s = s0))
    (hr : retK env o.dst (D.ren (fun j => some (backI idx σ.length j)) d0) = some env') (hb : renBs (fun j => some (backI idx σ.length j)) s0 = some τ) (hs : normBs (putBack σ idx τ) some = some s)
    (hk : VX C Q (.r full l :: k) .nrm env' s) : VX C Q (.r full (o :: l) :: k) .nrm env σ :=
  VX_callR hC pts idx hw hn ho hx hds hp h fun d' s' ⟨d1, s1, τ1, ⟨h1, h2⟩, h3, h4, h5⟩ => by
    subst h1; subst h2
    rw [h3, retK_eq] at hr; cases hr
    rw [hb] at h4; cases h4
    rw [normBs_eq] at hs; cases hs
    subst h5; exact hk
theorem VX_callO (hC : Ok C) {k : List It} {full : List Oper} {ts : List Nat} {i : Nat} {ord : List (Nat × Bool)} {o : Oper} {f : FuncId} {xs : Array Operand} {tys : Array TypeId} (pts : List TypeId) {ds args : List D} {σ0 s0 τ s : List Blk} {d0 : D} {env' : Env} (idx : List Nat)
    (hi : full[i]? = some o) (hw : wants full env o = some true) (hn : dstOk C.n o.dst = true) (ho : o.op = .call { callee := .value (.func f), args := xs, argTypes := tys }) (hx : argsD C.tb env pts xs.toList = some ds) (hds : D.rens (idxOf idx) ds = some args) (hp : pickB σ (idxOf idx) idx 0 = some σ0)
    (hts : disj idx ts = true) (h : FnG C.P C.tb f σ0 args (fun d s => d = d0 ∧ s = s0))
    (hr : retK env o.dst (D.ren (fun j => some (backI idx σ.length j)) d0) = some env') (hb : renBs (fun j => some (backI idx σ.length j)) s0 = some τ) (hs : normBs (putBack σ idx τ) some = some s)
    (hk : VX C Q (.o full ts ord :: k) .nrm env' s) (hal : aloneB full ((i, false) :: ord) = true := by kernel_rfl) : VX C Q (.o full ts ((i, false) :: ord) :: k) .nrm env σ :=
  VX_opO hi hw hn (OpF_call hC ho hx hds hp h hts) (fun d' s' ⟨d1, s1, τ1, ⟨h1, h2⟩, h3, h4, h5⟩ => by
    subst h1; subst h2
    rw [h3, retK_eq] at hr; cases hr
    rw [hb] at h4; cases h4
    rw [normBs_eq] at hs; cases hs
    subst h5; exact hk) hal
/-- A truth that is known. -/
theorem VX_known {k : List It} (t : Nat) (b' : Bool) {ty : TypeId} {b : Bool} (hk : splits k = true) (hb : getD env t = .t ty (.e (.bool b))) (h : b = b') (hv : VX C Q k .nrm ((t, .kb ty b') :: env) σ) : VX C Q k .nrm env σ := by
  subst h
  cases b with
  | true => exact VX_split t hk hb (fun _ => hv) (fun h => by cases h)
  | false => exact VX_split t hk hb (fun h => by cases h) (fun _ => hv)
end
end Go.Den
/- From what a statement gives of its arguments to the calculus, and back. -/
namespace Go.Den
open Go
open Go.RowKit (Below)
set_option linter.unusedVariables false

/-- All of a world's cells, as they stand. -/
def Hw (w : World) : Gh := fun b o => match w.cell? ⟨b, o, none⟩ with
  | some v => .pers v
  | none => .none
theorem Hw_pers {w b o v} : Hw w b o = .pers v ↔ w.cell? ⟨b, o, none⟩ = some v := by
  unfold Hw
  cases h : w.cell? ⟨b, o, none⟩ <;> simp
theorem Hw_mine {w b o i} : Hw w b o ≠ .mine i := by
  unfold Hw
  cases h : w.cell? ⟨b, o, none⟩ <;> simp
theorem Hw_base (w : World) : Base (Hw w) w := by
  refine ⟨fun b o v h => Hw_pers.1 h, fun b o h => ?_⟩
  rcases Nat.lt_or_ge b w.heap.size with h1 | h1
  · exact h1
  · refine absurd ?_ h
    have : w.cell? ⟨b, o, none⟩ = none := by
      unfold World.cell?
      simp [Array.getElem?_eq_none h1]
    unfold Hw; rw [this]

/-- A law's walk, out of its contract. -/
theorem walk_of {P : Program} {tb : Tab} {f : FuncId} {pts : List TypeId} {t : TypeId} {args : List E} {b : Bool} {vals : Array Value} {w : World} (h : FnOk P tb f pts [t] args [.bool b])
    (hv : ArgsAt tb (Hw w) [] [] vals (typed pts args)) : Calls P f vals w fun e w' => e = .returned (.bool b) ∧ Below w.heap.size w w' := by
  refine (h.2.2 (Hw w) w vals (Hw_base w) (fun _ _ _ => Hw_mine) hv).mono ?_
  rintro e w' ⟨v, H', rfl, hb, hd, hs⟩
  have := boolAny_rel hd (b := b) rfl
  subst this
  exact ⟨rfl, hs.os, hs.tape, hs.output, hs.size, fun k hk => hs.blk k hk fun o i => Hw_mine⟩

theorem argsAt_nil {tb : Tab} {H : Gh} (hg : GlRel tb H := by exact Go.Den.GlRel.nil rfl) : ArgsAt tb H [] [] #[] (typed [] []) := ⟨⟨rfl, hg⟩, fun i v d h => by simp at h⟩
theorem argsAt_list {tb : Tab} {H : Gh} {vs : List Value} {pts : List TypeId} {args : List E} (hl : args.length = pts.length) (hv : vs.length = pts.length)
    (h : ∀ (i : Nat) v t x, vs[i]? = some v → pts[i]? = some t → args[i]? = some x → DRel tb H [] [] v (.t t (.e x))) (hg : GlRel tb H := by exact Go.Den.GlRel.nil rfl) : ArgsAt tb H [] [] vs.toArray (typed pts args) := by
  refine ⟨⟨by rw [typed_length hl]; simpa using hv, hg⟩, fun i v d hi hd => ?_⟩
  have key : ∀ (ts : List TypeId) (xs : List E) (i : Nat) d, (typed ts xs)[i]? = some d → ∃ t x, ts[i]? = some t ∧ xs[i]? = some x ∧ d = .t t (.e x) := by
    intro ts
    induction ts with
    | nil => intro xs i d h; simp [typed] at h
    | cons t ts ih =>
      intro xs i d h
      cases xs with
      | nil => simp [typed] at h
      | cons x xs =>
        cases i with
        | zero => simp [typed] at h; exact ⟨t, x, rfl, rfl, h.symm⟩
        | succ i => simpa using ih xs i d (by simpa [typed] using h)
  obtain ⟨t, x, h1, h2, rfl⟩ := key _ _ _ _ hd
  exact h i v t x (by simpa using hi) h1 h2

theorem wf_wrap {k : IntKind} {n : Int} (h : (Lit.int k n).wf = true) : k.wrap n = n := by
  refine inR_wrap ?_
  cases k <;> simpa [Lit.wf, inR, IntKind.min, IntKind.max, IntKind.signed, IntKind.bits] using h
theorem rd_int {tb : Tab} {H : Gh} {t : TypeId} {k : IntKind} {n : Int} (ht : td tb t = .int k) (h : (Lit.int k n).wf = true) : DRel tb H [] [] (.int k n) (.t t (.e (.int n))) := .mkInt ht (wf_wrap h)
theorem rd_ints {tb : Tab} {w : World} {t u : TypeId} {k : IntKind} {a : Option Addr} {len cap : Nat} {zs : List Int} (ht : td tb t = .sl u) (hu : td tb u = .int k) (hsz : sz tb u = 1)
    (h : (a = none ∧ len = 0 ∧ cap = 0 ∧ zs = []) ∨
      ∃ x, a = some x ∧ len ≤ cap ∧ cap ≤ maxLen ∧ zs.length = cap ∧ (∀ i, i < zs.length → w.cell? (x.add i) = some (.int k (zs.getD i 0))) ∧ ∀ n ∈ zs, (Lit.int k n).wf = true) :
    DRel tb (Hw w) [] [] (.slice a len cap) (.t t (.e (.sl ((zs.take len).map .int)))) := by
  refine .of_rd ?_ (by simp [isAggT, ht])
  rcases h with ⟨rfl, rfl, rfl, rfl⟩ | ⟨x, rfl, h1, h2, h3, h4, h5⟩
  · exact .sl0 ht
  · rcases Nat.eq_zero_or_pos len with h0 | h0
    · subst h0; exact .sl0 ht
    · obtain ⟨b, off, rfl, hc⟩ := ints_at h4 (by omega)
      have hlen : ((zs.take len).map E.int).length = len := by simp; omega
      have := Rd.sl (tb := tb) (H := Hw w) (t := t) (u := u) (b := b) (off := off) (c := cap) (cs := (zs.take len).map (.int k)) (xs := (zs.take len).map E.int) ht (by simp [hsz]) (fun j v hj => ?_) (fun i e hi => ?_) (by omega) (by rw [hlen]; unfold maxLen at h2; unfold maxN; omega)
      · rw [hlen] at this; exact this
      · rw [Hw_pers]
        have hjl : j < len := by have := (List.getElem?_eq_some_iff.1 hj).1; simp at this; omega
        rw [hc j (by omega)]
        simp only [List.getElem?_map, List.getElem?_take, hjl, if_true] at hj
        have hz : zs[j]? = some zs[j] := List.getElem?_eq_getElem (by omega)
        rw [hz] at hj
        simp only [Option.map_some, Option.some.injEq] at hj
        rw [← hj]; simp [List.getD, hz]
      · have hil : i < len := by have := (List.getElem?_eq_some_iff.1 hi).1; simp at this; omega
        have hz : zs[i]? = some zs[i] := List.getElem?_eq_getElem (by omega)
        simp only [List.getElem?_map, List.getElem?_take, hil, if_true, hz, Option.map_some, Option.some.injEq] at hi
        subst hi
        have hseg : seg ((zs.take len).map (Value.int k)) (i * sz tb u) (sz tb u) = [.int k zs[i]] := by
          rw [hsz, Nat.mul_one]
          apply List.ext_getElem?
          intro q
          rcases Nat.eq_zero_or_pos q with hq | hq
          · subst hq; rw [seg_get (by omega)]; simp [hil, hz]
          · rw [List.getElem?_eq_none (by simp [seg]; omega), List.getElem?_eq_none (by simp; omega)]
        rw [hseg]
        exact .int hu (wf_wrap (h5 _ (List.getElem_mem _)))

theorem rd_str {tb : Tab} {H : Gh} {t : TypeId} {s : ByteArray} (ht : td tb t = .str) (h : s.size ≤ maxLen) : DRel tb H [] [] (.string s) (.t t (.e (.str s.data.toList))) := by
  have : Value.string s = sv s.data.toList := rfl
  rw [this]
  refine .mkStr ht ?_
  have hs : s.data.toList.length = s.size := rfl
  rw [hs]; unfold maxLen at h; unfold maxI; omega
theorem strs_at {w : World} {a : Addr} {ss : List ByteArray} (h : ∀ i, i < ss.length → w.cell? (a.add i) = some (.string (ss.getD i ByteArray.empty))) (hp : 0 < ss.length) :
    ∃ b off, a = ⟨b, off, none⟩ ∧ ∀ j, j < ss.length → w.cell? ⟨b, off + j, none⟩ = some (.string (ss.getD j ByteArray.empty)) := by
  obtain ⟨b, off, spot⟩ := a
  have hspot : spot = none := by simpa [Addr.add] using World.cell?_spot (h 0 hp)
  subst hspot
  exact ⟨b, off, rfl, fun j hj => by rw [← Go.WideShapes.add_plain]; exact h j hj⟩
theorem rd_strs {tb : Tab} {w : World} {t u : TypeId} {a : Option Addr} {len cap : Nat} {zs : List ByteArray} (ht : td tb t = .sl u) (hu : td tb u = .str) (hsz : sz tb u = 1)
    (h : (a = none ∧ len = 0 ∧ cap = 0 ∧ zs = []) ∨
      ∃ x, a = some x ∧ len ≤ cap ∧ cap ≤ maxLen ∧ zs.length = cap ∧ (∀ i, i < zs.length → w.cell? (x.add i) = some (.string (zs.getD i ByteArray.empty))) ∧ ∀ s ∈ zs, s.size ≤ maxLen) :
    DRel tb (Hw w) [] [] (.slice a len cap) (.t t (.e (.sl (((zs.take len).map fun s => s.data.toList).map .str)))) := by
  refine .of_rd ?_ (by simp [isAggT, ht])
  rcases h with ⟨rfl, rfl, rfl, rfl⟩ | ⟨x, rfl, h1, h2, h3, h4, h5⟩
  · exact .sl0 ht
  · rcases Nat.eq_zero_or_pos len with h0 | h0
    · subst h0; exact .sl0 ht
    · obtain ⟨b, off, rfl, hc⟩ := strs_at h4 (by omega)
      have hlen : (((zs.take len).map fun s => s.data.toList).map E.str).length = len := by simp; omega
      have := Rd.sl (tb := tb) (H := Hw w) (t := t) (u := u) (b := b) (off := off) (c := cap) (cs := (zs.take len).map Value.string) (xs := ((zs.take len).map fun s => s.data.toList).map E.str) ht (by simp [hsz]) (fun j v hj => ?_) (fun i e hi => ?_) (by omega) (by rw [hlen]; unfold maxLen at h2; unfold maxN; omega)
      · rw [hlen] at this; exact this
      · rw [Hw_pers]
        have hjl : j < len := by have := (List.getElem?_eq_some_iff.1 hj).1; simp at this; omega
        rw [hc j (by omega)]
        simp only [List.getElem?_map, List.getElem?_take, hjl, if_true] at hj
        have hz : zs[j]? = some zs[j] := List.getElem?_eq_getElem (by omega)
        rw [hz] at hj
        simp only [Option.map_some, Option.some.injEq] at hj
        rw [← hj]; simp [List.getD, hz]
      · have hil : i < len := by have := (List.getElem?_eq_some_iff.1 hi).1; simp at this; omega
        have hz : zs[i]? = some zs[i] := List.getElem?_eq_getElem (by omega)
        simp only [List.getElem?_map, List.getElem?_take, hil, if_true, hz, Option.map_some, Option.some.injEq] at hi
        subst hi
        have hseg : seg ((zs.take len).map Value.string) (i * sz tb u) (sz tb u) = [Value.string zs[i]] := by
          rw [hsz, Nat.mul_one]
          apply List.ext_getElem?
          intro q
          rcases Nat.eq_zero_or_pos q with hq | hq
          · subst hq; rw [seg_get (by omega)]; simp [hil, hz]
          · rw [List.getElem?_eq_none (by simp [seg]; omega), List.getElem?_eq_none (by simp; omega)]
        rw [hseg]
        have hs := h5 _ (List.getElem_mem (show i < zs.length by omega))
        refine .str (s := zs[i].data.toList) hu ?_
        have hs2 : zs[i].data.toList.length = zs[i].size := rfl
        rw [hs2]; unfold maxLen at hs; unfold maxI; omega
end Go.Den
/- Whatever readable data a statement hands over reads as data of the calculus. -/
namespace Go.Den
open Go
set_option linter.unusedVariables false

/-- Types of plain data: numbers, truths, texts, lists, structs, arrays of these. -/
def flatT (tb : Tab) : Nat → TypeId → Bool
  | 0, _ => false
  | n + 1, t => match td tb t with
    | .int _ | .bool | .str => true
    | .sl u => flatT tb n u && !(Nat.beq (sz tb u) 0)
    | .arr _ u => flatT tb n u
    | .st fs => fs.all fun f => flatT tb n f.1
    | _ => false

theorem choose_list {p : Nat → E → Prop} : ∀ (n : Nat), (∀ i, i < n → ∃ x, p i x) → ∃ xs : List E, xs.length = n ∧ ∀ i x, xs[i]? = some x → p i x
  | 0, _ => ⟨[], rfl, fun i x h => by simp at h⟩
  | n + 1, h => by
    obtain ⟨xs, h1, h2⟩ := choose_list n fun i hi => h i (by omega)
    obtain ⟨x, hx⟩ := h n (by omega)
    refine ⟨xs ++ [x], by simp [h1], fun i y hy => ?_⟩
    rcases Nat.lt_or_ge i n with hi | hi
    · rw [List.getElem?_append_left (by omega)] at hy; exact h2 i y hy
    · rw [List.getElem?_append_right (by omega), h1] at hy
      have : i - n = 0 := by
        rcases Nat.eq_zero_or_pos (i - n) with h0 | h0
        · exact h0
        · rw [List.getElem?_eq_none (by simp; omega)] at hy; cases hy
      rw [this] at hy
      simp at hy
      have hin : i = n := by omega
      rw [hin]; exact hy ▸ hx

theorem cellsOf_sz {P : Program} {tb : Tab} (hT : TabOk P tb) {t : TypeId} (h : t < tb.rows.length) : P.cellsOf t = sz tb t := by
  have := hT.at h
  unfold sz; rw [this]; rfl

theorem trod_rd {P : Program} {tb : Tab} (hT : TabOk P tb) {H : Type} {enc : TypeId × Value → H} {w : World} : ∀ (n fuel : Nat) (t : TypeId) (cs : List Value) (d : DataW H × List MemPlace),
    flatT tb n t = true → DataW.trod enc P w 0 (fun _ => true) true fuel t cs = some d → ∃ x, Rd tb (Hw w) t cs x
  | 0, _, _, _, _, hf, _ => by simp [flatT] at hf
  | n + 1, fuel, t, cs, d, hf, h => by
    unfold flatT at hf
    split at hf
    · rename_i k ht
      obtain ⟨m, rfl, _, hw⟩ := DataW.trod_int (hT.int ht) h
      exact ⟨_, .int ht (wf_wrap hw)⟩
    · rename_i ht
      cases fuel with
      | zero => simp [DataW.trod] at h
      | succ m =>
        unfold DataW.trod at h
        rw [hT.bool ht] at h
        split at h <;> simp_all
        exact ⟨_, .bool ht⟩
    · rename_i ht
      cases fuel with
      | zero => simp [DataW.trod] at h
      | succ m =>
        unfold DataW.trod at h
        rw [hT.str ht] at h
        split at h <;> simp_all
        rename_i s
        refine ⟨.str s.data.toList, .str (s := s.data.toList) ht ?_⟩
        have hs2 : s.data.toList.length = s.size := rfl
        have := h.1
        rw [hs2]; unfold maxLen at this; unfold maxI; omega
    · rename_i u ht
      simp only [Bool.and_eq_true, Bool.not_eq_true'] at hf
      obtain ⟨hf, hz⟩ := hf
      have hz0 : sz tb u ≠ 0 := fun e => by rw [e] at hz; simp at hz
      have hu : td tb u ≠ .other := fun e => hz0 (by
        cases n with
        | zero => simp [flatT] at hf
        | succ n => simp [flatT, e] at hf)
      have hcu := cellsOf_sz hT (hT.lt_of_td hu)
      rcases DataW.trod_slice (hT.sl ht) h with ⟨rfl, _⟩ | ⟨a, len, cap, elems, rest, m, _, rfl, _, hb, hl, hm, hlen, hel, _, _⟩
      · exact ⟨.sl [], .sl0 ht⟩
      · rcases Nat.eq_zero_or_pos len with h0 | h0
        · subst h0; exact ⟨.sl [], .sl0 ht⟩
        · have each : ∀ i, i < len → ∃ x : List Value × E, w.cells? 0 (a.add (i * sz tb u)) (sz tb u) = some x.1 ∧ Rd tb (Hw w) u x.1 x.2 := fun i hi => by
            have he := hel i hi
            rw [hcu] at he
            have hsome : elems[i]? = some elems[i] := List.getElem?_eq_getElem (by omega)
            rw [hsome] at he
            cases hc : w.cells? 0 (a.add (i * sz tb u)) (sz tb u) with
            | none => rw [hc] at he; simp at he
            | some vs =>
              rw [hc] at he
              obtain ⟨x, hx⟩ := trod_rd hT n m u vs _ hf (by simpa using he)
              exact ⟨(vs, x), rfl, hx⟩
          have h00 := each 0 h0
          obtain ⟨x0, hx0, _⟩ := h00
          have hspot : a.spot = none := by
            obtain ⟨_, g2, g3⟩ := World.cells?_some hx0
            have := g3 0 (by omega)
            have h1 : x0.1[0]? = some (x0.1[0]'(by omega)) := List.getElem?_eq_getElem (by omega)
            rw [h1] at this
            simp [Addr.add] at this
            exact World.cell?_spot this
          obtain ⟨b, off, sp⟩ := a
          cases hspot
          have hadd : ∀ i, (⟨b, off, none⟩ : Addr).add i = ⟨b, off + i, none⟩ := fun i => Go.WideShapes.add_plain _ _ _
          have cell : ∀ i, i < len → ∀ j, j < sz tb u → ∃ v, w.cell? ⟨b, off + (i * sz tb u + j), none⟩ = some v := fun i hi j hj => by
            obtain ⟨x, hx, _⟩ := each i hi
            obtain ⟨_, g2, g3⟩ := World.cells?_some hx
            have := g3 j hj
            rw [List.getElem?_eq_getElem (by omega), hadd, Go.WideShapes.add_plain] at this
            rw [← Nat.add_assoc]
            exact ⟨_, this⟩
          have cell2 : ∀ j, j < len * sz tb u → ∃ v, w.cell? ⟨b, off + j, none⟩ = some v := fun j hj => by
            have hp : 0 < sz tb u := by omega
            have h1 : j / sz tb u < len := (Nat.div_lt_iff_lt_mul hp).2 hj
            have := cell (j / sz tb u) h1 (j % sz tb u) (Nat.mod_lt _ hp)
            rwa [Nat.mul_comm, Nat.div_add_mod] at this
          let cs : List Value := (List.range (len * sz tb u)).map fun j => (w.cell? ⟨b, off + j, none⟩).getD undef
          have hcs : ∀ j v, cs[j]? = some v → w.cell? ⟨b, off + j, none⟩ = some v := fun j v hj => by
            have hjl : j < len * sz tb u := by have := (List.getElem?_eq_some_iff.1 hj).1; simpa [cs] using this
            obtain ⟨v', hv'⟩ := cell2 j hjl
            simp only [cs, List.getElem?_map, List.getElem?_range hjl, Option.map_some, Option.some.injEq, hv', Option.getD_some] at hj
            rw [hv', hj]
          have hcl : cs.length = len * sz tb u := by simp [cs]
          obtain ⟨xs, hx1, hx2⟩ := choose_list (p := fun i x => Rd tb (Hw w) u (seg cs (i * sz tb u) (sz tb u)) x) len fun i hi => by
            obtain ⟨⟨vs, x⟩, hx, hr⟩ := each i hi
            refine ⟨x, ?_⟩
            have : seg cs (i * sz tb u) (sz tb u) = vs := by
              obtain ⟨_, g2, g3⟩ := World.cells?_some hx
              apply List.ext_getElem?
              intro j
              rcases Nat.lt_or_ge j (sz tb u) with hj | hj
              · rw [seg_get hj]
                have h1 := g3 j hj
                rw [hadd, Go.WideShapes.add_plain] at h1
                have hlt : i * sz tb u + j < cs.length := by
                  rw [hcl]; have := Nat.mul_le_mul_right (sz tb u) (show i + 1 ≤ len from hi); rw [Nat.add_mul, Nat.one_mul] at this; omega
                rw [List.getElem?_eq_getElem hlt]
                have h2 := hcs _ _ (List.getElem?_eq_getElem hlt)
                rw [← Nat.add_assoc, h1] at h2
                exact h2.symm
              · rw [List.getElem?_eq_none (by simp [seg]; omega), List.getElem?_eq_none (by simp only at g2; omega)]
            rw [this]; exact hr
          have := Rd.sl (tb := tb) (H := Hw w) (t := t) (u := u) (b := b) (off := off) (c := cap) (cs := cs) (xs := xs) ht (by rw [hcl, hx1]) (fun j v hj => Hw_pers.2 (hcs j v hj)) hx2 (by omega) (by unfold maxLen at hm; unfold maxN; omega)
          rw [hx1] at this
          exact ⟨_, this⟩
    · rename_i m u ht
      have hu : td tb u ≠ .other := fun e => by
        cases n with
        | zero => simp [flatT] at hf
        | succ n => simp [flatT, e] at hf
      have hcu := cellsOf_sz hT (hT.lt_of_td hu)
      have hct := cellsOf_sz hT (hT.lt_of_td (t := t) (by rw [ht]; simp))
      obtain ⟨ys, q, _, _, hl, hlen, hel⟩ := DataW.trod_array (hT.arr ht) h
      rw [hct, hT.sz_arr ht] at hl
      obtain ⟨xs, hx1, hx2⟩ := choose_list (p := fun i x => Rd tb (Hw w) u (seg cs (i * sz tb u) (sz tb u)) x) m fun i hi => by
        have he := hel i hi
        rw [hcu, List.getElem?_eq_getElem (by omega)] at he
        exact trod_rd hT n q u _ _ hf he
      exact ⟨_, .arr ht hl hx1 hx2⟩
    · rename_i fs ht
      obtain ⟨gs, hg, hge⟩ := hT.st ht
      have hct := cellsOf_sz hT (hT.lt_of_td (t := t) (by rw [ht]; simp))
      obtain ⟨ys, q, _, _, hl, hlen, hel⟩ := DataW.trod_struct hg h
      rw [hct] at hl
      have hfl : fs.length = gs.size := by rw [← hge]; simp
      obtain ⟨xs, hx1, hx2⟩ := choose_list (p := fun i x => ∀ f : TypeId × Nat, fs[i]? = some f → Rd tb (Hw w) f.1 (seg cs f.2 (sz tb f.1)) x) fs.length fun i hi => by
        have hig : i < gs.size := by omega
        have he := hel i gs[i] (Array.getElem?_eq_getElem hig)
        rw [List.getElem?_eq_getElem (by omega)] at he
        have hfi : fs[i]? = some (gs[i].type, gs[i].offset) := by rw [← hge]; simp [hig]
        have hff := List.all_eq_true.1 hf _ (List.mem_of_getElem? hfi)
        have htn : td tb gs[i].type ≠ .other := fun e => by
          cases n with
          | zero => simp [flatT] at hff
          | succ n => simp [flatT, e] at hff
        have hcf := cellsOf_sz hT (hT.lt_of_td htn)
        rw [hcf] at he
        obtain ⟨x, hx⟩ := trod_rd hT n q _ _ _ hff he
        exact ⟨x, fun f hf' => by rw [hfi] at hf'; cases hf'; exact hx⟩
      exact ⟨_, .st ht hl hx1 fun i f x hf' hx => hx2 i x hx f hf'⟩
    · cases hf

/-- An argument of plain data, of whatever shape. -/
theorem arg_rd {P : Program} {tb : Tab} (hT : TabOk P tb) {H : Type} {enc : TypeId × Value → H} {w : World} {r : Reach} {base : Nat} {t : TypeId} {v : Value} {d : DataW H} {p : List MemPlace} (n : Nat) (hf : flatT tb n t = true)
    (hval : Value.okWide P w r base t v) (h : DataW.Trod enc P w 0 (fun _ => true) true t v d p) : ∃ x, DRel tb (Hw w) [] [] v (.t t (.e x)) := by
  obtain ⟨fuel, hh⟩ := h
  obtain ⟨x, hx⟩ := trod_rd hT n fuel t _ _ hf hh
  refine ⟨x, .t (cs := v.cells.toList) ?_ (.e hx)⟩
  unfold VC
  cases hn : n with
  | zero => subst hn; simp [flatT] at hf
  | succ m =>
    subst hn
    unfold flatT at hf
    split at hf
    · rename_i k ht
      simp only [Value.okWide, hT.int ht, Cell.okWide] at hval
      cases v <;> simp_all [Cell.ok, isAggT, Value.cells]
    · rename_i ht
      simp only [Value.okWide, hT.bool ht, Cell.okWide] at hval
      cases v <;> simp_all [Cell.ok, isAggT, Value.cells]
    · rename_i ht
      simp only [Value.okWide, hT.str ht, Cell.okWide] at hval
      cases v <;> simp_all [Cell.ok, isAggT, Value.cells]
    · rename_i u ht
      simp only [Value.okWide, hT.sl ht, Cell.okWide] at hval
      cases v <;> simp_all [Cell.ok, isAggT, Value.cells]
    · rename_i m u ht
      simp only [Value.okWide, hT.arr ht] at hval
      obtain ⟨cs, rfl, _⟩ := hval
      simp [isAggT, ht, Value.cells]
    · rename_i fs ht
      obtain ⟨gs, hg, hge⟩ := hT.st ht
      simp only [Value.okWide, hg] at hval
      obtain ⟨cs, rfl, _⟩ := hval
      simp [isAggT, ht, Value.cells]
    · cases hf
end Go.Den
/- Law 15: the table of types. -/
namespace Go.Den.Q15
open Go Go.Den Go.Proofs
def tb : Tab :=
⟨[⟨.other, 1, 0, 0⟩,
  ⟨.fn, 1, 8, 1⟩,
  ⟨.int .i64, 1, 8, 2⟩,
  ⟨.int .i64, 1, 8, 3⟩,
  ⟨.bool, 1, 1, 4⟩,
  ⟨.int .u8, 1, 1, 5⟩,
  ⟨.int .u8, 1, 1, 5⟩,
  ⟨.st [(2, 0), (3, 1), (4, 2), (6, 3)], 4, 24, 7⟩,
  ⟨.st [(2, 0), (3, 1), (4, 2), (6, 3)], 4, 24, 7⟩,
  ⟨.str, 1, 16, 9⟩,
  ⟨.str, 1, 16, 9⟩,
  ⟨.str, 1, 16, 9⟩,
  ⟨.int .u64, 1, 8, 12⟩,
  ⟨.st [(9, 0), (12, 1)], 2, 24, 13⟩,
  ⟨.st [(9, 0), (12, 1)], 2, 24, 13⟩,
  ⟨.ptr 54, 1, 8, 15⟩,
  ⟨.ptr 57, 1, 8, 16⟩,
  ⟨.ptr 67, 1, 8, 17⟩,
  ⟨.st [(17, 0)], 1, 8, 18⟩,
  ⟨.st [(17, 0)], 1, 8, 18⟩,
  ⟨.ifc, 1, 16, 20⟩,
  ⟨.int .i32, 1, 4, 21⟩,
  ⟨.sl 3, 1, 24, 22⟩,
  ⟨.fn, 1, 8, 23⟩,
  ⟨.fn, 1, 8, 24⟩,
  ⟨.int .i64, 1, 8, 3⟩,
  ⟨.other, 1, 0, 26⟩,
  ⟨.fn, 1, 8, 27⟩,
  ⟨.other, 1, 0, 28⟩,
  ⟨.fn, 1, 8, 29⟩,
  ⟨.fn, 1, 8, 30⟩,
  ⟨.sl 22, 1, 24, 31⟩,
  ⟨.fn, 1, 8, 32⟩,
  ⟨.fn, 1, 8, 33⟩,
  ⟨.other, 1, 0, 34⟩,
  ⟨.fn, 1, 8, 35⟩,
  ⟨.other, 1, 0, 36⟩,
  ⟨.fn, 1, 8, 37⟩,
  ⟨.fn, 1, 8, 38⟩,
  ⟨.fn, 1, 8, 39⟩,
  ⟨.fn, 1, 8, 40⟩,
  ⟨.sl 9, 1, 24, 41⟩,
  ⟨.other, 1, 0, 42⟩,
  ⟨.fn, 1, 8, 43⟩,
  ⟨.other, 1, 0, 44⟩,
  ⟨.fn, 1, 8, 45⟩,
  ⟨.other, 1, 0, 46⟩,
  ⟨.fn, 1, 8, 47⟩,
  ⟨.fn, 1, 8, 48⟩,
  ⟨.fn, 1, 8, 49⟩,
  ⟨.fn, 1, 8, 50⟩,
  ⟨.fn, 1, 8, 51⟩,
  ⟨.fn, 1, 8, 52⟩,
  ⟨.st [(17, 0), (17, 1), (17, 2), (9, 3)], 4, 40, 53⟩,
  ⟨.st [(17, 0), (17, 1), (17, 2), (9, 3)], 4, 40, 53⟩,
  ⟨.arr 0 16, 0, 0, 55⟩,
  ⟨.st [(55, 0)], 0, 0, 56⟩,
  ⟨.st [(55, 0)], 0, 0, 56⟩,
  ⟨.fn, 1, 8, 58⟩,
  ⟨.int .u32, 1, 4, 59⟩,
  ⟨.int .u8, 1, 1, 5⟩,
  ⟨.int .u8, 1, 1, 5⟩,
  ⟨.fn, 1, 8, 62⟩,
  ⟨.ptr 5, 1, 8, 63⟩,
  ⟨.int .i32, 1, 4, 21⟩,
  ⟨.int .i32, 1, 4, 21⟩,
  ⟨.st [(12, 0), (12, 1), (59, 2), (60, 3), (5, 4), (5, 5), (61, 6), (62, 7), (63, 8), (64, 9), (65, 10)], 11, 48, 66⟩,
  ⟨.st [(12, 0), (12, 1), (59, 2), (60, 3), (5, 4), (5, 5), (61, 6), (62, 7), (63, 8), (64, 9), (65, 10)], 11, 48, 66⟩,
  ⟨.other, 1, 8, 68⟩], []⟩

theorem tabOk : TabOk Try.prog tb := ⟨by kernel_rfl, by kernel_rfl, by kernel_rfl, by kernel_rfl⟩
theorem zeroOk : ZeroOk Try.prog tb := by unfold ZeroOk; kernel_rfl
theorem ok (k n : Nat) : Ok ⟨Try.prog, tb, k, n, 4⟩ := ⟨tabOk, zeroOk, rfl⟩
theorem mixed : Try.prog.follows .mixedOrders = true := by kernel_rfl
end Go.Den.Q15
/- Law 15: contracts. -/
namespace Go.Den.Q15
open Go Go.Den Go.Proofs
set_option maxRecDepth 8000
set_option linter.unusedVariables false

theorem clone_ok (q : List E) (hq : q.length ≤ 100000) : FnOk Try.prog tb 7 [22] [22] [.sl q] [.sl q] := by
  refine FnOk_of_V (fn := Try.f7) (bt := 4) (ok 0 _) Try.func7 rfl rfl rfl (by decide) fun hw => ?_
  apply V_of_VX
  refine VX_go (fs := []) (ok 0 _) trivial 100 [] rfl trivial ?_
  refine VX_op rfl rfl (OpV_nilS (ok 0 _) rfl (.inl rfl) rfl rfl rfl rfl) ?_
  rintro d s ⟨b, hb, rfl, rfl⟩
  refine VX_go (fs := []) (ok 0 _) trivial 100 [] rfl trivial ?_
  refine VX_split 4 rfl rfl (fun h => ?_) (fun h => ?_)
  · refine VX_go (fs := []) (ok 0 _) trivial 100 [] rfl trivial ?_
    exact ⟨.inr rfl, by rw [hb h]; rfl⟩
  · refine VX_go (fs := []) (ok 0 _) trivial 100 [] rfl ?_ ?_
    · simp [allP, nb, tb, maxL]; omega
    exact ⟨.inr rfl, rfl⟩

theorem w64 {a : Int} (h1 : -9223372036854775808 ≤ a) (h2 : a ≤ 9223372036854775807) : IntKind.wrap .i64 a = a := inR_wrap (by simp [inR]; omega)
theorem getD_int {p : List Int} {i : Nat} (h : i < p.length) : (p.map E.int).getD i .nilp = .int p[i] := by simp [List.getD, h]

theorem same_ok (p q : List Int) (hq : q.length ≤ 100000) : FnOk Try.prog tb 11 [22, 22] [4] [.sl (p.map .int), .sl (q.map .int)] [.bool (p == q)] := by
  refine FnOk_of_V (fn := Try.f11) (bt := 4) (ok 0 _) Try.func11 rfl rfl rfl (by decide) fun hw => ?_
  apply V_of_VX
  refine VX_go (fs := []) (ok 0 _) trivial 100 [] rfl trivial ?_
  refine VX_split 10 rfl rfl (fun h => ?_) (fun h => ?_)
  · refine VX_go (fs := []) (ok 0 _) trivial 100 [] rfl trivial ?_
    have : (p == q) = false := by
      simp at h ⊢
      intro e; subst e; simp at h
    rw [this]; exact ⟨.inr rfl, rfl⟩
  · have hl : p.length = q.length := by simp at h; omega
    refine VX_go (fs := []) (ok 0 _) trivial 100 [] rfl trivial ?_
    refine VX_loopA (fun i : Nat => i ≤ p.length ∧ (p.drop i == q.drop i) = (p == q)) (fun i => [(13, .t 3 (.e (.int i))), (12, .t 3 (.e (.int p.length))), (0, .t 22 (.e (.sl (p.map .int)))), (1, .t 22 (.e (.sl (q.map .int))))]) (fun _ => []) (fun i => p.length - i) 0 ⟨by simp, by simp⟩ ?_ ?_
    · exact wk0 rfl (by simp) (lc (ls rfl rfl) (lc (li (by simp)) (lc (ls rfl rfl) (lc (ls rfl rfl) lnil))))
    · rintro i ⟨hi, hpq⟩
      refine VX_go (fs := []) (ok 0 _) trivial 100 [] rfl trivial ?_
      refine VX_split 14 rfl rfl (fun h => ?_) (fun h => ?_)
      · have hi : i < p.length := by simpa using h
        refine VX_go (fs := []) (ok 0 _) trivial 100 [] rfl trivial ?_
        refine VX_draw [] [(0, true), (1, true), (2, true), (3, true), (4, true), (5, true), (6, true), (7, true), (8, true)] mixed (by kernel_rfl) (by kernel_rfl) (by kernel_rfl) ?_
        refine VX_go (fs := []) (ok 0 _) trivial 100 [24] rfl ?_ ?_
        · simp [allP]; omega
        refine VX_eq 19 rfl rfl (d' := .t 3 (.e (.int p[i]))) (congrArg (fun x => D.t 3 (.e x)) (getD_int hi)) ?_
        refine VX_eq 23 rfl rfl (d' := .t 3 (.e (.int (q[i]'(by omega))))) (congrArg (fun x => D.t 3 (.e x)) (getD_int (by omega))) ?_
        refine VX_go (fs := []) (ok 0 _) trivial 100 [] rfl trivial ?_
        have hd1 : p.drop i = p[i] :: p.drop (i + 1) := List.drop_eq_getElem_cons hi
        have hd2 : q.drop i = q[i]'(by omega) :: q.drop (i + 1) := List.drop_eq_getElem_cons (by omega)
        rw [hd1, hd2] at hpq
        refine VX_split 24 rfl rfl (fun h => ?_) (fun h => ?_)
        · refine VX_go (fs := []) (ok 0 _) trivial 100 [] rfl trivial ?_
          refine loop_ret ⟨.inr rfl, ?_⟩
          have : (p == q) = false := by rw [← hpq]; simp [-List.getElem_cons_drop] at h ⊢; intro e; exact absurd e h
          rw [this]; rfl
        · refine VX_go (fs := []) (ok 0 _) trivial 100 [] rfl trivial ?_
          refine loop_nrm ⟨i + 1, by omega, ⟨by omega, ?_⟩, ?_⟩
          · rw [← hpq]; simp at h; simp [-List.getElem_cons_drop, h]
          · refine wk0 rfl (by simp) (lc (li ?_) (lc (ls rfl rfl) (lc (ls rfl rfl) (lc (ls rfl rfl) lnil))))
            rw [w64 (by omega) (by omega)]; simp
      · refine VX_go (fs := []) (ok 0 _) trivial 100 [] rfl trivial ?_
        apply loop_brk
        refine VX_go (fs := []) (ok 0 _) trivial 100 [] rfl trivial ?_
        have : i = p.length := by simp at h; omega
        have : (p == q) = true := by rw [← hpq, this]; simp [hl]
        rw [this]; exact ⟨.inr rfl, rfl⟩

def idx (x : Int) : List Int → Nat → Int
  | [], _ => -1
  | y :: ys, i => if y = x then i else idx x ys (i + 1)

theorem at_ok (q : List Int) (x : Int) (hq : q.length ≤ 100000) : FnOk Try.prog tb 16 [22, 3] [3] [.sl (q.map .int), .int x] [.int (idx x q 0)] := by
  refine FnOk_of_V (fn := Try.f16) (bt := 4) (ok 0 _) Try.func16 rfl rfl rfl (by decide) fun hw => ?_
  apply V_of_VX
  refine VX_go (fs := []) (ok 0 _) trivial 100 [] rfl trivial ?_
  refine VX_loopA (fun i : Nat => i ≤ q.length ∧ idx x (q.drop i) i = idx x q 0) (fun i => [(8, .t 3 (.e (.int i))), (7, .t 3 (.e (.int q.length))), (0, .t 22 (.e (.sl (q.map .int)))), (1, .t 3 (.e (.int x)))]) (fun _ => []) (fun i => q.length - i) 0 ⟨by simp, by simp⟩ ?_ ?_
  · exact wk0 rfl (by simp) (lc (ls rfl rfl) (lc (li (by simp)) (lc (ls rfl rfl) (lc (ls rfl rfl) lnil))))
  · rintro i ⟨hi, hpq⟩
    refine VX_go (fs := []) (ok 0 _) trivial 100 [] rfl trivial ?_
    refine VX_split 9 rfl rfl (fun h => ?_) (fun h => ?_)
    · have hi : i < q.length := by simpa using h
      refine VX_go (fs := []) (ok 0 _) trivial 100 [16] rfl ?_ ?_
      · simp [allP]; omega
      refine VX_eq 14 rfl rfl (d' := .t 3 (.e (.int q[i]))) (congrArg (fun x => D.t 3 (.e x)) (getD_int hi)) ?_
      refine VX_go (fs := []) (ok 0 _) trivial 100 [] rfl trivial ?_
      have hd1 : q.drop i = q[i] :: q.drop (i + 1) := List.drop_eq_getElem_cons hi
      rw [hd1] at hpq
      refine VX_split 16 rfl rfl (fun h => ?_) (fun h => ?_)
      · refine VX_go (fs := []) (ok 0 _) trivial 100 [] rfl trivial ?_
        have : idx x q 0 = i := by rw [← hpq]; simp at h; simp [idx, h]
        rw [this]
        exact loop_ret ⟨.inr rfl, rfl⟩
      · refine VX_go (fs := []) (ok 0 _) trivial 100 [] rfl trivial ?_
        refine loop_nrm ⟨i + 1, by omega, ⟨by omega, ?_⟩, ?_⟩
        · rw [← hpq]; simp at h; simp [idx, h]
        · refine wk0 rfl (by simp) (lc (li ?_) (lc (ls rfl rfl) (lc (ls rfl rfl) (lc (ls rfl rfl) lnil))))
          rw [w64 (by omega) (by omega)]; simp
    · refine VX_go (fs := []) (ok 0 _) trivial 100 [] rfl trivial ?_
      apply loop_brk
      refine VX_go (fs := []) (ok 0 _) trivial 100 [] rfl trivial ?_
      have : i = q.length := by simp at h; omega
      rw [← hpq, this, List.drop_length]
      exact ⟨.inr rfl, rfl⟩

theorem clone_row (q : List E) (hq : q.length ≤ 100000) : FnG Try.prog tb 7 [] [.t 22 (.e (.sl q))] (fun d s => d = .t 22 (.lsl 0 q) ∧ s = [.row 3 q.length]) := by
  refine FnG_of_V (fn := Try.f7) (bt := 4) true [0] [22] (ok 0 _) Try.func7 rfl rfl rfl fun _ _ _ _ _ _ => ?_
  apply V_of_VX
  refine VX_go (fs := []) (ok 0 _) trivial 100 [] rfl trivial ?_
  refine VX_op rfl rfl (OpV_nilS (ok 0 _) rfl (.inl rfl) rfl rfl rfl rfl) ?_
  rintro d s ⟨b, hb, rfl, rfl⟩
  refine VX_go (fs := []) (ok 0 _) trivial 100 [] rfl trivial ?_
  refine VX_split 4 rfl rfl (fun h => ?_) (fun h => ?_)
  · refine VX_go (fs := []) (ok 0 _) trivial 5 [] rfl trivial ?_
    refine VX_promote 2 (u := 3) rfl rfl ?_
    refine VX_go (fs := []) (ok 0 _) trivial 100 [] rfl trivial ?_
    refine ⟨.inr rfl, _, _, _, rfl, rfl, rfl, ?_⟩
    rw [hb h]; exact ⟨rfl, rfl⟩
  · refine VX_go (fs := []) (ok 0 _) trivial 100 [] rfl ?_ ?_
    · simp [allP, nb, tb, maxL]; omega
    exact ⟨.inr rfl, _, _, _, rfl, rfl, rfl, rfl, rfl⟩

def pushE (q : List Int) (x m : Int) : List Int := if (q.length : Int) ≥ m then q else q ++ [x]
def pushN (q : List Int) (m : Int) : Int := if (q.length : Int) ≥ m then 6 else 0
theorem push_ok (q : List Int) (x m : Int) (hq : q.length ≤ 90000) : FnOk Try.prog tb 8 [22, 3, 3] [22, 25] [.sl (q.map .int), .int x, .int m] [.sl ((pushE q x m).map .int), .int (pushN q m)] := by
  refine FnOk_of_V (fn := Try.f8) (bt := 4) (ok 0 _) Try.func8 rfl rfl rfl (by decide) fun hw => ?_
  apply V_of_VX
  refine VX_go (fs := []) (ok 0 _) trivial 100 [] rfl trivial ?_
  refine VX_split 11 rfl rfl (fun h => ?_) (fun h => ?_)
  · refine VX_go (fs := []) (ok 0 _) trivial 100 [] rfl trivial ?_
    refine VX_callD (ok 0 _) [22] [] rfl rfl rfl rfl rfl rfl (clone_row _ (by simp; omega)) rfl rfl rfl ?_
    refine VX_go (fs := []) (ok 0 _) trivial 100 [] rfl trivial ?_
    have h : (q.length : Int) ≥ m := by simpa using h
    simp only [pushE, pushN, h, if_true]
    exact ⟨.inr rfl, rfl⟩
  · refine VX_go (fs := []) (ok 0 _) trivial 100 [] rfl trivial ?_
    refine VX_callD (ok 0 _) [22] [] rfl rfl rfl rfl rfl rfl (clone_row _ (by simp; omega)) rfl rfl rfl ?_
    refine VX_go (fs := []) (ok 0 _) trivial 100 [] rfl ?_ ?_
    · simp [allP, nb, tb, maxL]; omega
    have h : ¬ (q.length : Int) ≥ m := by simpa using h
    simp only [pushE, pushN, h, if_false, List.map_append]
    exact ⟨.inr rfl, rfl⟩
end Go.Den.Q15
/- Law 15: more contracts. -/
namespace Go.Den.Q15
open Go Go.Den Go.Proofs
set_option maxRecDepth 8000
set_option linter.unusedVariables false

theorem idx_range (x : Int) : ∀ (q : List Int) (i : Nat), idx x q i = -1 ∨ ((i : Int) ≤ idx x q i ∧ idx x q i < i + q.length)
  | [], i => .inl rfl
  | y :: ys, i => by
    simp only [idx]
    split
    · right; simp; omega
    · rcases idx_range x ys (i + 1) with h | h
      · exact .inl h
      · right; simp at h ⊢; omega
theorem wt64 {m : Int} (h : Wt tb 3 (.int m)) : -9223372036854775808 ≤ m ∧ m ≤ 9223372036854775807 := by
  obtain ⟨H, cs, h⟩ := h
  cases h with
  | int a b =>
    have : td tb 3 = .int .i64 := rfl
    rw [this] at a; cases a
    have := wrap_inR (k := .i64) m
    rw [b] at this
    simpa [inR] using this

theorem index_ok (q : List Int) (x : Int) (hq : q.length ≤ 100000) : FnOk Try.prog tb 25 [22, 3] [3] [.sl (q.map .int), .int x] [.int (idx x q 0)] := by
  refine FnOk_of_V (fn := Try.f25) (bt := 4) (ok 0 _) Try.func25 rfl rfl rfl (by decide) fun hw => ?_
  apply V_of_VX
  refine VX_go (fs := []) (ok 0 _) trivial 100 [] rfl trivial ?_
  refine VX_loopA (fun i : Nat => i ≤ q.length ∧ idx x (q.drop i) i = idx x q 0) (fun i => [(8, .t 3 (.e (.int i))), (7, .t 3 (.e (.int q.length))), (0, .t 22 (.e (.sl (q.map .int)))), (1, .t 3 (.e (.int x)))]) (fun _ => []) (fun i => q.length - i) 0 ⟨by simp, by simp⟩ ?_ ?_
  · exact wk0 rfl (by simp) (lc (ls rfl rfl) (lc (li (by simp)) (lc (ls rfl rfl) (lc (ls rfl rfl) lnil))))
  · rintro i ⟨hi, hpq⟩
    refine VX_go (fs := []) (ok 0 _) trivial 100 [] rfl trivial ?_
    refine VX_split 9 rfl rfl (fun h => ?_) (fun h => ?_)
    · have hi : i < q.length := by simpa using h
      refine VX_go (fs := []) (ok 0 _) trivial 100 [16] rfl ?_ ?_
      · simp [allP]; omega
      refine VX_eq 15 rfl rfl (d' := .t 3 (.e (.int q[i]))) (congrArg (fun x => D.t 3 (.e x)) (getD_int hi)) ?_
      refine VX_go (fs := []) (ok 0 _) trivial 100 [] rfl trivial ?_
      have hd1 : q.drop i = q[i] :: q.drop (i + 1) := List.drop_eq_getElem_cons hi
      rw [hd1] at hpq
      refine VX_split 16 rfl rfl (fun h => ?_) (fun h => ?_)
      · refine VX_go (fs := []) (ok 0 _) trivial 100 [] rfl trivial ?_
        have : idx x q 0 = i := by rw [← hpq]; simp at h; simp [idx, h]
        rw [this]
        exact loop_ret ⟨.inr rfl, rfl⟩
      · refine VX_go (fs := []) (ok 0 _) trivial 100 [] rfl trivial ?_
        refine loop_nrm ⟨i + 1, by omega, ⟨by omega, ?_⟩, ?_⟩
        · rw [← hpq]; simp at h; simp [idx]; intro e; exact absurd e.symm h
        · refine wk0 rfl (by simp) (lc (li ?_) (lc (ls rfl rfl) (lc (ls rfl rfl) (lc (ls rfl rfl) lnil))))
          rw [w64 (by omega) (by omega)]; simp
    · refine VX_go (fs := []) (ok 0 _) trivial 100 [] rfl trivial ?_
      apply loop_brk
      refine VX_go (fs := []) (ok 0 _) trivial 100 [] rfl trivial ?_
      have : i = q.length := by simp at h; omega
      rw [← hpq, this, List.drop_length]
      exact ⟨.inr rfl, rfl⟩

theorem contains_ok (q : List Int) (x : Int) (hq : q.length ≤ 100000) : FnOk Try.prog tb 26 [22, 3] [4] [.sl (q.map .int), .int x] [.bool (decide (idx x q 0 ≥ 0))] := by
  refine FnOk_of_V (fn := Try.f26) (bt := 4) (ok 0 _) Try.func26 rfl rfl rfl (by decide) fun hw => ?_
  apply V_of_VX
  refine VX_go (fs := []) (ok 0 _) trivial 100 [] rfl trivial ?_
  refine VX_callD (ok 0 _) [22, 3] [] rfl rfl rfl rfl rfl rfl (index_ok q x hq).g rfl rfl rfl ?_
  refine VX_go (fs := []) (ok 0 _) trivial 100 [] rfl trivial ?_
  exact ⟨.inr rfl, rfl⟩
theorem has_ok (q : List Int) (x : Int) (hq : q.length ≤ 100000) : FnOk Try.prog tb 15 [22, 3] [4] [.sl (q.map .int), .int x] [.bool (decide (idx x q 0 ≥ 0))] := by
  refine FnOk_of_V (fn := Try.f15) (bt := 4) (ok 0 _) Try.func15 rfl rfl rfl (by decide) fun hw => ?_
  apply V_of_VX
  refine VX_go (fs := []) (ok 0 _) trivial 100 [] rfl trivial ?_
  refine VX_callD (ok 0 _) [22, 3] [] rfl rfl rfl rfl rfl rfl (contains_ok q x hq).g rfl rfl rfl ?_
  refine VX_go (fs := []) (ok 0 _) trivial 100 [] rfl trivial ?_
  exact ⟨.inr rfl, rfl⟩
theorem ahead_ok (q : List Int) (x y : Int) (hq : q.length ≤ 100000) : FnOk Try.prog tb 17 [22, 3, 3] [4] [.sl (q.map .int), .int x, .int y] [.bool (decide (idx x q 0 ≥ 0 ∧ idx x q 0 < idx y q 0))] := by
  refine FnOk_of_V (fn := Try.f17) (bt := 4) (ok 0 _) Try.func17 rfl rfl rfl (by decide) fun hw => ?_
  apply V_of_VX
  refine VX_go (fs := []) (ok 0 _) trivial 100 [] rfl trivial ?_
  refine VX_callD (ok 0 _) [22, 3] [] rfl rfl rfl rfl rfl rfl (index_ok q x hq).g rfl rfl rfl ?_
  refine VX_go (fs := []) (ok 0 _) trivial 100 [] rfl trivial ?_
  refine VX_callD (ok 0 _) [22, 3] [] rfl rfl rfl rfl rfl rfl (index_ok q y hq).g rfl rfl rfl ?_
  refine VX_go (fs := []) (ok 0 _) trivial 100 [] rfl trivial ?_
  refine VX_split 17 rfl rfl (fun h => ?_) (fun h => ?_)
  · refine VX_go (fs := []) (ok 0 _) trivial 100 [] rfl trivial ?_
    have : decide (idx x q 0 ≥ 0 ∧ idx x q 0 < idx y q 0) = decide (idx x q 0 < idx y q 0) := by simp at h; simp [h]
    rw [this]
    exact ⟨.inr rfl, rfl⟩
  · refine VX_go (fs := []) (ok 0 _) trivial 100 [] rfl trivial ?_
    have : decide (idx x q 0 ≥ 0 ∧ idx x q 0 < idx y q 0) = false := by simp at h; simp; omega
    rw [this]
    exact ⟨.inr rfl, rfl⟩
theorem rahead_ok (q : List Int) (x y : Int) (hq : q.length ≤ 100000) : FnOk Try.prog tb 18 [22, 3, 3] [4] [.sl (q.map .int), .int x, .int y] [.bool (decide (idx x q 0 ≥ 0 ∧ idx x q 0 < idx y q 0))] := by
  refine FnOk_of_V (fn := Try.f18) (bt := 4) (ok 0 _) Try.func18 rfl rfl rfl (by decide) fun hw => ?_
  apply V_of_VX
  refine VX_go (fs := []) (ok 0 _) trivial 100 [] rfl trivial ?_
  refine VX_callD (ok 0 _) [22, 3] [] rfl rfl rfl rfl rfl rfl (at_ok q x hq).g rfl rfl rfl ?_
  refine VX_go (fs := []) (ok 0 _) trivial 100 [] rfl trivial ?_
  refine VX_callD (ok 0 _) [22, 3] [] rfl rfl rfl rfl rfl rfl (at_ok q y hq).g rfl rfl rfl ?_
  refine VX_go (fs := []) (ok 0 _) trivial 100 [] rfl trivial ?_
  refine VX_split 17 rfl rfl (fun h => ?_) (fun h => ?_)
  · refine VX_go (fs := []) (ok 0 _) trivial 100 [] rfl trivial ?_
    refine VX_split 21 rfl rfl (fun h2 => ?_) (fun h2 => ?_)
    · refine VX_go (fs := []) (ok 0 _) trivial 100 [] rfl trivial ?_
      have : decide (idx x q 0 ≥ 0 ∧ idx x q 0 < idx y q 0) = decide (idx x q 0 < idx y q 0) := by simp at h; simp [h]
      rw [this]
      exact ⟨.inr rfl, rfl⟩
    · refine VX_go (fs := []) (ok 0 _) trivial 100 [] rfl trivial ?_
      have : decide (idx x q 0 ≥ 0 ∧ idx x q 0 < idx y q 0) = false := by simp at h h2; simp; omega
      rw [this]
      exact ⟨.inr rfl, rfl⟩
  · refine VX_go (fs := []) (ok 0 _) trivial 100 [] rfl trivial ?_
    have : decide (idx x q 0 ≥ 0 ∧ idx x q 0 < idx y q 0) = false := by simp at h; simp; omega
    rw [this]
    exact ⟨.inr rfl, rfl⟩

def lastE (q : List Int) : Int := match q.getLast? with
  | some x => x
  | none => 0
theorem last_ok (q : List Int) (hq : q.length ≤ 100000) : FnOk Try.prog tb 14 [22] [3, 4] [.sl (q.map .int)] [.int (lastE q), .bool (decide (q.length > 0))] := by
  refine FnOk_of_V (fn := Try.f14) (bt := 4) (ok 0 _) Try.func14 rfl rfl rfl (by decide) fun hw => ?_
  apply V_of_VX
  refine VX_go (fs := []) (ok 0 _) trivial 100 [] rfl trivial ?_
  refine VX_split 7 rfl rfl (fun h => ?_) (fun h => ?_)
  · refine VX_go (fs := []) (ok 0 _) trivial 100 [] rfl trivial ?_
    have : q = [] := by simpa using h
    subst this
    exact ⟨.inr rfl, rfl⟩
  · have hl : 0 < q.length := by simp at h; exact List.length_pos_iff.2 h
    refine VX_go (fs := []) (ok 0 _) trivial 100 [2] rfl ?_ ?_
    · simp only [allP]
      rw [w64 (by simp; omega) (by simp; omega)]
      simp; omega
    have hlt : q.length - 1 < q.length := by omega
    refine VX_eq 14 rfl rfl (d' := .t 3 (.e (.int (q[q.length - 1])))) (congrArg (fun x => D.t 3 (.e x)) ?_) ?_
    · show (q.map E.int).getD (IntKind.wrap .i64 (((q.map E.int).length : Int) - 1)).toNat .nilp = _
      rw [w64 (by simp; omega) (by simp; omega)]
      rw [show (((q.map E.int).length : Int) - 1).toNat = q.length - 1 by simp]
      exact getD_int hlt
    refine VX_go (fs := []) (ok 0 _) trivial 100 [] rfl trivial ?_
    have h1 : lastE q = q[q.length - 1] := by simp [lastE, List.getLast?_eq_getElem?, hlt]
    have h2 : decide (q.length > 0) = true := by simpa using hl
    rw [h1, h2]
    exact ⟨.inr rfl, rfl⟩
end Go.Den.Q15
/- Law 15: more contracts. -/
namespace Go.Den.Q15
open Go Go.Den Go.Proofs
set_option maxRecDepth 8000
set_option linter.unusedVariables false

def thr (q : List Int) (x : Int) : List Int := q.drop (idx x q 0 + 1).toNat
theorem through_ok (q : List Int) (x : Int) (hq : q.length ≤ 100000) : FnOk Try.prog tb 9 [22, 3] [22, 4] [.sl (q.map .int), .int x] [.sl ((thr q x).map .int), .bool (decide (idx x q 0 ≥ 0))] := by
  refine FnOk_of_V (fn := Try.f9) (bt := 4) (ok 0 _) Try.func9 rfl rfl rfl (by decide) fun hw => ?_
  have hr := idx_range x q 0
  have hw1 : IntKind.wrap .i64 (idx x q 0 + 1) = idx x q 0 + 1 := w64 (by omega) (by omega)
  apply V_of_VX
  refine VX_go (fs := []) (ok 0 _) trivial 100 [] rfl trivial ?_
  refine VX_callD (ok 0 _) [22, 3] [] rfl rfl rfl rfl rfl rfl (index_ok q x hq).g rfl rfl rfl ?_
  refine VX_go (fs := []) (ok 0 _) trivial 100 [14] rfl ?_ ?_
  · simp only [allP]; rw [hw1]; simp; omega
  refine VX_eq 13 rfl rfl (d' := .t 22 (.e (.sl ((thr q x).map .int)))) (congrArg (fun x => D.t 22 (.e (.sl x))) ?_) ?_
  · rw [hw1]; simp [thr]; rw [List.take_of_length_le (by simp)]
  refine VX_callD (ok 0 _) [22] [] rfl rfl rfl rfl rfl rfl (clone_ok _ (by simp [thr]; omega)).g rfl rfl rfl ?_
  refine VX_go (fs := []) (ok 0 _) trivial 100 [] rfl trivial ?_
  exact ⟨.inr rfl, rfl⟩

theorem rthrough_ok (q : List Int) (x : Int) (hq : q.length ≤ 100000) : FnOk Try.prog tb 13 [22, 3] [22, 4] [.sl (q.map .int), .int x] [.sl ((thr q x).map .int), .bool (decide (idx x q 0 ≥ 0))] := by
  refine FnOk_of_V (fn := Try.f13) (bt := 4) (ok 0 _) Try.func13 rfl rfl rfl (by decide) fun hw => ?_
  have hr := idx_range x q 0
  have hk : ∃ k : Nat, idx x q 0 = (k : Int) - 1 ∧ k ≤ q.length ∧ (idx x q 0 + 1).toNat = k := ⟨(idx x q 0 + 1).toNat, by omega, by omega, rfl⟩
  obtain ⟨k, hk1, hk2, hk3⟩ := hk
  apply V_of_VX
  refine VX_go (fs := []) (ok 0 _) trivial 100 [] rfl trivial ?_
  refine VX_callD (ok 0 _) [22, 3] [] rfl rfl rfl rfl rfl rfl (at_ok q x hq).g rfl rfl rfl ?_
  refine VX_go (fs := []) (ok 0 _) trivial 100 [] rfl trivial ?_
  refine VX_promote 7 (u := 3) rfl rfl ?_
  let L : Nat → List E := fun i => ((q.take i).drop k).map E.int
  refine VX_loopA (fun i : Nat => i ≤ q.length) (fun i => [(14, .t 3 (.e (.int i))), (13, .t 3 (.e (.int q.length))), (0, .t 22 (.e (.sl (q.map .int)))), (6, .t 3 (.e (.int (idx x q 0)))), (7, .t 22 (.lsl 0 (L i)))]) (fun i => [.row 3 (L i).length]) (fun i => q.length - i) 0 (by simp) ?_ ?_
  · have h0 : L 0 = [] := by simp [L]
    rw [h0]
    exact wk0 rfl (by simp [Blk.under]) (lc (ls rfl rfl) (lc (li (by simp)) (lc (ls rfl rfl) (lc (ls rfl rfl) (lc (ls rfl rfl) lnil)))))
  · rintro i hi
    refine VX_go (fs := []) (ok 0 _) trivial 100 [] rfl trivial ?_
    refine VX_split 15 rfl rfl (fun h => ?_) (fun h => ?_)
    · have hi : i < q.length := by simpa using h
      have hwi : IntKind.wrap .i64 ((i : Int) + 1) = ((i + 1 : Nat) : Int) := by rw [w64 (by omega) (by omega)]; simp
      refine VX_go (fs := []) (ok 0 _) trivial 100 [] rfl trivial ?_
      refine VX_split 19 rfl rfl (fun h2 => ?_) (fun h2 => ?_)
      · have hki : k ≤ i := by simp [hk1] at h2; omega
        have hL : L (i + 1) = L i ++ [.int q[i]] := by
          simp only [L]
          rw [List.take_succ_eq_append_getElem hi, List.drop_append_of_le_length (by simp; omega)]
          simp
        refine VX_go (fs := []) (ok 0 _) trivial 100 [25] rfl ?_ ?_
        · simp [allP]; omega
        refine VX_eq 24 rfl rfl (d' := .t 3 (.e (.int q[i]))) (congrArg (fun x => D.t 3 (.e x)) (getD_int hi)) ?_
        refine VX_go (fs := []) (ok 0 _) trivial 100 [] rfl ?_ ?_
        · simp [allP, nb, tb, maxL, L]; omega
        refine loop_nrm ⟨i + 1, by omega, by omega, ?_⟩
        rw [hL]
        exact wk0 rfl (by simp [Blk.under]) (lc (li hwi.symm) (lc (ls rfl rfl) (lc (ls rfl rfl) (lc (ls rfl rfl) (lc (ls rfl rfl) lnil)))))
      · have hki : i < k := by simp [hk1] at h2; omega
        have hL : L (i + 1) = L i := by
          simp only [L]
          rw [List.drop_eq_nil_of_le (by simp; omega), List.drop_eq_nil_of_le (by simp; omega)]
        refine VX_go (fs := []) (ok 0 _) trivial 100 [] rfl trivial ?_
        refine loop_nrm ⟨i + 1, by omega, by omega, ?_⟩
        rw [hL]
        exact wk0 rfl (by simp [Blk.under]) (lc (li hwi.symm) (lc (ls rfl rfl) (lc (ls rfl rfl) (lc (ls rfl rfl) (lc (ls rfl rfl) lnil)))))
    · refine VX_go (fs := []) (ok 0 _) trivial 100 [] rfl trivial ?_
      apply loop_brk
      refine VX_go (fs := []) (ok 0 _) trivial 100 [] rfl trivial ?_
      have : i = q.length := by simp at h; omega
      have hL : (thr q x).map E.int = L i := by simp [L, thr, this, hk3]; rw [List.take_of_length_le (by simp)]
      rw [hL]
      exact ⟨.inr rfl, rfl⟩

theorem rpush_ok (q : List Int) (x m : Int) (hq : q.length ≤ 90000) : FnOk Try.prog tb 12 [22, 3, 3] [22, 3] [.sl (q.map .int), .int x, .int m] [.sl ((pushE q x m).map .int), .int (pushN q m)] := by
  refine FnOk_of_V (fn := Try.f12) (bt := 4) (ok 0 _) Try.func12 rfl rfl rfl (by decide) fun hw => ?_
  apply V_of_VX
  refine VX_go (fs := []) (ok 0 _) trivial 100 [] rfl ?_ ?_
  · simp [allP, nb, tb, maxL]; omega
  refine VX_split 15 rfl rfl (fun h => ?_) (fun h => ?_)
  · refine VX_go (fs := []) (ok 0 _) trivial 100 [] rfl trivial ?_
    have h : (q.length : Int) ≥ m := by simpa using h
    simp only [pushE, pushN, h, if_true]
    exact ⟨.inr rfl, rfl⟩
  · refine VX_go (fs := []) (ok 0 _) trivial 100 [] rfl ?_ ?_
    · simp [allP, nb, tb, maxL]; omega
    have h : ¬ (q.length : Int) ≥ m := by simpa using h
    simp only [pushE, pushN, h, if_false, List.map_append]
    exact ⟨.inr rfl, rfl⟩

/-- How many are left out. -/
def cut (n : Nat) (m : Int) : Nat := ((n : Int) - (if m > 0 then m else 0)).toNat
def trim (q : List Int) (m : Int) : List Int := q.drop (cut q.length m)
theorem trim_ok (q : List Int) (m : Int) (hq : q.length ≤ 100000) : FnOk Try.prog tb 10 [22, 3] [22] [.sl (q.map .int), .int m] [.sl ((trim q m).map .int)] := by
  refine FnOk_of_V (fn := Try.f10) (bt := 4) (ok 0 _) Try.func10 rfl rfl rfl (by decide) fun hw => ?_
  obtain ⟨hm1, hm2⟩ := wt64 (hw 1 3 _ rfl rfl)
  have hlen : ((q.map E.int).length : Int) = q.length := by simp
  have hw1 : IntKind.wrap .i64 (((q.map E.int).length : Int) - (if m > 0 then m else 0)) = (q.length : Int) - (if m > 0 then m else 0) := by rw [hlen]; exact w64 (by split <;> omega) (by split <;> omega)
  have hc : (if (q.length : Int) - (if m > 0 then m else 0) > 0 then (q.length : Int) - (if m > 0 then m else 0) else 0) = (cut q.length m : Nat) := by unfold cut; split <;> split <;> omega
  have hcl : cut q.length m ≤ q.length := by unfold cut; split <;> omega
  apply V_of_VX
  refine VX_go (fs := []) (ok 0 _) trivial 100 [12] rfl ?_ ?_
  · simp [allP]
  refine VX_eq 11 rfl rfl (d' := .t 3 (.e (.int (cut q.length m)))) (congrArg (fun x => D.t 3 (.e (.int x))) ?_) ?_
  · rw [hw1, hc]
  refine VX_go (fs := []) (ok 0 _) trivial 100 [13] rfl ?_ ?_
  · simp [allP]; omega
  refine VX_eq 12 rfl rfl (d' := .t 22 (.e (.sl ((trim q m).map .int)))) (congrArg (fun x => D.t 22 (.e (.sl x))) ?_) ?_
  · simp [trim]; rw [List.take_of_length_le (by simp)]
  refine VX_callD (ok 0 _) [22] [] rfl rfl rfl rfl rfl rfl (clone_ok _ (by simp [trim]; omega)).g rfl rfl rfl ?_
  refine VX_go (fs := []) (ok 0 _) trivial 100 [] rfl trivial ?_
  exact ⟨.inr rfl, rfl⟩

theorem rtrim_ok (q : List Int) (m : Int) (hq : q.length ≤ 100000) : FnOk Try.prog tb 19 [22, 3] [22] [.sl (q.map .int), .int m] [.sl ((trim q m).map .int)] := by
  refine FnOk_of_V (fn := Try.f19) (bt := 4) (ok 0 _) Try.func19 rfl rfl rfl (by decide) fun hw => ?_
  have hcl : cut q.length m ≤ q.length := by unfold cut; split <;> omega
  apply V_of_VX
  refine VX_go (fs := []) (ok 0 _) trivial 100 [] rfl trivial ?_
  refine VX_promote 5 (u := 3) rfl rfl ?_
  let L : Nat → List E := fun i => ((q.take i).drop (cut q.length m)).map E.int
  refine VX_loopA (fun i : Nat => i ≤ q.length) (fun i => [(9, .t 3 (.e (.int i))), (8, .t 3 (.e (.int q.length))), (0, .t 22 (.e (.sl (q.map .int)))), (1, .t 3 (.e (.int m))), (5, .t 22 (.lsl 0 (L i)))]) (fun i => [.row 3 (L i).length]) (fun i => q.length - i) 0 (by simp) ?_ ?_
  · have h0 : L 0 = [] := by simp [L]
    rw [h0]
    exact wk0 rfl (by simp [Blk.under]) (lc (ls rfl rfl) (lc (li (by simp)) (lc (ls rfl rfl) (lc (ls rfl rfl) (lc (ls rfl rfl) lnil)))))
  · rintro i hi
    refine VX_go (fs := []) (ok 0 _) trivial 100 [] rfl trivial ?_
    refine VX_split 10 rfl rfl (fun h => ?_) (fun h => ?_)
    · have hi : i < q.length := by simpa using h
      have hwi : IntKind.wrap .i64 ((i : Int) + 1) = ((i + 1 : Nat) : Int) := by rw [w64 (by omega) (by omega)]; simp
      have hlen : ((q.map E.int).length : Int) = q.length := by simp
      have hws : IntKind.wrap .i64 (((q.map E.int).length : Int) - (i : Int)) = (q.length : Int) - i := by rw [hlen]; exact w64 (by omega) (by omega)
      have yes : cut q.length m ≤ i → L (i + 1) = L i ++ [.int q[i]] := fun h => by
        simp only [L]
        rw [List.take_succ_eq_append_getElem hi, List.drop_append_of_le_length (by simp; omega)]
        simp
      have no : i < cut q.length m → L (i + 1) = L i := fun h => by
        simp only [L]
        rw [List.drop_eq_nil_of_le (by simp; omega), List.drop_eq_nil_of_le (by simp; omega)]
      refine VX_go (fs := []) (ok 0 _) trivial 100 [] rfl trivial ?_
      refine VX_split 14 rfl rfl (fun h1 => ?_) (fun h1 => ?_)
      · refine VX_go (fs := []) (ok 0 _) trivial 100 [] rfl trivial ?_
        refine VX_split 21 rfl rfl (fun h2 => ?_) (fun h2 => ?_)
        · have hki : cut q.length m ≤ i := by
            have h1 : m > 0 := by simpa using h1
            rw [hws] at h2
            simp at h2
            unfold cut; rw [if_pos h1]; omega
          refine VX_go (fs := []) (ok 0 _) trivial 100 [27] rfl ?_ ?_
          · simp [allP]; omega
          refine VX_eq 26 rfl rfl (d' := .t 3 (.e (.int q[i]))) (congrArg (fun x => D.t 3 (.e x)) (getD_int hi)) ?_
          refine VX_go (fs := []) (ok 0 _) trivial 100 [] rfl ?_ ?_
          · simp [allP, nb, tb, maxL, L]; omega
          refine loop_nrm ⟨i + 1, by omega, by omega, ?_⟩
          rw [yes hki]
          exact wk0 rfl (by simp [Blk.under]) (lc (li hwi.symm) (lc (ls rfl rfl) (lc (ls rfl rfl) (lc (ls rfl rfl) (lc (ls rfl rfl) lnil)))))
        · have hki : i < cut q.length m := by
            have h1 : m > 0 := by simpa using h1
            rw [hws] at h2
            simp at h2
            unfold cut; rw [if_pos h1]; omega
          refine VX_go (fs := []) (ok 0 _) trivial 100 [] rfl trivial ?_
          refine loop_nrm ⟨i + 1, by omega, by omega, ?_⟩
          rw [no hki]
          exact wk0 rfl (by simp [Blk.under]) (lc (li hwi.symm) (lc (ls rfl rfl) (lc (ls rfl rfl) (lc (ls rfl rfl) (lc (ls rfl rfl) lnil)))))
      · have hki : i < cut q.length m := by
          have h1 : ¬ m > 0 := by simpa using h1
          unfold cut; rw [if_neg h1]; omega
        refine VX_go (fs := []) (ok 0 _) trivial 100 [] rfl trivial ?_
        refine loop_nrm ⟨i + 1, by omega, by omega, ?_⟩
        rw [no hki]
        exact wk0 rfl (by simp [Blk.under]) (lc (li hwi.symm) (lc (ls rfl rfl) (lc (ls rfl rfl) (lc (ls rfl rfl) (lc (ls rfl rfl) lnil)))))
    · refine VX_go (fs := []) (ok 0 _) trivial 100 [] rfl trivial ?_
      apply loop_brk
      refine VX_go (fs := []) (ok 0 _) trivial 100 [] rfl trivial ?_
      have : i = q.length := by simp at h; omega
      have hL : (trim q m).map E.int = L i := by simp [L, trim, this]; rw [List.take_of_length_le (by simp)]
      rw [hL]
      exact ⟨.inr rfl, rfl⟩

theorem awake_ok : FnOk Try.prog tb 6 [] [4] [] [.bool true] := by
  refine FnOk_of_V (fn := Try.f6) (bt := 4) (ok 0 _) Try.func6 rfl rfl rfl (by decide) fun hw => ?_
  apply V_of_VX
  refine VX_go (fs := []) (ok 0 _) trivial 100 [] rfl trivial ?_
  refine VX_callD (ok 0 _) [22, 3] [] rfl rfl rfl rfl rfl rfl (through_ok [1, 2, 3] 2 (by simp)).g rfl rfl rfl ?_
  refine VX_go (fs := []) (ok 0 _) trivial 100 [] rfl trivial ?_
  refine VX_known 9 true rfl rfl (by decide) ?_
  refine VX_go (fs := []) (ok 0 _) trivial 100 [] rfl trivial ?_
  refine VX_known 14 true rfl rfl (by decide) ?_
  refine VX_go (fs := []) (ok 0 _) trivial 100 [] rfl ?_ ?_
  · simp [allP, thr]; decide
  exact ⟨.inr rfl, rfl⟩
end Go.Den.Q15
