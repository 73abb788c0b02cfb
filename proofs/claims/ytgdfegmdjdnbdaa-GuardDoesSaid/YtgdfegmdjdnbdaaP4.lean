/- The calculus and the walks, part 4: DenRun, DenDop2, DenDop3, DenClose, DenClose2, DenDop4, DenDop5, DenDop6, DenMrow. -/
import Derived.Test.YtgdfegmdjdnbdaaP3
import Derived.Laws.Cover3
import Derived.Below
import Derived.OpenShut
import Derived.ChangeArms
import Derived.WideShapes
import Derived.Lib.Builder
import Derived.Laws.BytesString
/- A machine that runs a function's code over what is known, as far as it tells. -/
namespace Go.Den
open Go
set_option linter.unusedSectionVars false
set_option linter.unusedSimpArgs false
set_option linter.unusedVariables false

/-- What is still to be done. -/
inductive It where
  | c (code : Code)
  | r (full l : List Oper)
  | o (full : List Oper) (ts : List Nat) (ord : List (Nat × Bool))
  | b (id : Nat)

def VX (C : Cx) (Q : Post) : List It → X → Env → List Blk → Prop
  | [], x, e, s => Q x e s
  | .c code :: k, .nrm, e, s => V C code e s (fun x e s => VX C Q k x e s)
  | .r full l :: k, .nrm, e, s => VL C full.toArray l e s (fun x e s => VX C Q k x e s)
  | .o full ts ord :: k, .nrm, e, s => VO C full ts ord e s (fun x e s => VX C Q k x e s)
  | .b id :: k, .ext j, e, s => match Nat.beq j id with
    | true => VX C Q k .nrm e s
    | false => VX C Q k (.ext j) e s
  | _ :: k, x, e, s => VX C Q k x e s

/-- What a function that is handed data, and hands back data, answers. -/
structure Kon where
  pts : List TypeId
  rts : List TypeId
  f : List E → Option (Prop × List E)
structure Kit where
  bk : List Nat
  dx : Cx → Env → List Blk → Oper → Option DR
  fs : List (FuncId × Kon)
def kok (P : Program) (tb : Tab) : List (FuncId × Kon) → Prop
  | [] => True
  | (f, k) :: r => (∀ args p rs, k.f args = some (p, rs) → p → FnOk P tb f k.pts k.rts args rs) ∧ kok P tb r
def kget : List (FuncId × Kon) → FuncId → Option Kon
  | [], _ => none
  | (g, k) :: r, f => match Nat.beq g f with
    | true => some k
    | false => kget r f
structure KitOk (P : Program) (tb : Tab) (K : Kit) : Prop where
  dx : ∀ (C : Cx), C.P = P → C.tb = tb → Ok C → ∀ env σ o r, K.dx C env σ o = some r → r.p → OpOk C o env σ r
  fs : kok P tb K.fs
theorem kget_ok {P : Program} {tb : Tab} : ∀ {l : List (FuncId × Kon)} {f : FuncId} {k : Kon}, kok P tb l → kget l f = some k → ∀ args p rs, k.f args = some (p, rs) → p → FnOk P tb f k.pts k.rts args rs
  | [], _, _, _, h => by cases h
  | (g, k) :: r, f, k', hk, h => by
    simp only [kget] at h
    split at h
    · rename_i hb; cases h; have := Nat.eq_of_beq_eq_true hb; subst this; exact hk.1
    · exact kget_ok hk.2 h

def trivB (C : Cx) (op : BinOp) (xt : TypeId) : Bool := match op with
  | .eql | .neq | .lss | .leq | .gtr | .geq | .sub | .mul | .and | .or | .xor | .andNot => true
  | .add => match td C.tb xt with
    | .int _ => true
    | _ => false
  | _ => false
/-- What an operation does; whether its terms are plain. -/
def triv (C : Cx) (o : Oper) : Bool := match o.op with
  | .move _ | .assign _ | .pick _ _ _ | .extract _ _ | .alloc _ | .box _ _ | .build _ _ | .buildSlice _ _ _ | .load _ _ | .store _ _ _ | .nilCheck _ | .convert _ _ _ | .unOp _ _ _ | .fieldAddr _ _ _ | .field _ _ _ => true
  | .call { callee := .builtin .len, args := _, argTypes := _ } => true
  | .binOp op xt _ _ _ => trivB C op xt
  | _ => false
structure OS where
  ps : List Prop
  d : D
  s : List Blk
def allP : List Prop → Prop
  | [] => True
  | p :: r => match r with
    | [] => p
    | q :: r' => p ∧ allP (q :: r')
theorem allP_cons {p : Prop} {r : List Prop} (h : allP (p :: r)) : p ∧ allP r := by
  cases r with
  | nil => exact ⟨h, trivial⟩
  | cons q r => exact h
def callOf : Op → Option (FuncId × List Operand)
  | .call { callee := .value (.func f), args := ⟨xs⟩, argTypes := _ } => some (f, xs)
  | _ => none
def stops : List Nat → Option Tmp → Bool
  | [], _ => false
  | _ :: _, none => false
  | i :: r, some t => match Nat.beq i t with
    | true => true
    | false => stops r (some t)
def opS (K : Kit) (C : Cx) (env : Env) (σ : List Blk) (o : Oper) (ps : List Prop) : Option OS :=
  match stops K.bk o.dst with
  | true => none
  | false => match callOf o.op with
    | some (f, xs) => match kget K.fs f with
      | some k => match argsE C.tb env k.pts xs with
        | some args => match k.f args with
          | some (p, rs) => some ⟨p :: ps, retD k.rts rs, σ⟩
          | none => none
        | none => none
      | none => none
    | none => match dop C env σ o with
      | some ⟨p, d, s⟩ => match triv C o with
        | true => some ⟨ps, d, s⟩
        | false => some ⟨p :: ps, d, s⟩
      | none => match K.dx C env σ o with
        | some ⟨p, d, s⟩ => some ⟨p :: ps, d, s⟩
        | none => none

theorem triv_bin {C : Cx} {env σ rt op xt x y yt p d s} (h : dBin C env σ rt op xt x y yt = some ⟨p, d, s⟩)
    (ht : trivB C op xt = true) : p := by
  unfold trivB at ht
  unfold dBin at h
  cases op <;> simp only [] at ht <;> try (cases ht)
  all_goals (repeat' split at h)
  all_goals first
    | (cases h; done)
    | (cases h; first | trivial | (simp [arithP]; done) | (exfalso; simp_all; done) | simp_all)
theorem triv_p {C : Cx} {env σ o p d s} (h : dop C env σ o = some ⟨p, d, s⟩) (ht : triv C o = true) : p := by
  unfold triv at ht
  unfold dop at h
  split at h <;> rename_i ho <;> simp only [ho] at ht <;> try (cases ht)
  case h_8 => 
    unfold dLoad at h
    repeat' split at h
    all_goals first | (cases h; trivial) | cases h
  case h_9 =>
    unfold dStore at h
    repeat' split at h
    all_goals first | (rw [setK_eq] at h; cases h; trivial) | cases h
  case h_11 => exact triv_bin h ht
  case h_12 =>
    unfold dUn at h
    repeat' split at h
    all_goals first | (cases h; trivial) | cases h
  case h_15 =>
    unfold dFieldAddr at h
    repeat' split at h
    all_goals first | (cases h; trivial) | (simp only [litK_eq, appK_eq, pathK] at h; cases h; trivial) | cases h
  case h_16 =>
    unfold dField at h
    repeat' split at h
    all_goals first | (cases h; trivial) | cases h
  case h_20 =>
    unfold dLen at h
    repeat' split at h
    all_goals first | (cases h; trivial) | cases h
  all_goals (repeat' split at h)
  all_goals first | (cases h; trivial) | (rw [litK_eq, appK_eq] at h; cases h; trivial) | cases h

def isCall (o : Oper) : Bool := match callOf o.op with
  | some _ => true
  | none => false
theorem callOf_some {op : Op} {f : FuncId} {xs : List Operand} (h : callOf op = some (f, xs)) : ∃ tys, op = .call { callee := .value (.func f), args := ⟨xs⟩, argTypes := tys } := by
  unfold callOf at h
  split at h
  · cases h; exact ⟨_, rfl⟩
  · cases h
theorem isVal_call {o : Oper} (h : isVal o.op = true) : isCall o = false := by
  unfold isCall
  cases hc : callOf o.op with
  | none => rfl
  | some p =>
    obtain ⟨f, xs⟩ := p
    obtain ⟨tys, ho⟩ := callOf_some hc
    rw [ho] at h; simp [isVal] at h

theorem OpF_callE {C : Cx} (hC : Ok C) {o : Oper} {env : Env} {σ : List Blk} {ts : List Nat} {f : FuncId} {xs : Array Operand} {tys : Array TypeId} {pts rts : List TypeId} {args rs : List E} (ho : o.op = .call { callee := .value (.func f), args := xs, argTypes := tys })
    (hx : argsE C.tb env pts xs.toList = some args) (h : FnOk C.P C.tb f pts rts args rs) : OpF C o env σ ts (fun d s => d = retD rts rs ∧ s = σ) := by
  intro H β a w hr he hd K Qx hK
  obtain ⟨⟨fn, hf, hn, hb⟩, hal, hcall⟩ := h
  obtain ⟨l1, l2, l3⟩ := argsE_rel hC he hx
  have hrun : (execOp a.eval o).run C.P w = .ok (.enter f (xs.map a.eval)) w := by
    simp [execOp, ho, resolve, Act.eval, Deferred.ofValue, invoke, run_callFunc hf hn hb]
  simp only [Oper.wp, hrun, Oper.upon]
  have hargs : ArgsAt C.tb (strip H) [] [] (xs.map a.eval) (typed pts args) := by
    refine ⟨⟨by rw [typed_length l1]; simpa using l2, he.1.2.mono fun _ _ _ e => strip_pers.2 e⟩, fun i v d hv hd => ?_⟩
    simp only [Array.getElem?_map, Option.map_eq_some_iff] at hv
    obtain ⟨x, hx, rfl⟩ := hv
    exact l3 i x d (by simpa using hx) hd
  refine (hcall (strip H) w _ ⟨fun b o v e => hr.pers b o v (strip_pers.1 e), fun b o e => hr.dom b o fun h0 => e (by simp [strip, h0])⟩ (fun _ _ _ => strip_mine) hargs).mono ?_
  rintro e w' ⟨v, H', rfl, hb', hv', hs⟩
  obtain ⟨k1, k2, k3, k4⟩ := hr.after hb' hs
  refine hK v _ w' _ β σ ⟨rfl, rfl⟩ k1 (hv'.lift0 β σ k4) k2 k3 fun b o' u hu hst => ?_
  have hlt : b < w.heap.size := by
    rcases hst with ⟨x, hx⟩ | ⟨i, _, hi⟩
    · exact hr.dom b o' (by rw [hx]; simp)
    · exact hr.dom b o' (by rw [hi]; simp)
  refine ⟨(hs.cell b hlt o' fun _ => strip_mine).trans hu, ?_⟩
  simp only [merge, hlt, if_true]; exact hst

theorem opS_ok {K : Kit} {C : Cx} (hK : KitOk C.P C.tb K) (hC : Ok C) {env : Env} {σ : List Blk} {o : Oper} {ps : List Prop} {r : OS} (h : opS K C env σ o ps = some r) (hp : allP r.ps) :
    allP ps ∧ (isCall o = false → OpOk C o env σ ⟨True, r.d, r.s⟩) ∧ (isCall o = true → ∀ ts, OpF C o env σ ts (fun d s => d = r.d ∧ s = r.s)) := by
  unfold opS at h
  split at h
  · cases h
  split at h
  · rename_i f xs hc
    obtain ⟨tys, ho⟩ := callOf_some hc
    split at h
    · rename_i k hk
      split at h
      · rename_i args hx
        split at h
        · rename_i p rs hrs
          cases h
          obtain ⟨h1, h2⟩ := allP_cons hp
          exact ⟨h2, fun hn => by simp [isCall, hc] at hn, fun _ ts => OpF_callE hC ho hx (kget_ok hK.fs hk args p rs hrs h1)⟩
        · cases h
      · cases h
    · cases h
  · rename_i hc
    have hnc : isCall o ≠ true := by simp [isCall, hc]
    split at h
    · rename_i p d s hd
      split at h
      · rename_i ht; cases h; have := dop_ok hC hd (triv_p hd ht); exact ⟨hp, fun _ => ⟨this.v, this.val⟩, fun h => absurd h hnc⟩
      · cases h
        obtain ⟨h1, h2⟩ := allP_cons hp
        have := dop_ok hC hd h1; exact ⟨h2, fun _ => ⟨this.v, this.val⟩, fun h => absurd h hnc⟩
    · split at h
      · rename_i p d s hd
        cases h
        obtain ⟨h1, h2⟩ := allP_cons hp
        have := hK.dx C rfl rfl hC _ _ _ _ hd h1; exact ⟨h2, fun _ => ⟨this.v, this.val⟩, fun h => absurd h hnc⟩
      · cases h
theorem opS_v {K : Kit} {C : Cx} (hK : KitOk C.P C.tb K) (hC : Ok C) {env : Env} {σ : List Blk} {o : Oper} {ps : List Prop} {r : OS} (h : opS K C env σ o ps = some r) (hp : allP r.ps) :
    allP ps ∧ OpV C o env σ (fun d s => d = r.d ∧ s = r.s) := by
  obtain ⟨h1, h2, h3⟩ := opS_ok hK hC h hp
  refine ⟨h1, ?_⟩
  cases hc : isCall o with
  | true => exact (h3 hc []).v
  | false => exact (h2 hc).v

structure Out where
  ps : List Prop
  k : List It
  x : X
  e : Env
  s : List Blk

def unw (id : Nat) : List It → Option (List It)
  | [] => none
  | .b j :: k => match Nat.beq id j with
    | true => some k
    | false => unw id k
  | _ :: k => unw id k

def tyK {α : Type _} (o : Oper) (k : TypeId → α) : α := match o with
  | ⟨_, _, ty, _, _, _⟩ => k ty
theorem tyK_eq {α : Type _} (o : Oper) (k : TypeId → α) : tyK o k = k o.type := by cases o; rfl
/-- A datum put into a temporary, written out. -/
def putK {α : Type _} (t : Nat) (d : D) (type : TypeId) (e : Env) (k : Env → α) : α := match d with
  | .t ty x => match Nat.beq ty type with
    | true => match x with
      | .e y => k ((t, .t type (.e y)) :: e)
      | .st xs => k ((t, .t type (.st xs)) :: e)
      | .nsl => k ((t, .t type .nsl) :: e)
      | .bsl xs => k ((t, .t type (.bsl xs)) :: e)
      | .lsl i xs => k ((t, .t type (.lsl i xs)) :: e)
      | .ptr i p => k ((t, .t type (.ptr i p)) :: e)
      | .fn f c => k ((t, .t type (.fn f c)) :: e)
      | .msl i n => k ((t, .t type (.msl i n)) :: e)
      | .tsl xs => k ((t, .t type (.tsl xs)) :: e)
      | .mp i => k ((t, .t type (.mp i)) :: e)
    | false => match x with
      | .e y => k ((t, .t ty (.e y)) :: e)
      | .st xs => k ((t, .t ty (.st xs)) :: e)
      | .nsl => k ((t, .t ty .nsl) :: e)
      | .bsl xs => k ((t, .t ty (.bsl xs)) :: e)
      | .lsl i xs => k ((t, .t ty (.lsl i xs)) :: e)
      | .ptr i p => k ((t, .t ty (.ptr i p)) :: e)
      | .fn f c => k ((t, .t ty (.fn f c)) :: e)
      | .msl i n => k ((t, .t ty (.msl i n)) :: e)
      | .tsl xs => k ((t, .t ty (.tsl xs)) :: e)
      | .mp i => k ((t, .t ty (.mp i)) :: e)
  | .kb ty b => match b with
    | true => k ((t, .kb ty true) :: e)
    | false => k ((t, .kb ty false) :: e)
  | .ptr i p => k ((t, .ptr i p) :: e)
  | .el u xs j p => k ((t, .el u xs j p) :: e)
  | .asl i p u o n => k ((t, .asl i p u o n) :: e)
  | .tup xs => k ((t, .tup xs) :: e)
  | .it i => k ((t, .it i) :: e)
  | .mel u i n j p => k ((t, .mel u i n j p) :: e)
  | .tel u xs j => k ((t, .tel u xs j) :: e)
  | .any => k ((t, .any) :: e)
theorem putK_eq {α : Type _} (t : Nat) (d : D) (type : TypeId) (e : Env) (k : Env → α) : putK t d type e k = k ((t, d) :: e) := by
  unfold putK
  split
  · split
    · rename_i hb; have := Nat.eq_of_beq_eq_true hb; subst this; split <;> rfl
    · split <;> rfl
  · split <;> rfl
  all_goals rfl

/-- Whether an operation may come up in a drawing region, taken first or alone. -/
def mayO (e : Env) (ts : List Nat) (o : Oper) (b : Bool) : Bool := match isVal o.op with
  | true => (rsOf e o.op).all fun j => !ts.contains j
  | false => isCall o && !b

def okB (full : List Oper) (i : Nat) (b : Bool) (ord : List (Nat × Bool)) : Bool := match b with
  | true => true
  | false => aloneB full ((i, false) :: ord)
theorem okB_al {full : List Oper} {i : Nat} {b : Bool} {ord : List (Nat × Bool)} (h : okB full i b ord = true) : b = false → aloneB full ((i, b) :: ord) = true := fun e => by subst e; exact h

def run (K : Kit) (C : Cx) : Nat → List Prop → List It → Env → List Blk → Out
  | 0, ps, k, e, s => ⟨ps, k, .nrm, e, s⟩
  | n + 1, ps, k, e, s => match k with
    | [] => ⟨ps, [], .nrm, e, s⟩
    | .b id :: k => run K C n ps k e s
    | .r full l :: k => match l with
      | [] => run K C n ps k e s
      | o :: l => match wants full e o with
        | some true => match opS K C e s o ps with
          | some ⟨ps', d, s'⟩ => match o.dst with
            | some t => match Nat.blt t C.n with
              | true => tyK o fun ty => putK t d ty e fun e' => run K C n ps' (.r full l :: k) e' s'
              | false => ⟨ps, .r full (o :: l) :: k, .nrm, e, s⟩
            | none => run K C n ps' (.r full l :: k) e s'
          | none => ⟨ps, .r full (o :: l) :: k, .nrm, e, s⟩
        | some false => match o.dst with
          | some t => match Nat.blt t C.n with
            | true => run K C n ps (.r full l :: k) ((t, .tup []) :: e) s
            | false => ⟨ps, .r full (o :: l) :: k, .nrm, e, s⟩
          | none => run K C n ps (.r full l :: k) e s
        | none => ⟨ps, .r full (o :: l) :: k, .nrm, e, s⟩
    | .o full ts ord :: k => match ord with
      | [] => run K C n ps k e s
      | (i, b) :: ord => match full[i]? with
        | some o => match wants full e o with
          | some true => match mayO e ts o b with
            | true => match opS K C e s o ps with
              | some ⟨ps', d, s'⟩ => match okB full i b ord with
                | true => match o.dst with
                  | some t => match Nat.blt t C.n with
                    | true => tyK o fun ty => putK t d ty e fun e' => run K C n ps' (.o full ts ord :: k) e' s'
                    | false => ⟨ps, .o full ts ((i, b) :: ord) :: k, .nrm, e, s⟩
                  | none => run K C n ps' (.o full ts ord :: k) e s'
                | false => ⟨ps, .o full ts ((i, b) :: ord) :: k, .nrm, e, s⟩
              | none => ⟨ps, .o full ts ((i, b) :: ord) :: k, .nrm, e, s⟩
            | false => ⟨ps, .o full ts ((i, b) :: ord) :: k, .nrm, e, s⟩
          | some false => match okB full i b ord with
            | true => match o.dst with
              | some t => match Nat.blt t C.n with
                | true => run K C n ps (.o full ts ord :: k) ((t, .tup []) :: e) s
                | false => ⟨ps, .o full ts ((i, b) :: ord) :: k, .nrm, e, s⟩
              | none => run K C n ps (.o full ts ord :: k) e s
            | false => ⟨ps, .o full ts ((i, b) :: ord) :: k, .nrm, e, s⟩
          | none => ⟨ps, .o full ts ((i, b) :: ord) :: k, .nrm, e, s⟩
        | none => ⟨ps, .o full ts ((i, b) :: ord) :: k, .nrm, e, s⟩
    | .c c :: k => match c with
      | .skip => run K C n ps k e s
      | .seq a b => run K C n ps (.c a :: .c b :: k) e s
      | .region id ⟨l⟩ false => run K C n ps (.r l l :: k) e s
      | .block id c => run K C n ps (.c c :: .b id :: k) e s
      | .cond (.tmp t) a b => match getD e t with
        | .kb _ true => run K C n ps (.c a :: k) e s
        | .kb _ false => run K C n ps (.c b :: k) e s
        | _ => ⟨ps, .c c :: k, .nrm, e, s⟩
      | .ret => ⟨ps, [], .ret, e, s⟩
      | .exit id => match unw id k with
        | some k' => run K C n ps k' e s
        | none => ⟨ps, [], .ext id, e, s⟩
      | c => ⟨ps, .c c :: k, .nrm, e, s⟩

section
variable {C : Cx} {env : Env} {σ : List Blk} {Q : Post}

theorem VX_ret : ∀ {k : List It} {e s}, Q .ret e s → VX C Q k .ret e s
  | [], _, _, h => h
  | .c _ :: k, _, _, h => VX_ret (k := k) h
  | .r _ _ :: k, _, _, h => VX_ret (k := k) h
  | .o _ _ _ :: k, _, _, h => VX_ret (k := k) h
  | .b _ :: k, _, _, h => VX_ret (k := k) h
theorem VX_unw {id : Nat} : ∀ {k k' : List It} {e s}, unw id k = some k' → VX C Q k' .nrm e s → VX C Q k (.ext id) e s
  | [], _, _, _, h, _ => by cases h
  | .b j :: k, k', e, s, h, hv => by
    simp only [unw] at h
    simp only [VX]
    cases hb : Nat.beq id j with
    | true => rw [hb] at h; cases h; exact hv
    | false => rw [hb] at h; exact VX_unw h hv
  | .c _ :: k, k', e, s, h, hv => VX_unw (k := k) (by simpa only [unw] using h) hv
  | .r _ _ :: k, k', e, s, h, hv => VX_unw (k := k) (by simpa only [unw] using h) hv
  | .o _ _ _ :: k, k', e, s, h, hv => VX_unw (k := k) (by simpa only [unw] using h) hv
theorem VX_unw0 {id : Nat} : ∀ {k : List It} {e s}, unw id k = none → Q (.ext id) e s → VX C Q k (.ext id) e s
  | [], _, _, _, hv => hv
  | .b j :: k, e, s, h, hv => by
    simp only [unw] at h
    simp only [VX]
    cases hb : Nat.beq id j with
    | true => rw [hb] at h; cases h
    | false => rw [hb] at h; exact VX_unw0 h hv
  | .c _ :: k, e, s, h, hv => VX_unw0 (k := k) (by simpa only [unw] using h) hv
  | .r _ _ :: k, e, s, h, hv => VX_unw0 (k := k) (by simpa only [unw] using h) hv
  | .o _ _ _ :: k, e, s, h, hv => VX_unw0 (k := k) (by simpa only [unw] using h) hv

theorem wants_false_put {l : List Oper} {o : Oper} {rest : List Oper} (hw : wants l env o = some false) (hn : dstOk C.n o.dst = true)
    (h : VL C l.toArray rest (putD env o.dst (.tup [])) σ Q) : VL C l.toArray (o :: rest) env σ Q := by
  intro H β a w hr he hd
  unfold wpList
  rw [wants_rel he hw]
  have hd' : (a.put o.dst undef).defers = [] := by cases o.dst <;> exact hd
  exact h H β (a.put o.dst undef) w hr (he.put .undef hn) hd'

theorem VL_wants {l : List Oper} {o : Oper} {rest : List Oper} {R : D → List Blk → Prop} (hw : wants l env o = some true) (hn : dstOk C.n o.dst = true)
    (h : OpV C o env σ R) (k : ∀ d σ', R d σ' → VL C l.toArray rest (putD env o.dst d) σ' Q) : VL C l.toArray (o :: rest) env σ Q :=
  VL_cons_wanted hn (fun H β a he => wants_rel he hw) h k

theorem VO_step {l : List Oper} {i : Nat} {b : Bool} {o : Oper} {ts : List Nat} {rest : List (Nat × Bool)} {r : OS} (hi : l[i]? = some o) (hw : wants l env o = some true) (hn : dstOk C.n o.dst = true) (hm : mayO env ts o b = true)
    (h2 : isCall o = false → OpOk C o env σ ⟨True, r.d, r.s⟩) (h3 : isCall o = true → ∀ ts, OpF C o env σ ts (fun d s => d = r.d ∧ s = r.s)) (hk : VO C l ts rest (putD env o.dst r.d) r.s Q) (hal : b = false → aloneB l ((i, b) :: rest) = true) : VO C l ts ((i, b) :: rest) env σ Q := by
  unfold mayO at hm
  split at hm
  · rename_i hval
    have hrs' : ∀ j ∈ rsOf env o.op, j ∉ ts := fun j hj hc => by
      have := List.all_eq_true.1 hm j hj
      simp [hc] at this
    exact VO_take hi hw hn (h2 (isVal_call hval)) hval hrs' hk b hal
  · simp only [Bool.and_eq_true] at hm
    have hb : b = false := by simpa using hm.2
    subst hb
    exact VO_one hi hw hn (h3 hm.1 ts) (fun d1 s1 ⟨a1, a2⟩ => by subst a1; subst a2; exact hk) (hal rfl)

theorem run_ok {K : Kit} (hK : KitOk C.P C.tb K) (hC : Ok C) : ∀ (n : Nat) (ps : List Prop) (k : List It) (e : Env) (s : List Blk) (r : Out), run K C n ps k e s = r →
    allP r.ps → VX C Q r.k r.x r.e r.s → allP ps ∧ VX C Q k .nrm e s := by
  intro n
  induction n with
  | zero => intro ps k e s r hr hp hv; subst hr; exact ⟨hp, hv⟩
  | succ n ih =>
    intro ps k e s r hr hp hv
    unfold run at hr
    split at hr
    · subst hr; exact ⟨hp, hv⟩
    · rename_i id k; exact ih ps k e s r hr hp hv
    · rename_i full l k
      split at hr
      · obtain ⟨h1, h2⟩ := ih _ _ _ _ _ hr hp hv; exact ⟨h1, VL_nil h2⟩
      · rename_i o l
        split at hr
        · rename_i hw
          split at hr
          · rename_i ps' d s' hop
            split at hr
            · rename_i t ht
              split at hr
              · rename_i hlt
                rw [tyK_eq, putK_eq] at hr
                obtain ⟨h1, h2⟩ := ih _ _ _ _ _ hr hp hv
                obtain ⟨h3, h4⟩ := opS_v hK hC hop h1
                refine ⟨h3, VL_wants hw (by simp [dstOk, ht, hlt]) h4 fun d1 s1 ⟨a1, a2⟩ => ?_⟩
                subst a1; subst a2; rw [ht]; exact h2
              · subst hr; exact ⟨hp, hv⟩
            · rename_i ht
              obtain ⟨h1, h2⟩ := ih _ _ _ _ _ hr hp hv
              obtain ⟨h3, h4⟩ := opS_v hK hC hop h1
              refine ⟨h3, VL_wants hw (by simp [dstOk, ht]) h4 fun d1 s1 ⟨a1, a2⟩ => ?_⟩
              subst a1; subst a2; rw [ht]; exact h2
          · subst hr; exact ⟨hp, hv⟩
        · rename_i hw
          split at hr
          · rename_i t ht
            split at hr
            · rename_i hlt
              obtain ⟨h1, h2⟩ := ih _ _ _ _ _ hr hp hv
              exact ⟨h1, wants_false_put hw (by simp [dstOk, ht, hlt]) (by rw [ht]; exact h2)⟩
            · subst hr; exact ⟨hp, hv⟩
          · rename_i ht
            obtain ⟨h1, h2⟩ := ih _ _ _ _ _ hr hp hv
            exact ⟨h1, wants_false_put hw (by simp [dstOk, ht]) (by rw [ht]; exact h2)⟩
        · subst hr; exact ⟨hp, hv⟩
    · rename_i full ts ord k
      split at hr
      · obtain ⟨h1, h2⟩ := ih _ _ _ _ _ hr hp hv; exact ⟨h1, VO_nil h2⟩
      · rename_i i b ord
        split at hr
        · rename_i o hi
          split at hr
          · rename_i hw
            split at hr
            · rename_i hm
              split at hr
              · rename_i ps' d s' hop
                split at hr
                · rename_i hob
                  split at hr
                  · rename_i t ht
                    split at hr
                    · rename_i hlt
                      rw [tyK_eq, putK_eq] at hr
                      obtain ⟨h1, h2⟩ := ih _ _ _ _ _ hr hp hv
                      obtain ⟨h3, h4, h5⟩ := opS_ok hK hC hop h1
                      exact ⟨h3, VO_step hi hw (by simp [dstOk, ht, hlt]) hm h4 h5 (by rw [ht]; exact h2) (okB_al hob)⟩
                    · subst hr; exact ⟨hp, hv⟩
                  · rename_i ht
                    obtain ⟨h1, h2⟩ := ih _ _ _ _ _ hr hp hv
                    obtain ⟨h3, h4, h5⟩ := opS_ok hK hC hop h1
                    exact ⟨h3, VO_step hi hw (by simp [dstOk, ht]) hm h4 h5 (by rw [ht]; exact h2) (okB_al hob)⟩
                · subst hr; exact ⟨hp, hv⟩
              · subst hr; exact ⟨hp, hv⟩
            · subst hr; exact ⟨hp, hv⟩
          · rename_i hw
            split at hr
            · rename_i hob
              split at hr
              · rename_i t ht
                split at hr
                · rename_i hlt
                  obtain ⟨h1, h2⟩ := ih _ _ _ _ _ hr hp hv
                  exact ⟨h1, VO_skip hi hw (by simp [dstOk, ht, hlt]) (by rw [ht]; exact h2) b (okB_al hob)⟩
                · subst hr; exact ⟨hp, hv⟩
              · rename_i ht
                obtain ⟨h1, h2⟩ := ih _ _ _ _ _ hr hp hv
                exact ⟨h1, VO_skip hi hw (by simp [dstOk, ht]) (by rw [ht]; exact h2) b (okB_al hob)⟩
            · subst hr; exact ⟨hp, hv⟩
          · subst hr; exact ⟨hp, hv⟩
        · subst hr; exact ⟨hp, hv⟩
    · rename_i c k
      split at hr
      · obtain ⟨h1, h2⟩ := ih _ _ _ _ _ hr hp hv; exact ⟨h1, V_skip h2⟩
      · obtain ⟨h1, h2⟩ := ih _ _ _ _ _ hr hp hv
        refine ⟨h1, V_seq (V.mono h2 fun x e s hx => ?_)⟩
        cases x <;> exact hx
      · obtain ⟨h1, h2⟩ := ih _ _ _ _ _ hr hp hv; exact ⟨h1, V_region h2⟩
      · rename_i id c
        obtain ⟨h1, h2⟩ := ih _ _ _ _ _ hr hp hv
        refine ⟨h1, V_block (V.mono h2 fun x e s hx => ?_)⟩
        cases x with
        | nrm => exact hx
        | ret => exact hx
        | ext j =>
          simp only [VX] at hx
          simp only [blockP]
          by_cases hj : j = id
          · subst hj; simp only [Nat.beq_refl] at hx; simp only [if_true]; exact hx
          · have : Nat.beq j id = false := by
              cases hb : Nat.beq j id with
              | false => rfl
              | true => exact absurd (Nat.eq_of_beq_eq_true hb) hj
            simp only [this] at hx; simp only [if_neg hj]; exact hx
      · rename_i t a b
        split at hr
        · rename_i ty ht
          obtain ⟨h1, h2⟩ := ih _ _ _ _ _ hr hp hv
          exact ⟨h1, V_cond (b := true) (by rw [ht]; rfl) (fun _ => h2) (fun h => by cases h)⟩
        · rename_i ty ht
          obtain ⟨h1, h2⟩ := ih _ _ _ _ _ hr hp hv
          exact ⟨h1, V_cond (b := false) (by rw [ht]; rfl) (fun h => by cases h) (fun _ => h2)⟩
        · subst hr; exact ⟨hp, hv⟩
      · subst hr; exact ⟨hp, V_ret (VX_ret hv)⟩
      · rename_i id
        split at hr
        · rename_i k' hk
          obtain ⟨h1, h2⟩ := ih _ _ _ _ _ hr hp hv
          exact ⟨h1, V_exit (VX_unw hk h2)⟩
        · rename_i hk; subst hr; exact ⟨hp, V_exit (VX_unw0 hk hv)⟩
      · subst hr; exact ⟨hp, hv⟩

theorem VX_run {K : Kit} (n : Nat) (hK : KitOk C.P C.tb K) (hC : Ok C) {k k' : List It} {e e' : Env} {s s' : List Blk} {x : X} {ps : List Prop} (h : run K C n [] k e s = ⟨ps, k', x, e', s'⟩) (hp : allP ps)
    (hv : VX C Q k' x e' s') : VX C Q k .nrm e s := (run_ok hK hC n [] k e s _ h hp hv).2
theorem V_of_VX {c : Code} (h : VX C Q [.c c] .nrm env σ) : V C c env σ Q := h.mono fun x e s hx => hx

def splits : List It → Bool
  | .c _ :: _ | .r _ _ :: _ | .o _ _ _ :: _ => true
  | _ => false
/-- What a temporary's datum is besides. -/
theorem VX_put {k : List It} (t : Nat) {d : D} (hk : splits k = true) (hd : ∀ H β v, DRel C.tb H β σ v (getD env t) → DRel C.tb H β σ v d) (h : VX C Q k .nrm ((t, d) :: env) σ) : VX C Q k .nrm env σ := by
  match k, hk with
  | .c code :: k, _ => exact fun H β a w hr he hdf => h H β a w hr (he.shadow fun v hv => hd H β v hv) hdf
  | .r full l :: k, _ => exact fun H β a w hr he hdf => h H β a w hr (he.shadow fun v hv => hd H β v hv) hdf
  | .o full ts ord :: k, _ => exact fun listed h1 h2 h3 h4 H β a w hr he hdf => h listed h1 h2 h3 h4 H β a w hr (he.shadow fun v hv => hd H β v hv) hdf
/-- A truth in a temporary. -/
theorem VX_split {k : List It} (t : Nat) {ty : TypeId} {b : Bool} (hk : splits k = true) (hb : getD env t = .t ty (.e (.bool b)))
    (h1 : b = true → VX C Q k .nrm ((t, .kb ty true) :: env) σ) (h0 : b = false → VX C Q k .nrm ((t, .kb ty false) :: env) σ) : VX C Q k .nrm env σ := by
  have key : ∀ H β v, DRel C.tb H β σ v (getD env t) → DRel C.tb H β σ v (.kb ty b) := fun H β v hv => by
    rw [hb] at hv
    have := boolAny_rel hv rfl
    subst this
    cases hv with
    | t a c => cases c with
      | e r => cases r with
        | bool hc => exact .kb hc
  cases b with
  | true => exact VX_put t hk key (h1 rfl)
  | false => exact VX_put t hk key (h0 rfl)
/-- An operation by its own rule. -/
theorem VX_op {k : List It} {full l : List Oper} {o : Oper} {R : D → List Blk → Prop} (hw : wants full env o = some true) (hn : dstOk C.n o.dst = true) (ho : OpV C o env σ R)
    (h : ∀ d s, R d s → VX C Q (.r full l :: k) .nrm (putD env o.dst d) s) : VX C Q (.r full (o :: l) :: k) .nrm env σ := VL_wants hw hn ho h
theorem VX_opO {k : List It} {full : List Oper} {ts : List Nat} {i : Nat} {ord : List (Nat × Bool)} {o : Oper} {R : D → List Blk → Prop} (hi : full[i]? = some o) (hw : wants full env o = some true) (hn : dstOk C.n o.dst = true) (ho : OpF C o env σ ts R)
    (h : ∀ d s, R d s → VX C Q (.o full ts ord :: k) .nrm (putD env o.dst d) s) (hal : aloneB full ((i, false) :: ord) = true := by kernel_rfl) : VX C Q (.o full ts ((i, false) :: ord) :: k) .nrm env σ := VO_one hi hw hn ho h hal
theorem VX_draw {k : List It} {id : Nat} {l : List Oper} (ts : List Nat) (r : List (Nat × Bool)) (hm : C.P.follows .mixedOrders = true) (hns : Region.noSelect l.toArray = true)
    (hl : okAll r l.length = true) (hs : okSched l.toArray r (Array.replicate l.toArray.size false) = true) (h : VX C Q (.o l ts r :: k) .nrm env σ) : VX C Q (.c (.region id l.toArray true) :: k) .nrm env σ :=
  V_draw ts r hm hns hl hs h
/-- Two that may come up together, of which neither turns a block that is told of. -/
theorem VX_pair {k : List It} {full : List Oper} {ts : List Nat} {i j : Nat} {oi oj : Oper} {di dj : D} {ord : List (Nat × Bool)} (hi : full[i]? = some oi) (hj : full[j]? = some oj) (hp : pairB full ((i, false) :: (j, false) :: ord) = true)
    (hwi : wants full env oi = some true) (hwj : wants full env oj = some true) (hwi' : wants full (putD env oj.dst dj) oi = some true) (hwj' : wants full (putD env oi.dst di) oj = some true) (hni : dstOk C.n oi.dst = true) (hnj : dstOk C.n oj.dst = true)
    (fi : OpF C oi env σ ts (fun d s => d = di ∧ s = σ)) (fj : OpF C oj env σ ts (fun d s => d = dj ∧ s = σ)) (fi' : OpF C oi (putD env oj.dst dj) σ ts (fun d s => d = di ∧ s = σ)) (fj' : OpF C oj (putD env oi.dst di) σ ts (fun d s => d = dj ∧ s = σ))
    (hsw : ∀ t, getD (putD (putD env oi.dst di) oj.dst dj) t = getD (putD (putD env oj.dst dj) oi.dst di) t)
    (h : VX C Q (.o full ts ord :: k) .nrm (putD (putD env oi.dst di) oj.dst dj) σ) : VX C Q (.o full ts ((i, false) :: (j, false) :: ord) :: k) .nrm env σ :=
  VO_pair hi hj hp hwi hwj hwi' hwj' hni hnj fi fj fi' fj' hsw h
/-- In a region that draws: from here on other blocks may be turned. -/
theorem VX_ts {k : List It} {l : List Oper} {ts : List Nat} {r : List (Nat × Bool)} (ts' : List Nat) (hs' : settled l.toArray l.length r = true) (h : VX C Q (.o l ts' r :: k) .nrm env σ) : VX C Q (.o l ts r :: k) .nrm env σ :=
  VO_ts ts' hs' h
theorem VX_weak {k : List It} {c : Code} {env' : Env} {σ' : List Blk} (hw : Weak C.k0 env' σ' env σ) (h : VX C Q (.c c :: k) .nrm env' σ') : VX C Q (.c c :: k) .nrm env σ := V_weak hw h
/-- A loop: an invariant with a number that every round lowers. -/
theorem VX_loop {k : List It} {c : Code} (I : Nat → Env → List Blk → Prop) (m0 : Nat) (h0 : I m0 env σ)
    (step : ∀ m e s, I m e s → VX C (fun x e1 s1 => match x with
      | .nrm => ∃ m', m' < m ∧ ∃ e' s', Weak C.k0 e' s' e1 s1 ∧ I m' e' s'
      | x => VX C Q k x e1 s1) [.c c] .nrm e s) : VX C Q (.c (.loop c) :: k) .nrm env σ := by
  refine V_loop I m0 h0 fun m e s hI => (V_of_VX (step m e s hI)).mono fun x e1 s1 hx => ?_
  cases x <;> exact hx
theorem VX_brk {k : List It} {id : Nat} (h : VX C Q k .nrm env σ) : VX C Q (.b id :: k) (.ext id) env σ := by
  simp only [VX, Nat.beq_refl]; exact h
/-- What a loop's body must come to. -/
def loopQ (C : Cx) (Q : Post) (k : List It) (cont : Env → List Blk → Prop) : Post := fun x e s => match x with
  | .nrm => cont e s
  | .ext id => VX C Q k (.ext id) e s
  | .ret => VX C Q k .ret e s
theorem loop_brk {k : List It} {id : Nat} {cont : Env → List Blk → Prop} (h : VX C Q k .nrm env σ) : VX C (loopQ C Q (.b id :: k) cont) [] (.ext id) env σ := VX_brk h
theorem loop_ext {k k' : List It} {id : Nat} {cont : Env → List Blk → Prop} (hu : unw id k = some k') (h : VX C Q k' .nrm env σ) : VX C (loopQ C Q k cont) [] (.ext id) env σ := by
  show VX C Q k (.ext id) env σ
  exact VX_unw (k := k) hu h
theorem loop_ret {k : List It} {cont : Env → List Blk → Prop} (h : Q .ret env σ) : VX C (loopQ C Q k cont) [] .ret env σ := VX_ret (k := k) h
theorem loop_nrm {k : List It} {cont : Env → List Blk → Prop} (h : cont env σ) : VX C (loopQ C Q k cont) [] .nrm env σ := h
/-- A loop over states that are told by something. -/
theorem VX_loopA {k : List It} {c : Code} {α : Type _} (inv : α → Prop) (envOf : α → Env) (sOf : α → List Blk) (meas : α → Nat) (a0 : α) (h0 : inv a0) (hw : Weak C.k0 (envOf a0) (sOf a0) env σ)
    (step : ∀ a, inv a → VX C (loopQ C Q k fun e1 s1 => ∃ a', meas a' < meas a ∧ inv a' ∧ Weak C.k0 (envOf a') (sOf a') e1 s1) [.c c] .nrm (envOf a) (sOf a)) : VX C Q (.c (.loop c) :: k) .nrm env σ := by
  refine VX_weak hw (VX_loop (fun m e s => ∃ a, inv a ∧ meas a = m ∧ e = envOf a ∧ s = sOf a) (meas a0) ⟨a0, h0, rfl, rfl, rfl⟩ ?_)
  rintro m e s ⟨a, ha, rfl, rfl, rfl⟩
  refine V.mono (V_of_VX (step a ha)) fun x e1 s1 hx => ?_
  cases x with
  | nrm => obtain ⟨a', h1, h2, h3⟩ := hx; exact ⟨_, h1, _, _, h3, a', h2, rfl, rfl, rfl⟩
  | ext j => exact hx
  | ret => exact hx
end
end Go.Den
/- More operations: the greater and the smaller of numbers; a slice against nil; a nil slice as a row. -/
namespace Go.Den
open Go
set_option linter.unusedSectionVars false
set_option linter.unusedSimpArgs false
set_option linter.unusedVariables false

section
variable {C : Cx} (hC : Ok C) {o : Oper} {env : Env} {σ : List Blk}

theorem opdArg2 {a : Act} {x y : Operand} {b : Builtin} {ts : Array TypeId} (ho : o.op = .call { callee := .builtin b, args := #[x, y], argTypes := ts }) {P : Program} {w : World} :
    (execOp a.eval o).run P w = (builtin b ts o.type (#[x, y].map fun | .const _ => true | _ => false) #[a.eval x, a.eval y]).run P w := by
  simp [execOp, ho, resolve, invoke]
  rfl

theorem Ok_max {x y : Operand} {t t2 : TypeId} {dx dy : D} {k : IntKind} {a b : Int} (ho : o.op = .call { callee := .builtin .max, args := #[x, y], argTypes := #[t, t2] }) (ht : td C.tb t = .int k) (ht2 : td C.tb t2 = .int k) (hr : td C.tb o.type = .int k)
    (hx : opd C.tb env t x = some dx) (hy : opd C.tb env t2 y = some dy) (ha : intAt C.tb t dx = some a) (hb : intAt C.tb t2 dy = some b) : OpOk C o env σ ⟨True, .t o.type (.e (.int (if b > a then b else a))), σ⟩ :=
  OpOk_val fun H β ac w hr' he => by
    obtain ⟨h1, h2⟩ := intAt_rel (opd_rel he hx) ha ht
    obtain ⟨h3, h4⟩ := intAt_rel (opd_rel he hy) hb ht2
    refine ⟨.int k (if b > a then b else a), fun w' hw' => ?_, .mkInt hr (by split <;> assumption)⟩
    rw [opdArg2 ho]
    simp [builtin, Builtin.max_, Builtin.max2, h1, h3]
theorem Ok_min {x y : Operand} {t t2 : TypeId} {dx dy : D} {k : IntKind} {a b : Int} (ho : o.op = .call { callee := .builtin .min, args := #[x, y], argTypes := #[t, t2] }) (ht : td C.tb t = .int k) (ht2 : td C.tb t2 = .int k) (hr : td C.tb o.type = .int k)
    (hx : opd C.tb env t x = some dx) (hy : opd C.tb env t2 y = some dy) (ha : intAt C.tb t dx = some a) (hb : intAt C.tb t2 dy = some b) : OpOk C o env σ ⟨True, .t o.type (.e (.int (if b < a then b else a))), σ⟩ :=
  OpOk_val fun H β ac w hr' he => by
    obtain ⟨h1, h2⟩ := intAt_rel (opd_rel he hx) ha ht
    obtain ⟨h3, h4⟩ := intAt_rel (opd_rel he hy) hb ht2
    refine ⟨.int k (if b < a then b else a), fun w' hw' => ?_, .mkInt hr (by split <;> assumption)⟩
    rw [opdArg2 ho]
    simp [builtin, Builtin.min_, Builtin.min2, h1, h3]

/-- A slice of data against nil: of a slice with elements the answer is known, of another one it is not. -/
theorem OpV_nilS (hC : Ok C) {op : BinOp} {xt yt u : TypeId} {x : Operand} {dx : D} {xs : List E} (ho : o.op = .binOp op xt x (.const (.slice none 0 0)) yt) (hop : op = .eql ∨ op = .neq) (ht : td C.tb xt = .sl u)
    (hx : opd C.tb env xt x = some dx) (hd : slE dx = some xs) (hs : same C.tb (tagD dx) xt = true) :
    OpV C o env σ (fun d s => ∃ b : Bool, (b = true → xs = []) ∧ d = .t C.bt (.e (.bool (if op = .eql then b else !b))) ∧ s = σ) := by
  intro H β a w hr he hd' K Qx hK
  have hrd := (slE_rel (opd_rel he hx) hd).cast hC.tab (same_td hs)
  obtain ⟨ad, c, u', g1, g2, g3, g4⟩ := hrd.sl_inv
  have heq := run_equalIn_slice_nil (P := C.P) w 9999 xt u ad xs.length c (hC.tab.sl ht)
  have hgd : eqGuard op xt x (.const (.slice none 0 0)) (.slice ad xs.length c) (.slice none 0 0) = pure () := by
    unfold eqGuard; split <;> rfl
  have hcv : a.eval (.const (.slice none 0 0)) = .slice none 0 0 := rfl
  have hrun : (execOp a.eval o).run C.P w = .ok (.value (.bool (if op = .eql then ad.isNone else !ad.isNone))) w := by
    rcases hop with rfl | rfl
    · simp [execOp, ho, g1, hcv, hgd, binOp, Op.equal, Op.maxDepth, heq]
    · simp [execOp, ho, g1, hcv, hgd, binOp, Op.equal, Op.maxDepth, heq]
  simp only [Oper.wp, hrun, Oper.upon]
  refine hK _ _ w H β σ ⟨ad.isNone, fun hb => ?_, rfl, rfl⟩ hr (.mkBool hC.bt) (.refl _ _) (.refl _ _ _)
  rcases Nat.eq_zero_or_pos xs.length with h | h
  · exact List.length_eq_zero_iff.1 h
  · obtain ⟨u2, b, off, c2, cs, k1, k2, k3, k4, k5, k6, k7⟩ := hrd.sl_row h
    rw [g1] at k2
    simp only [Value.slice.injEq] at k2
    rw [k2.1] at hb; simp at hb
end

def dop2 (C : Cx) (env : Env) (σ : List Blk) (o : Oper) : Option DR := match o.op with
  | .call { callee := .builtin b, args := ⟨[x, y]⟩, argTypes := ⟨[t, t2]⟩ } => match b with
    | .max => match td C.tb t with
      | .int k => match td C.tb t2 == .int k && td C.tb o.type == .int k with
        | true => match opd C.tb env t x with
          | some dx => match opd C.tb env t2 y with
            | some dy => match intAt C.tb t dx with
              | some a => match intAt C.tb t2 dy with
                | some b => some ⟨True, .t o.type (.e (.int (if b > a then b else a))), σ⟩
                | none => none
              | none => none
            | none => none
          | none => none
        | false => none
      | _ => none
    | .min => match td C.tb t with
      | .int k => match td C.tb t2 == .int k && td C.tb o.type == .int k with
        | true => match opd C.tb env t x with
          | some dx => match opd C.tb env t2 y with
            | some dy => match intAt C.tb t dx with
              | some a => match intAt C.tb t2 dy with
                | some b => some ⟨True, .t o.type (.e (.int (if b < a then b else a))), σ⟩
                | none => none
              | none => none
            | none => none
          | none => none
        | false => none
      | _ => none
    | _ => none
  | _ => none
theorem dop2_ok {C : Cx} (hC : Ok C) {env : Env} {σ : List Blk} {o : Oper} {r : DR} (h : dop2 C env σ o = some r) (hp : r.p) : OpOk C o env σ r := by
  unfold dop2 at h
  split at h
  · rename_i bi x y t t2 ho
    split at h
    · split at h
      · rename_i k hk
        split at h
        · rename_i hh
          simp only [Bool.and_eq_true] at hh
          split at h
          · rename_i dx hx
            split at h
            · rename_i dy hy
              split at h
              · rename_i a ha
                split at h
                · rename_i b hb; cases h; exact Ok_max ho hk (td_beq hh.1) (td_beq hh.2) hx hy ha hb
                · cases h
              · cases h
            · cases h
          · cases h
        · cases h
      · cases h
    · split at h
      · rename_i k hk
        split at h
        · rename_i hh
          simp only [Bool.and_eq_true] at hh
          split at h
          · rename_i dx hx
            split at h
            · rename_i dy hy
              split at h
              · rename_i a ha
                split at h
                · rename_i b hb; cases h; exact Ok_min ho hk (td_beq hh.1) (td_beq hh.2) hx hy ha hb
                · cases h
              · cases h
            · cases h
          · cases h
        · cases h
      · cases h
    · cases h
  · cases h

def kit (bk : List Nat) (fs : List (FuncId × Kon)) : Kit := ⟨bk, dop2, fs⟩
theorem kit_ok {P : Program} {tb : Tab} {fs : List (FuncId × Kon)} (bk : List Nat) (h : kok P tb fs) : KitOk P tb (kit bk fs) := ⟨fun C _ _ hC env σ o r h hp => dop2_ok hC h hp, h⟩

/-! ### a nil slice becomes a row -/
theorem Rel.addRow {tb H β σ w} (h : Rel tb H β σ w) (u : TypeId) : Rel tb H (β ++ [.slice none 0 0]) (σ ++ [.row u 0]) w ∧ Ev H β σ H (β ++ [.slice none 0 0]) (σ ++ [.row u 0]) := by
  have hl := h.len
  have hev : Ev H β σ H (β ++ [.slice none 0 0]) (σ ++ [.row u 0]) := by
    refine ⟨fun _ _ _ e => e, fun i ty x e => ?_, fun i ety n e => ?_, fun i s p e => ?_, fun i ety o xs e => ?_, fun i k9 e9 xs e => ?_⟩
    all_goals have hi := (List.getElem?_eq_some_iff.1 e).1
    · exact ⟨List.getElem?_append_left (by omega), x, by rw [List.getElem?_append_left hi]; exact e⟩
    · exact ⟨n, by rw [List.getElem?_append_left hi]; exact e, Nat.le_refl _, fun _ => List.getElem?_append_left (by omega)⟩
    · exact ⟨List.getElem?_append_left (by omega), s, p, by rw [List.getElem?_append_left hi]; exact e⟩
    · exact ⟨o, xs, by rw [List.getElem?_append_left hi]; exact e, Nat.le_refl _, fun _ => List.getElem?_append_left (by omega)⟩
    · exact ⟨List.getElem?_append_left (by omega), xs, by rw [List.getElem?_append_left hi]; exact e⟩
  refine ⟨⟨h.pers, h.dom, by simp [hl], fun i k bv hk hv => ?_⟩, hev⟩
  rcases Nat.lt_or_ge i σ.length with hi | hi
  · rw [List.getElem?_append_left hi] at hk
    rw [List.getElem?_append_left (by omega)] at hv
    exact (h.blk i k bv hk hv).mono hev (fun b o e => ⟨e, rfl, fun _ _ => rfl, rfl⟩) (fun b x _ _ e => e)
  · have : i = σ.length := by have := (List.getElem?_eq_some_iff.1 hk).1; simp at this; omega
    subst this
    rw [List.getElem?_append_right (Nat.le_refl _)] at hk
    rw [List.getElem?_append_right (by omega)] at hv
    simp [hl] at hk hv
    subst hk; subst hv
    exact .inl ⟨rfl, rfl⟩

theorem DRel.promote {tb : Tab} {H β σ v ty u} (hl : β.length = σ.length) (h : DRel tb H β σ v (.t ty .nsl)) (hu : td tb ty = .sl u) : DRel tb H (β ++ [.slice none 0 0]) (σ ++ [.row u 0]) v (.t ty (.lsl σ.length [])) := by
  cases h with
  | t a b =>
    cases b with
    | nsl c =>
      refine .t a (.lsl hu (.sl0 c) ⟨0, by simp, Nat.le_refl _, fun _ => ?_⟩)
      rw [List.getElem?_append_right (by omega)]; simp [hl]

/-- The temporary t holds a nil slice: from here on it is the newest of a row that is empty. -/
theorem VX_promote {C : Cx} {Q : Post} {env : Env} {σ : List Blk} {k : List It} {c : Code} (t : Nat) {ty u : TypeId} (ht : getD env t = .t ty .nsl) (hu : td C.tb ty = .sl u)
    (h : VX C Q (.c c :: k) .nrm ((t, .t ty (.lsl σ.length [])) :: env) (σ ++ [.row u 0])) : VX C Q (.c c :: k) .nrm env σ := by
  intro H β a w hr he hd
  obtain ⟨hr2, hev⟩ := hr.addRow u
  have he2 := he.mono hev
  have hv := he.get t
  rw [ht] at hv
  have hp := hv.promote hr.len hu
  have he3 : EnvRel C.tb H (β ++ [.slice none 0 0]) (σ ++ [.row u 0]) C.n a ((t, .t ty (.lsl σ.length [])) :: env) := by
    refine ⟨he.1, fun t' => ?_⟩
    have hg : getD ((t, .t ty (.lsl σ.length [])) :: env) t' = match Nat.beq t t' with | true => .t ty (.lsl σ.length []) | false => getD env t' := rfl
    rw [hg]
    cases hb : Nat.beq t t' with
    | true => have := Nat.eq_of_beq_eq_true hb; subst this; exact hp
    | false => exact he2.2 t'
  exact wp_mono (h H _ a w hr2 he3 hd) fun _ _ _ hl => hl.trans (.refl _ _) (hev.kp C.k0)
end Go.Den
namespace Go.Den
open Go
section
variable {C : Cx} {env : Env} {σ : List Blk} {Q : Post}
theorem VX_go (hC : Ok C) {fs : List (FuncId × Kon)} (hk : kok C.P C.tb fs) (n : Nat) (bk : List Nat) {k k' : List It} {e e' : Env} {s s' : List Blk} {x : X} {ps : List Prop} (h : run (kit bk fs) C n [] k e s = ⟨ps, k', x, e', s'⟩) (hp : allP ps)
    (hv : VX C Q k' x e' s') : VX C Q k .nrm e s := VX_run n (kit_ok bk hk) hC h hp hv
/-- A number in a temporary, told otherwise. -/
theorem VX_eq {k : List It} (t : Nat) {d d' : D} (hk : splits k = true) (hd : getD env t = d) (h : d = d') (hv : VX C Q k .nrm ((t, d') :: env) σ) : VX C Q k .nrm env σ :=
  VX_put t hk (fun H β v hv => by rw [hd, h] at hv; exact hv) hv
end
theorem wk0 {k0 : Nat} {env' env : Env} {σ : List Blk} (h0 : Nat.ble k0 σ.length = true) (hb : ∀ k ∈ σ, k.under σ.length = true) (h : leL σ.length env' env) : Weak k0 env' σ env σ :=
  ⟨⟨[], by simp⟩, Nat.le_of_ble_eq_true h0, hb, h⟩
theorem lc {k : Nat} {t : Nat} {d' : D} {e' e : Env} (h : leD k d' (getD e t)) (r : leL k e' e) : leL k ((t, d') :: e') e := ⟨h, r⟩
theorem lnil {k : Nat} {e : Env} : leL k [] e := trivial
theorem ls {k : Nat} {d d' : D} (h : d' = d) (hu : d.under k = true) : leD k d' d := .inr (.inl ⟨h, hu⟩)
theorem li {k : Nat} {ty : TypeId} {a b : Int} (h : a = b) : leD k (.t ty (.e (.int a))) (.t ty (.e (.int b))) := .inr (.inl ⟨by rw [h], rfl⟩)
theorem lsr {k : Nat} {ty ty' : TypeId} {x y : E} (ht : ty = ty') (h : x = y) : leD k (.t ty (.e x)) (.t ty' (.e y)) := .inr (.inl ⟨by rw [h, ht], rfl⟩)
theorem lrow {k : Nat} {ty i xs} : leD k (.t ty (.e (.sl xs))) (.t ty (.lsl i xs)) := .inr (.inr (.inl ⟨ty, i, xs, rfl, rfl⟩))
theorem lnsl {k : Nat} {ty} : leD k (.t ty (.e (.sl []))) (.t ty .nsl) := .inr (.inr (.inr (.inl ⟨ty, rfl, rfl⟩)))
theorem lbsl {k : Nat} {ty xs} : leD k (.t ty (.e (.sl xs))) (.t ty (.bsl xs)) := .inr (.inr (.inr (.inr (.inl ⟨ty, xs, rfl, rfl⟩))))
theorem lkb {k : Nat} {ty b} : leD k (.t ty (.e (.bool b))) (.kb ty b) := .inr (.inr (.inr (.inr (.inr ⟨ty, b, rfl, rfl⟩))))
end Go.Den
/- Calls that hand over blocks, as steps of the machine. -/
namespace Go.Den
open Go
/-! what a call hands back, written out -/
mutual
def normT {α : Type _} : T → (T → α) → α
  | .e x, k => k (.e x)
  | .st xs, k => normTs xs fun ys => k (.st ys)
  | .nsl, k => k .nsl
  | .bsl xs, k => k (.bsl xs)
  | .lsl i xs, k => litK i fun j => k (.lsl j xs)
  | .ptr i p, k => litK i fun j => k (.ptr j p)
  | .fn f c, k => k (.fn f c)
  | .msl i n, k => litK i fun j => k (.msl j n)
  | .tsl xs, k => normTs xs fun ys => k (.tsl ys)
  | .mp i, k => litK i fun j => k (.mp j)
def normTs {α : Type _} : List T → (List T → α) → α
  | [], k => k []
  | x :: xs, k => normT x fun y => normTs xs fun ys => k (y :: ys)
end
mutual
theorem normT_eq {α : Type _} : ∀ (x : T) (k : T → α), normT x k = k x
  | .e x, k => rfl
  | .st xs, k => by simp only [normT]; rw [normTs_eq xs]
  | .nsl, k => rfl
  | .bsl xs, k => rfl
  | .lsl i xs, k => by simp only [normT]; rw [litK_eq]
  | .ptr i p, k => by simp only [normT]; rw [litK_eq]
  | .fn f c, k => rfl
  | .msl i n, k => by simp only [normT]; rw [litK_eq]
  | .tsl xs, k => by simp only [normT]; rw [normTs_eq xs]
  | .mp i, k => by simp only [normT]; rw [litK_eq]
theorem normTs_eq {α : Type _} : ∀ (xs : List T) (k : List T → α), normTs xs k = k xs
  | [], k => rfl
  | x :: xs, k => by simp only [normTs]; rw [normT_eq x, normTs_eq xs]
end
mutual
def normD {α : Type _} : D → (D → α) → α
  | .t ty x, k => normT x fun y => k (.t ty y)
  | .ptr i p, k => litK i fun j => k (.ptr j p)
  | .el u xs j p, k => k (.el u xs j p)
  | .asl i p u off n, k => litK i fun j => k (.asl j p u off n)
  | .tup xs, k => normDs xs fun ys => k (.tup ys)
  | .it i, k => litK i fun j => k (.it j)
  | .kb ty b, k => k (.kb ty b)
  | .mel u i n j p, k => litK i fun i' => k (.mel u i' n j p)
  | .tel u xs j, k => normTs xs fun ys => k (.tel u ys j)
  | .any, k => k .any
def normDs {α : Type _} : List D → (List D → α) → α
  | [], k => k []
  | x :: xs, k => normD x fun y => normDs xs fun ys => k (y :: ys)
end
mutual
theorem normD_eq {α : Type _} : ∀ (x : D) (k : D → α), normD x k = k x
  | .t ty x, k => by simp only [normD]; rw [normT_eq x]
  | .ptr i p, k => by simp only [normD]; rw [litK_eq]
  | .el u xs j p, k => rfl
  | .asl i p u off n, k => by simp only [normD]; rw [litK_eq]
  | .tup xs, k => by simp only [normD]; rw [normDs_eq xs]
  | .it i, k => by simp only [normD]; rw [litK_eq]
  | .kb ty b, k => rfl
  | .mel u i n j p, k => by simp only [normD]; rw [litK_eq]
  | .tel u xs j, k => by simp only [normD]; rw [normTs_eq xs]
  | .any, k => rfl
theorem normDs_eq {α : Type _} : ∀ (xs : List D) (k : List D → α), normDs xs k = k xs
  | [], k => rfl
  | x :: xs, k => by simp only [normDs]; rw [normD_eq x, normDs_eq xs]
end
def normB {α : Type _} : Blk → (Blk → α) → α
  | .tree ty x, k => normT x fun y => k (.tree ty y)
  | .row u n, k => k (.row u n)
  | .iter s p, k => k (.iter s p)
  | .dead, k => k .dead
  | .mrow u o xs, k => k (.mrow u o xs)
  | .mp kt e es, k => k (.mp kt e es)
theorem normB_eq {α : Type _} (x : Blk) (k : Blk → α) : normB x k = k x := by
  cases x with
  | tree ty x => simp only [normB]; rw [normT_eq x]
  | _ => rfl
def normBs {α : Type _} : List Blk → (List Blk → α) → α
  | [], k => k []
  | x :: xs, k => normB x fun y => normBs xs fun ys => k (y :: ys)
theorem normBs_eq {α : Type _} : ∀ (xs : List Blk) (k : List Blk → α), normBs xs k = k xs
  | [], k => rfl
  | x :: xs, k => by simp only [normBs]; rw [normB_eq x, normBs_eq xs]
def retK (env : Env) (dst : Option Tmp) : Option D → Option Env
  | some d => match dst with
    | some t => normD d fun d' => some ((t, d') :: env)
    | none => some env
  | none => none
theorem retK_eq (env : Env) (dst : Option Tmp) (d : D) : retK env dst (some d) = some (putD env dst d) := by
  cases dst with
  | none => rfl
  | some t => simp only [retK]; rw [normD_eq d]; rfl
section
variable {C : Cx} {env : Env} {σ : List Blk} {Q : Post}
theorem VX_callR (hC : Ok C) {k : List It} {full l : List Oper} {o : Oper} {f : FuncId} {xs : Array Operand} {tys : Array TypeId} (pts : List TypeId) {ds args : List D} {σ0 : List Blk} {Q0 : D → List Blk → Prop} (idx : List Nat)
    (hw : wants full env o = some true) (hn : dstOk C.n o.dst = true) (ho : o.op = .call { callee := .value (.func f), args := xs, argTypes := tys }) (hx : argsD C.tb env pts xs.toList = some ds) (hds : D.rens (idxOf idx) ds = some args) (hp : pickB σ (idxOf idx) idx 0 = some σ0)
    (h : FnG C.P C.tb f σ0 args Q0)
    (hk : ∀ d s, backR σ idx Q0 d s → VX C Q (.r full l :: k) .nrm (putD env o.dst d) s) : VX C Q (.r full (o :: l) :: k) .nrm env σ :=
  VX_op hw hn (OpF_call (ts := idx) hC ho hx hds hp h (by simp [disj])).v hk
theorem VX_callD (hC : Ok C) {k : List It} {full l : List Oper} {o : Oper} {f : FuncId} {xs : Array Operand} {tys : Array TypeId} (pts : List TypeId) {ds args : List D} {σ0 s0 τ s : List Blk} {d0 : D} {env' : Env} (idx : List Nat)
    (hw : wants full env o = some true) (hn : dstOk C.n o.dst = true) (ho : o.op = .call { callee := .value (.func f), args := xs, argTypes := tys }) (hx : argsD C.tb env pts xs.toList = some ds) (hds : D.rens (idxOf idx) ds = some args) (hp : pickB σ (idxOf idx) idx 0 = some σ0)
    (h : FnG C.P C.tb f σ0 args (fun d s => d = d0 ∧ s = s0))
    (hr : retK env o.dst (D.ren (fun j => some (backI idx σ.length j)) d0) = some env') (hb : renBs (fun j => some (backI idx σ.length j)) s0 = some τ) (hs : normBs (putBack σ idx τ) some = some s)
    (hk : VX C Q (.r full l :: k) .nrm env' s) : VX C Q (.r full (o :: l) :: k) .nrm env σ :=
  VX_callR hC pts idx hw hn ho hx hds hp h fun d' s' ⟨d1, s1, τ1, ⟨h1, h2⟩, h3, h4, h5⟩ => by
    subst h1; subst h2
    rw [h3, retK_eq] at hr; cases hr
    rw [hb] at h4; cases h4
    rw [normBs_eq] at hs; cases hs
    subst h5; exact hk
theorem VX_callO (hC : Ok C) {k : List It} {full : List Oper} {ts : List Nat} {i : Nat} {ord : List (Nat × Bool)} {o : Oper} {f : FuncId} {xs : Array Operand} {tys : Array TypeId} (pts : List TypeId) {ds args : List D} {σ0 s0 τ s : List Blk} {d0 : D} {env' : Env} (idx : List Nat)
    (hi : full[i]? = some o) (hw : wants full env o = some true) (hn : dstOk C.n o.dst = true) (ho : o.op = .call { callee := .value (.func f), args := xs, argTypes := tys }) (hx : argsD C.tb env pts xs.toList = some ds) (hds : D.rens (idxOf idx) ds = some args) (hp : pickB σ (idxOf idx) idx 0 = some σ0)
    (hts : disj idx ts = true) (h : FnG C.P C.tb f σ0 args (fun d s => d = d0 ∧ s = s0))
    (hr : retK env o.dst (D.ren (fun j => some (backI idx σ.length j)) d0) = some env') (hb : renBs (fun j => some (backI idx σ.length j)) s0 = some τ) (hs : normBs (putBack σ idx τ) some = some s)
    (hk : VX C Q (.o full ts ord :: k) .nrm env' s) (hal : aloneB full ((i, false) :: ord) = true := by kernel_rfl) : VX C Q (.o full ts ((i, false) :: ord) :: k) .nrm env σ :=
  VX_opO hi hw hn (OpF_call hC ho hx hds hp h hts) (fun d' s' ⟨d1, s1, τ1, ⟨h1, h2⟩, h3, h4, h5⟩ => by
    subst h1; subst h2
    rw [h3, retK_eq] at hr; cases hr
    rw [hb] at h4; cases h4
    rw [normBs_eq] at hs; cases hs
    subst h5; exact hk) hal
/-- A truth that is known. -/
theorem VX_known {k : List It} (t : Nat) (b' : Bool) {ty : TypeId} {b : Bool} (hk : splits k = true) (hb : getD env t = .t ty (.e (.bool b))) (h : b = b') (hv : VX C Q k .nrm ((t, .kb ty b') :: env) σ) : VX C Q k .nrm env σ := by
  subst h
  cases b with
  | true => exact VX_split t hk hb (fun _ => hv) (fun h => by cases h)
  | false => exact VX_split t hk hb (fun h => by cases h) (fun _ => hv)
end
end Go.Den
/- From what a statement gives of its arguments to the calculus, and back. -/
namespace Go.Den
open Go
open Go.RowKit (Below)
set_option linter.unusedVariables false

/-- All of a world's cells, as they stand. -/
def Hw (w : World) : Gh := fun b o => match w.cell? ⟨b, o, none⟩ with
  | some v => .pers v
  | none => .none
theorem Hw_pers {w b o v} : Hw w b o = .pers v ↔ w.cell? ⟨b, o, none⟩ = some v := by
  unfold Hw
  cases h : w.cell? ⟨b, o, none⟩ <;> simp
theorem Hw_mine {w b o i} : Hw w b o ≠ .mine i := by
  unfold Hw
  cases h : w.cell? ⟨b, o, none⟩ <;> simp
theorem Hw_base (w : World) : Base (Hw w) w := by
  refine ⟨fun b o v h => Hw_pers.1 h, fun b o h => ?_⟩
  rcases Nat.lt_or_ge b w.heap.size with h1 | h1
  · exact h1
  · refine absurd ?_ h
    have : w.cell? ⟨b, o, none⟩ = none := by
      unfold World.cell?
      simp [Array.getElem?_eq_none h1]
    unfold Hw; rw [this]

/-- A law's walk, out of its contract. -/
theorem walk_of {P : Program} {tb : Tab} {f : FuncId} {pts : List TypeId} {t : TypeId} {args : List E} {b : Bool} {vals : Array Value} {w : World} (h : FnOk P tb f pts [t] args [.bool b])
    (hv : ArgsAt tb (Hw w) [] [] vals (typed pts args)) : Calls P f vals w fun e w' => e = .returned (.bool b) ∧ Below w.heap.size w w' := by
  refine (h.2.2 (Hw w) w vals (Hw_base w) (fun _ _ _ => Hw_mine) hv).mono ?_
  rintro e w' ⟨v, H', rfl, hb, hd, hs⟩
  have := boolAny_rel hd (b := b) rfl
  subst this
  exact ⟨rfl, hs.os, hs.tape, hs.output, hs.size, fun k hk => hs.blk k hk fun o i => Hw_mine⟩

theorem argsAt_nil {tb : Tab} {H : Gh} (hg : GlRel tb H := by exact Go.Den.GlRel.nil rfl) : ArgsAt tb H [] [] #[] (typed [] []) := ⟨⟨rfl, hg⟩, fun i v d h => by simp at h⟩
theorem argsAt_list {tb : Tab} {H : Gh} {vs : List Value} {pts : List TypeId} {args : List E} (hl : args.length = pts.length) (hv : vs.length = pts.length)
    (h : ∀ (i : Nat) v t x, vs[i]? = some v → pts[i]? = some t → args[i]? = some x → DRel tb H [] [] v (.t t (.e x))) (hg : GlRel tb H := by exact Go.Den.GlRel.nil rfl) : ArgsAt tb H [] [] vs.toArray (typed pts args) := by
  refine ⟨⟨by rw [typed_length hl]; simpa using hv, hg⟩, fun i v d hi hd => ?_⟩
  have key : ∀ (ts : List TypeId) (xs : List E) (i : Nat) d, (typed ts xs)[i]? = some d → ∃ t x, ts[i]? = some t ∧ xs[i]? = some x ∧ d = .t t (.e x) := by
    intro ts
    induction ts with
    | nil => intro xs i d h; simp [typed] at h
    | cons t ts ih =>
      intro xs i d h
      cases xs with
      | nil => simp [typed] at h
      | cons x xs =>
        cases i with
        | zero => simp [typed] at h; exact ⟨t, x, rfl, rfl, h.symm⟩
        | succ i => simpa using ih xs i d (by simpa [typed] using h)
  obtain ⟨t, x, h1, h2, rfl⟩ := key _ _ _ _ hd
  exact h i v t x (by simpa using hi) h1 h2

theorem wf_wrap {k : IntKind} {n : Int} (h : (Lit.int k n).wf = true) : k.wrap n = n := by
  refine inR_wrap ?_
  cases k <;> simpa [Lit.wf, inR, IntKind.min, IntKind.max, IntKind.signed, IntKind.bits] using h
theorem rd_int {tb : Tab} {H : Gh} {t : TypeId} {k : IntKind} {n : Int} (ht : td tb t = .int k) (h : (Lit.int k n).wf = true) : DRel tb H [] [] (.int k n) (.t t (.e (.int n))) := .mkInt ht (wf_wrap h)
theorem rd_ints {tb : Tab} {w : World} {t u : TypeId} {k : IntKind} {a : Option Addr} {len cap : Nat} {zs : List Int} (ht : td tb t = .sl u) (hu : td tb u = .int k) (hsz : sz tb u = 1)
    (h : (a = none ∧ len = 0 ∧ cap = 0 ∧ zs = []) ∨
      ∃ x, a = some x ∧ len ≤ cap ∧ cap ≤ maxLen ∧ zs.length = cap ∧ (∀ i, i < zs.length → w.cell? (x.add i) = some (.int k (zs.getD i 0))) ∧ ∀ n ∈ zs, (Lit.int k n).wf = true) :
    DRel tb (Hw w) [] [] (.slice a len cap) (.t t (.e (.sl ((zs.take len).map .int)))) := by
  refine .of_rd ?_ (by simp [isAggT, ht])
  rcases h with ⟨rfl, rfl, rfl, rfl⟩ | ⟨x, rfl, h1, h2, h3, h4, h5⟩
  · exact .sl0 ht
  · rcases Nat.eq_zero_or_pos len with h0 | h0
    · subst h0; exact .sl0 ht
    · obtain ⟨b, off, rfl, hc⟩ := ints_at h4 (by omega)
      have hlen : ((zs.take len).map E.int).length = len := by simp; omega
      have := Rd.sl (tb := tb) (H := Hw w) (t := t) (u := u) (b := b) (off := off) (c := cap) (cs := (zs.take len).map (.int k)) (xs := (zs.take len).map E.int) ht (by simp [hsz]) (fun j v hj => ?_) (fun i e hi => ?_) (by omega) (by rw [hlen]; unfold maxLen at h2; unfold maxN; omega)
      · rw [hlen] at this; exact this
      · rw [Hw_pers]
        have hjl : j < len := by have := (List.getElem?_eq_some_iff.1 hj).1; simp at this; omega
        rw [hc j (by omega)]
        simp only [List.getElem?_map, List.getElem?_take, hjl, if_true] at hj
        have hz : zs[j]? = some zs[j] := List.getElem?_eq_getElem (by omega)
        rw [hz] at hj
        simp only [Option.map_some, Option.some.injEq] at hj
        rw [← hj]; simp [List.getD, hz]
      · have hil : i < len := by have := (List.getElem?_eq_some_iff.1 hi).1; simp at this; omega
        have hz : zs[i]? = some zs[i] := List.getElem?_eq_getElem (by omega)
        simp only [List.getElem?_map, List.getElem?_take, hil, if_true, hz, Option.map_some, Option.some.injEq] at hi
        subst hi
        have hseg : seg ((zs.take len).map (Value.int k)) (i * sz tb u) (sz tb u) = [.int k zs[i]] := by
          rw [hsz, Nat.mul_one]
          apply List.ext_getElem?
          intro q
          rcases Nat.eq_zero_or_pos q with hq | hq
          · subst hq; rw [seg_get (by omega)]; simp [hil, hz]
          · rw [List.getElem?_eq_none (by simp [seg]; omega), List.getElem?_eq_none (by simp; omega)]
        rw [hseg]
        exact .int hu (wf_wrap (h5 _ (List.getElem_mem _)))

theorem rd_str {tb : Tab} {H : Gh} {t : TypeId} {s : ByteArray} (ht : td tb t = .str) (h : s.size ≤ maxLen) : DRel tb H [] [] (.string s) (.t t (.e (.str s.data.toList))) := by
  have : Value.string s = sv s.data.toList := rfl
  rw [this]
  refine .mkStr ht ?_
  have hs : s.data.toList.length = s.size := rfl
  rw [hs]; unfold maxLen at h; unfold maxI; omega
theorem strs_at {w : World} {a : Addr} {ss : List ByteArray} (h : ∀ i, i < ss.length → w.cell? (a.add i) = some (.string (ss.getD i ByteArray.empty))) (hp : 0 < ss.length) :
    ∃ b off, a = ⟨b, off, none⟩ ∧ ∀ j, j < ss.length → w.cell? ⟨b, off + j, none⟩ = some (.string (ss.getD j ByteArray.empty)) := by
  obtain ⟨b, off, spot⟩ := a
  have hspot : spot = none := by simpa [Addr.add] using World.cell?_spot (h 0 hp)
  subst hspot
  exact ⟨b, off, rfl, fun j hj => by rw [← Go.WideShapes.add_plain]; exact h j hj⟩
theorem rd_strs {tb : Tab} {w : World} {t u : TypeId} {a : Option Addr} {len cap : Nat} {zs : List ByteArray} (ht : td tb t = .sl u) (hu : td tb u = .str) (hsz : sz tb u = 1)
    (h : (a = none ∧ len = 0 ∧ cap = 0 ∧ zs = []) ∨
      ∃ x, a = some x ∧ len ≤ cap ∧ cap ≤ maxLen ∧ zs.length = cap ∧ (∀ i, i < zs.length → w.cell? (x.add i) = some (.string (zs.getD i ByteArray.empty))) ∧ ∀ s ∈ zs, s.size ≤ maxLen) :
    DRel tb (Hw w) [] [] (.slice a len cap) (.t t (.e (.sl (((zs.take len).map fun s => s.data.toList).map .str)))) := by
  refine .of_rd ?_ (by simp [isAggT, ht])
  rcases h with ⟨rfl, rfl, rfl, rfl⟩ | ⟨x, rfl, h1, h2, h3, h4, h5⟩
  · exact .sl0 ht
  · rcases Nat.eq_zero_or_pos len with h0 | h0
    · subst h0; exact .sl0 ht
    · obtain ⟨b, off, rfl, hc⟩ := strs_at h4 (by omega)
      have hlen : (((zs.take len).map fun s => s.data.toList).map E.str).length = len := by simp; omega
      have := Rd.sl (tb := tb) (H := Hw w) (t := t) (u := u) (b := b) (off := off) (c := cap) (cs := (zs.take len).map Value.string) (xs := ((zs.take len).map fun s => s.data.toList).map E.str) ht (by simp [hsz]) (fun j v hj => ?_) (fun i e hi => ?_) (by omega) (by rw [hlen]; unfold maxLen at h2; unfold maxN; omega)
      · rw [hlen] at this; exact this
      · rw [Hw_pers]
        have hjl : j < len := by have := (List.getElem?_eq_some_iff.1 hj).1; simp at this; omega
        rw [hc j (by omega)]
        simp only [List.getElem?_map, List.getElem?_take, hjl, if_true] at hj
        have hz : zs[j]? = some zs[j] := List.getElem?_eq_getElem (by omega)
        rw [hz] at hj
        simp only [Option.map_some, Option.some.injEq] at hj
        rw [← hj]; simp [List.getD, hz]
      · have hil : i < len := by have := (List.getElem?_eq_some_iff.1 hi).1; simp at this; omega
        have hz : zs[i]? = some zs[i] := List.getElem?_eq_getElem (by omega)
        simp only [List.getElem?_map, List.getElem?_take, hil, if_true, hz, Option.map_some, Option.some.injEq] at hi
        subst hi
        have hseg : seg ((zs.take len).map Value.string) (i * sz tb u) (sz tb u) = [Value.string zs[i]] := by
          rw [hsz, Nat.mul_one]
          apply List.ext_getElem?
          intro q
          rcases Nat.eq_zero_or_pos q with hq | hq
          · subst hq; rw [seg_get (by omega)]; simp [hil, hz]
          · rw [List.getElem?_eq_none (by simp [seg]; omega), List.getElem?_eq_none (by simp; omega)]
        rw [hseg]
        have hs := h5 _ (List.getElem_mem (show i < zs.length by omega))
        refine .str (s := zs[i].data.toList) hu ?_
        have hs2 : zs[i].data.toList.length = zs[i].size := rfl
        rw [hs2]; unfold maxLen at hs; unfold maxI; omega
end Go.Den
/- Whatever readable data a statement hands over reads as data of the calculus. -/
namespace Go.Den
open Go
set_option linter.unusedVariables false

/-- Types of plain data: numbers, truths, texts, lists, structs, arrays of these. -/
def flatT (tb : Tab) : Nat → TypeId → Bool
  | 0, _ => false
  | n + 1, t => match td tb t with
    | .int _ | .bool | .str => true
    | .sl u => flatT tb n u && !(Nat.beq (sz tb u) 0)
    | .arr _ u => flatT tb n u
    | .st fs => fs.all fun f => flatT tb n f.1
    | _ => false

theorem choose_list {p : Nat → E → Prop} : ∀ (n : Nat), (∀ i, i < n → ∃ x, p i x) → ∃ xs : List E, xs.length = n ∧ ∀ i x, xs[i]? = some x → p i x
  | 0, _ => ⟨[], rfl, fun i x h => by simp at h⟩
  | n + 1, h => by
    obtain ⟨xs, h1, h2⟩ := choose_list n fun i hi => h i (by omega)
    obtain ⟨x, hx⟩ := h n (by omega)
    refine ⟨xs ++ [x], by simp [h1], fun i y hy => ?_⟩
    rcases Nat.lt_or_ge i n with hi | hi
    · rw [List.getElem?_append_left (by omega)] at hy; exact h2 i y hy
    · rw [List.getElem?_append_right (by omega), h1] at hy
      have : i - n = 0 := by
        rcases Nat.eq_zero_or_pos (i - n) with h0 | h0
        · exact h0
        · rw [List.getElem?_eq_none (by simp; omega)] at hy; cases hy
      rw [this] at hy
      simp at hy
      have hin : i = n := by omega
      rw [hin]; exact hy ▸ hx

theorem cellsOf_sz {P : Program} {tb : Tab} (hT : TabOk P tb) {t : TypeId} (h : t < tb.rows.length) : P.cellsOf t = sz tb t := by
  have := hT.at h
  unfold sz; rw [this]; rfl

theorem trod_rd {P : Program} {tb : Tab} (hT : TabOk P tb) {H : Type} {enc : TypeId × Value → H} {w : World} : ∀ (n fuel : Nat) (t : TypeId) (cs : List Value) (d : DataW H × List MemPlace),
    flatT tb n t = true → DataW.trod enc P w 0 (fun _ => true) true fuel t cs = some d → ∃ x, Rd tb (Hw w) t cs x
  | 0, _, _, _, _, hf, _ => by simp [flatT] at hf
  | n + 1, fuel, t, cs, d, hf, h => by
    unfold flatT at hf
    split at hf
    · rename_i k ht
      obtain ⟨m, rfl, _, hw⟩ := DataW.trod_int (hT.int ht) h
      exact ⟨_, .int ht (wf_wrap hw)⟩
    · rename_i ht
      cases fuel with
      | zero => simp [DataW.trod] at h
      | succ m =>
        unfold DataW.trod at h
        rw [hT.bool ht] at h
        split at h <;> simp_all
        exact ⟨_, .bool ht⟩
    · rename_i ht
      cases fuel with
      | zero => simp [DataW.trod] at h
      | succ m =>
        unfold DataW.trod at h
        rw [hT.str ht] at h
        split at h <;> simp_all
        rename_i s
        refine ⟨.str s.data.toList, .str (s := s.data.toList) ht ?_⟩
        have hs2 : s.data.toList.length = s.size := rfl
        have := h.1
        rw [hs2]; unfold maxLen at this; unfold maxI; omega
    · rename_i u ht
      simp only [Bool.and_eq_true, Bool.not_eq_true'] at hf
      obtain ⟨hf, hz⟩ := hf
      have hz0 : sz tb u ≠ 0 := fun e => by rw [e] at hz; simp at hz
      have hu : td tb u ≠ .other := fun e => hz0 (by
        cases n with
        | zero => simp [flatT] at hf
        | succ n => simp [flatT, e] at hf)
      have hcu := cellsOf_sz hT (hT.lt_of_td hu)
      rcases DataW.trod_slice (hT.sl ht) h with ⟨rfl, _⟩ | ⟨a, len, cap, elems, rest, m, _, rfl, _, hb, hl, hm, hlen, hel, _, _⟩
      · exact ⟨.sl [], .sl0 ht⟩
      · rcases Nat.eq_zero_or_pos len with h0 | h0
        · subst h0; exact ⟨.sl [], .sl0 ht⟩
        · have each : ∀ i, i < len → ∃ x : List Value × E, w.cells? 0 (a.add (i * sz tb u)) (sz tb u) = some x.1 ∧ Rd tb (Hw w) u x.1 x.2 := fun i hi => by
            have he := hel i hi
            rw [hcu] at he
            have hsome : elems[i]? = some elems[i] := List.getElem?_eq_getElem (by omega)
            rw [hsome] at he
            cases hc : w.cells? 0 (a.add (i * sz tb u)) (sz tb u) with
            | none => rw [hc] at he; simp at he
            | some vs =>
              rw [hc] at he
              obtain ⟨x, hx⟩ := trod_rd hT n m u vs _ hf (by simpa using he)
              exact ⟨(vs, x), rfl, hx⟩
          have h00 := each 0 h0
          obtain ⟨x0, hx0, _⟩ := h00
          have hspot : a.spot = none := by
            obtain ⟨_, g2, g3⟩ := World.cells?_some hx0
            have := g3 0 (by omega)
            have h1 : x0.1[0]? = some (x0.1[0]'(by omega)) := List.getElem?_eq_getElem (by omega)
            rw [h1] at this
            simp [Addr.add] at this
            exact World.cell?_spot this
          obtain ⟨b, off, sp⟩ := a
          cases hspot
          have hadd : ∀ i, (⟨b, off, none⟩ : Addr).add i = ⟨b, off + i, none⟩ := fun i => Go.WideShapes.add_plain _ _ _
          have cell : ∀ i, i < len → ∀ j, j < sz tb u → ∃ v, w.cell? ⟨b, off + (i * sz tb u + j), none⟩ = some v := fun i hi j hj => by
            obtain ⟨x, hx, _⟩ := each i hi
            obtain ⟨_, g2, g3⟩ := World.cells?_some hx
            have := g3 j hj
            rw [List.getElem?_eq_getElem (by omega), hadd, Go.WideShapes.add_plain] at this
            rw [← Nat.add_assoc]
            exact ⟨_, this⟩
          have cell2 : ∀ j, j < len * sz tb u → ∃ v, w.cell? ⟨b, off + j, none⟩ = some v := fun j hj => by
            have hp : 0 < sz tb u := by omega
            have h1 : j / sz tb u < len := (Nat.div_lt_iff_lt_mul hp).2 hj
            have := cell (j / sz tb u) h1 (j % sz tb u) (Nat.mod_lt _ hp)
            rwa [Nat.mul_comm, Nat.div_add_mod] at this
          let cs : List Value := (List.range (len * sz tb u)).map fun j => (w.cell? ⟨b, off + j, none⟩).getD undef
          have hcs : ∀ j v, cs[j]? = some v → w.cell? ⟨b, off + j, none⟩ = some v := fun j v hj => by
            have hjl : j < len * sz tb u := by have := (List.getElem?_eq_some_iff.1 hj).1; simpa [cs] using this
            obtain ⟨v', hv'⟩ := cell2 j hjl
            simp only [cs, List.getElem?_map, List.getElem?_range hjl, Option.map_some, Option.some.injEq, hv', Option.getD_some] at hj
            rw [hv', hj]
          have hcl : cs.length = len * sz tb u := by simp [cs]
          obtain ⟨xs, hx1, hx2⟩ := choose_list (p := fun i x => Rd tb (Hw w) u (seg cs (i * sz tb u) (sz tb u)) x) len fun i hi => by
            obtain ⟨⟨vs, x⟩, hx, hr⟩ := each i hi
            refine ⟨x, ?_⟩
            have : seg cs (i * sz tb u) (sz tb u) = vs := by
              obtain ⟨_, g2, g3⟩ := World.cells?_some hx
              apply List.ext_getElem?
              intro j
              rcases Nat.lt_or_ge j (sz tb u) with hj | hj
              · rw [seg_get hj]
                have h1 := g3 j hj
                rw [hadd, Go.WideShapes.add_plain] at h1
                have hlt : i * sz tb u + j < cs.length := by
                  rw [hcl]; have := Nat.mul_le_mul_right (sz tb u) (show i + 1 ≤ len from hi); rw [Nat.add_mul, Nat.one_mul] at this; omega
                rw [List.getElem?_eq_getElem hlt]
                have h2 := hcs _ _ (List.getElem?_eq_getElem hlt)
                rw [← Nat.add_assoc, h1] at h2
                exact h2.symm
              · rw [List.getElem?_eq_none (by simp [seg]; omega), List.getElem?_eq_none (by simp only at g2; omega)]
            rw [this]; exact hr
          have := Rd.sl (tb := tb) (H := Hw w) (t := t) (u := u) (b := b) (off := off) (c := cap) (cs := cs) (xs := xs) ht (by rw [hcl, hx1]) (fun j v hj => Hw_pers.2 (hcs j v hj)) hx2 (by omega) (by unfold maxLen at hm; unfold maxN; omega)
          rw [hx1] at this
          exact ⟨_, this⟩
    · rename_i m u ht
      have hu : td tb u ≠ .other := fun e => by
        cases n with
        | zero => simp [flatT] at hf
        | succ n => simp [flatT, e] at hf
      have hcu := cellsOf_sz hT (hT.lt_of_td hu)
      have hct := cellsOf_sz hT (hT.lt_of_td (t := t) (by rw [ht]; simp))
      obtain ⟨ys, q, _, _, hl, hlen, hel⟩ := DataW.trod_array (hT.arr ht) h
      rw [hct, hT.sz_arr ht] at hl
      obtain ⟨xs, hx1, hx2⟩ := choose_list (p := fun i x => Rd tb (Hw w) u (seg cs (i * sz tb u) (sz tb u)) x) m fun i hi => by
        have he := hel i hi
        rw [hcu, List.getElem?_eq_getElem (by omega)] at he
        exact trod_rd hT n q u _ _ hf he
      exact ⟨_, .arr ht hl hx1 hx2⟩
    · rename_i fs ht
      obtain ⟨gs, hg, hge⟩ := hT.st ht
      have hct := cellsOf_sz hT (hT.lt_of_td (t := t) (by rw [ht]; simp))
      obtain ⟨ys, q, _, _, hl, hlen, hel⟩ := DataW.trod_struct hg h
      rw [hct] at hl
      have hfl : fs.length = gs.size := by rw [← hge]; simp
      obtain ⟨xs, hx1, hx2⟩ := choose_list (p := fun i x => ∀ f : TypeId × Nat, fs[i]? = some f → Rd tb (Hw w) f.1 (seg cs f.2 (sz tb f.1)) x) fs.length fun i hi => by
        have hig : i < gs.size := by omega
        have he := hel i gs[i] (Array.getElem?_eq_getElem hig)
        rw [List.getElem?_eq_getElem (by omega)] at he
        have hfi : fs[i]? = some (gs[i].type, gs[i].offset) := by rw [← hge]; simp [hig]
        have hff := List.all_eq_true.1 hf _ (List.mem_of_getElem? hfi)
        have htn : td tb gs[i].type ≠ .other := fun e => by
          cases n with
          | zero => simp [flatT] at hff
          | succ n => simp [flatT, e] at hff
        have hcf := cellsOf_sz hT (hT.lt_of_td htn)
        rw [hcf] at he
        obtain ⟨x, hx⟩ := trod_rd hT n q _ _ _ hff he
        exact ⟨x, fun f hf' => by rw [hfi] at hf'; cases hf'; exact hx⟩
      exact ⟨_, .st ht hl hx1 fun i f x hf' hx => hx2 i x hx f hf'⟩
    · cases hf

/-- An argument of plain data, of whatever shape. -/
theorem arg_rd {P : Program} {tb : Tab} (hT : TabOk P tb) {H : Type} {enc : TypeId × Value → H} {w : World} {r : Reach} {base : Nat} {t : TypeId} {v : Value} {d : DataW H} {p : List MemPlace} (n : Nat) (hf : flatT tb n t = true)
    (hval : Value.okWide P w r base t v) (h : DataW.Trod enc P w 0 (fun _ => true) true t v d p) : ∃ x, DRel tb (Hw w) [] [] v (.t t (.e x)) := by
  obtain ⟨fuel, hh⟩ := h
  obtain ⟨x, hx⟩ := trod_rd hT n fuel t _ _ hf hh
  refine ⟨x, .t (cs := v.cells.toList) ?_ (.e hx)⟩
  unfold VC
  cases hn : n with
  | zero => subst hn; simp [flatT] at hf
  | succ m =>
    subst hn
    unfold flatT at hf
    split at hf
    · rename_i k ht
      simp only [Value.okWide, hT.int ht, Cell.okWide] at hval
      cases v <;> simp_all [Cell.ok, isAggT, Value.cells]
    · rename_i ht
      simp only [Value.okWide, hT.bool ht, Cell.okWide] at hval
      cases v <;> simp_all [Cell.ok, isAggT, Value.cells]
    · rename_i ht
      simp only [Value.okWide, hT.str ht, Cell.okWide] at hval
      cases v <;> simp_all [Cell.ok, isAggT, Value.cells]
    · rename_i u ht
      simp only [Value.okWide, hT.sl ht, Cell.okWide] at hval
      cases v <;> simp_all [Cell.ok, isAggT, Value.cells]
    · rename_i m u ht
      simp only [Value.okWide, hT.arr ht] at hval
      obtain ⟨cs, rfl, _⟩ := hval
      simp [isAggT, ht, Value.cells]
    · rename_i fs ht
      obtain ⟨gs, hg, hge⟩ := hT.st ht
      simp only [Value.okWide, hg] at hval
      obtain ⟨cs, rfl, _⟩ := hval
      simp [isAggT, ht, Value.cells]
    · cases hf
end Go.Den
/- Pointers and functions against nil. -/
namespace Go.Den
open Go
set_option linter.unusedSectionVars false
set_option linter.unusedSimpArgs false
set_option linter.unusedVariables false

/-- A pointer: none, or some place. -/
def ptrD : D → Option (Option (Nat × List Nat))
  | .t _ (.e .nilp) => some none
  | .ptr i p => some (some (i, p))
  | _ => none

theorem ptrD_rel {tb H β σ v d o} (hv : DRel tb H β σ v d) (h : ptrD d = some o) : match o with
    | none => v = .pointer none
    | some (i, p) => ∃ a, v = .pointer (some a) ∧ PtrAt tb β σ i p a := by
  unfold ptrD at h
  split at h
  · cases h
    cases hv with
    | t a b => cases b with
      | e r => cases r with
        | nilp c => have a' := a; simp [VC, isAggT, c] at a'; exact a'.symm
  · cases h
    cases hv with
    | ptr a => exact ⟨_, rfl, a⟩
  · cases h

theorem PtrAt.same {tb β σ i p a a'} (h : PtrAt tb β σ i p a) (k : PtrAt tb β σ i p a') : a = a' := by
  obtain ⟨b, off, ty, x, o, u, e1, e2, e3, e4⟩ := h
  obtain ⟨b', off', ty', x', o', u', f1, f2, f3, f4⟩ := k
  rw [e1] at f1; cases f1
  rw [e2] at f2; cases f2
  rw [e3] at f3; cases f3
  rw [e4, f4]

section
variable {C : Cx} (hC : Ok C) {o : Oper} {env : Env} {σ : List Blk}
include hC
theorem Ok_eqP {op : BinOp} {xt yt u : TypeId} {x y : Operand} {dx dy : D} {a b : Option (Nat × List Nat)} (ho : o.op = .binOp op xt x y yt) (hop : op = .eql ∨ op = .neq) (ht : td C.tb xt = .ptr u)
    (hx : opd C.tb env xt x = some dx) (hy : opd C.tb env xt y = some dy) (ha : ptrD dx = some a) (hb : ptrD dy = some b) (hs : (a = none ∨ b = none) ∨ (a = b ∧ td C.tb u ≠ .other)) :
    OpOk C o env σ ⟨True, .kb C.bt (if op = .eql then (a.isNone == b.isNone) else !(a.isNone == b.isNone)), σ⟩ :=
  OpOk_val fun H β ac w hr he => by
    have h1 := ptrD_rel (opd_rel he hx) ha
    have h2 := ptrD_rel (opd_rel he hy) hb
    have hund := hC.tab.ptr ht
    refine ⟨.bool (if op = .eql then (a.isNone == b.isNone) else !(a.isNone == b.isNone)), fun w' hw' => ?_, .kb hC.bt⟩
    have key : ∀ (pa pb : Option Addr) (r : Bool), ac.eval x = .pointer pa → ac.eval y = .pointer pb → (∀ d, (Op.equalIn (d + 1) xt (.pointer pa) (.pointer pb)).run C.P w' = .ok r w') → r = (a.isNone == b.isNone) →
        (execOp ac.eval o).run C.P w' = .ok (.value (.bool (if op = .eql then (a.isNone == b.isNone) else !(a.isNone == b.isNone)))) w' := by
      intro pa pb r e1 e2 hq hr
      have hgd : eqGuard op xt x y (.pointer pa) (.pointer pb) = pure () := by
        unfold eqGuard
        split <;> simp_all
      have hq' := hq 9999
      subst hr
      rcases hop with rfl | rfl
      · simp [execOp, ho, e1, e2, hgd, binOp, Op.equal, Op.maxDepth, hq']
      · simp [execOp, ho, e1, e2, hgd, binOp, Op.equal, Op.maxDepth, hq']
    cases a with
    | none =>
      cases b with
      | none => exact key _ _ true h1 h2 (fun d => by simp [Op.equalIn, run_underlying_of hC.tab hund]) rfl
      | some q => obtain ⟨ad, h2, _⟩ := h2; exact key _ _ false h1 h2 (fun d => by simp [Op.equalIn, run_underlying_of hC.tab hund]) rfl
    | some p =>
      obtain ⟨ad, h1, hp⟩ := h1
      cases b with
      | none => exact key _ _ false h1 h2 (fun d => by simp [Op.equalIn, run_underlying_of hC.tab hund]) rfl
      | some q =>
        obtain ⟨ad', h2, hq⟩ := h2
        have hs' : p = q ∧ td C.tb u ≠ .other := by
          rcases hs with hs | ⟨hs, hu⟩
          · simp at hs
          · exact ⟨by simpa using hs, hu⟩
        obtain ⟨rfl, hu⟩ := hs'
        have := hp.same hq
        subst this
        refine key _ _ true h1 h2 (fun d => ?_) rfl
        obtain ⟨i, hi, _⟩ := hC.tab.info (hC.tab.lt_of_td hu)
        simp [Op.equalIn, run_underlying_of hC.tab hund, sizeOf, typeInfo, hi, run_sameAddr_same]
end
end Go.Den
/- Texts of bytes. -/
namespace Go.Den
open Go
set_option linter.unusedSectionVars false
set_option linter.unusedSimpArgs false
set_option linter.unusedVariables false

def byteOf : E → UInt8
  | .int n => UInt8.ofNat n.toNat
  | _ => 0
theorem byteOf_byteE (b : UInt8) : byteOf (byteE b) = b := by simp [byteOf, byteE]
theorem map_byteOf (l : List UInt8) : (l.map byteE).map byteOf = l := by
  rw [List.map_map]; conv => rhs; rw [← List.map_id l]
  congr 1; funext b; exact byteOf_byteE b

theorem foldl_push (ns : List Int) : ∀ (l : List UInt8), ns.foldl (fun r n => r.push (UInt8.ofNat n.toNat)) (⟨⟨l⟩⟩ : ByteArray) = ⟨⟨l ++ ns.map fun n => UInt8.ofNat n.toNat⟩⟩ := by
  induction ns with
  | nil => intro l; simp
  | cons n ns ih =>
    intro l
    simp only [List.foldl_cons, List.map_cons]
    have : (⟨⟨l⟩⟩ : ByteArray).push (UInt8.ofNat n.toNat) = ⟨⟨l ++ [UInt8.ofNat n.toNat]⟩⟩ := by
      simp [ByteArray.push]
    rw [this, ih]; simp

theorem bytes_of {tb : Tab} {H : Gh} {u : TypeId} (hsz : sz tb u = 1) (hu : td tb u = .int .u8) {cs : List Value} {xs : List E} (g2 : RowC tb H u cs xs) : ∃ ns : List Int, cs = ns.map (Value.int .u8) ∧ xs = ns.map E.int := by
  have hcl := g2.len
  rw [hsz, Nat.mul_one] at hcl
  have each : ∀ (i : Nat) e, xs[i]? = some e → ∃ n, cs[i]? = some (.int .u8 n) ∧ e = .int n := fun i e hi => by
    have h := g2.el i e hi
    rw [hsz, Nat.mul_one] at h
    have hil := (List.getElem?_eq_some_iff.1 hi).1
    have hci : cs[i]? = some cs[i] := List.getElem?_eq_getElem (by omega)
    have hseg : seg cs i 1 = [cs[i]] := by
      apply List.ext_getElem?
      intro q
      rcases Nat.eq_zero_or_pos q with hq | hq
      · subst hq; rw [seg_get (by omega)]; simp [hci]
      · rw [List.getElem?_eq_none (by simp [seg]; omega), List.getElem?_eq_none (by simp; omega)]
    rw [hseg] at h
    generalize hg : [cs[i]] = l at h
    cases h with
    | int hk hw => rw [hu] at hk; cases hk; simp at hg; exact ⟨_, by rw [hci, hg], rfl⟩
    | _ => simp_all
  clear g2
  induction xs generalizing cs with
  | nil => have : cs = [] := List.length_eq_zero_iff.1 (by simpa using hcl); subst this; exact ⟨[], rfl, rfl⟩
  | cons e xs ih =>
    cases cs with
    | nil => simp at hcl
    | cons v cs =>
      obtain ⟨n, h1, h2⟩ := each 0 e rfl
      obtain ⟨ns, h3, h4⟩ := ih (by simpa using hcl) (fun i e hi => each (i + 1) e (by simpa using hi))
      simp at h1
      exact ⟨n :: ns, by simp [h1, h3], by simp [h2, h4]⟩
section
variable {C : Cx} (hC : Ok C) {o : Oper} {env : Env} {σ : List Blk}
include hC
theorem Ok_strOf {s d u : TypeId} {x : Operand} {dx : D} {xs : List E} (ho : o.op = .convert s d x) (hs : td C.tb s = .sl u) (hu : td C.tb u = .int .u8) (hd : td C.tb d = .str) (hx : opd C.tb env s x = some dx) (hsl : slE dx = some xs) (hsame : same C.tb (tagD dx) s = true) :
    OpOk C o env σ ⟨True, .t d (.e (.str (xs.map byteOf))), σ⟩ :=
  OpOk_val fun H β a w hr he => by
    have hrd := (slE_rel (opd_rel he hx) hsl).cast hC.tab (same_td hsame)
    obtain ⟨ad, c, cs, g1, g2, g3⟩ := hrd.cells_of hs
    obtain ⟨_, _, _, k1, _, k3, _⟩ := hrd.sl_inv
    have hsz : sz C.tb u = 1 := hC.tab.sz_one (by simp [isAggT, hu]) (by rw [hu]; simp)
    have hcl := g2.len
    rw [hsz, Nat.mul_one] at hcl
    refine ⟨sv (xs.map byteOf), fun w' hw' => ?_, .mkStr hd (by simp; unfold maxN at k3; unfold maxI; omega)⟩
    have hcv := run_convert_bytes_string (P := C.P) w' s d u ad xs.length c (hC.tab.sl hs) (hC.tab.int hu) (hC.tab.str hd)
    rcases Nat.eq_zero_or_pos xs.length with h0 | h0
    · have hxe : xs = [] := List.length_eq_zero_iff.1 h0
      subst hxe
      cases ad with
      | none => simp only [List.length_nil] at hcv g1; simp [execOp, ho, g1, hcv, Conv.bytesToString, sv]; rfl
      | some ad =>
        have := run_bytesToString (P := C.P) w' ad 0 c [] (by simp [loadCells, loadCellsFrom])
        simp only [List.length_nil] at hcv g1
        simp [execOp, ho, g1, hcv, this, sv]; rfl
    · obtain ⟨b, off, rfl, hp⟩ := g3 h0
      have hns := bytes_of hsz hu g2
      obtain ⟨ns, rfl, rfl⟩ := hns
      have hload : (loadCells ⟨b, off, none⟩ (ns.map E.int).length).run C.P w' = .ok (ns.map (Value.int .u8)).toArray w' := by
        have := run_loadCells_list (P := C.P) w' ⟨b, off, none⟩ (ns.map (Value.int .u8)) (fun j v hj => by rw [add_plain]; exact hw' _ _ _ (hr.pers _ _ _ (hp j v hj)) (.inl ⟨_, hp j v hj⟩))
        simpa using this
      have := run_bytesToString (P := C.P) w' ⟨b, off, none⟩ _ c ns hload
      rw [this] at hcv
      have hf := foldl_push ns []
      have hemp : (⟨⟨[]⟩⟩ : ByteArray) = ByteArray.empty := rfl
      rw [hemp] at hf
      rw [hf] at hcv
      rw [List.length_map] at hcv g1
      simp [execOp, ho, g1, hcv, sv, List.map_map]
      intro n _; rfl
end
end Go.Den
/- Slices of an own array. -/
namespace Go.Den
open Go
set_option linter.unusedSectionVars false
set_option linter.unusedSimpArgs false
set_option linter.unusedVariables false
section
variable {C : Cx} (hC : Ok C) {o : Oper} {env : Env} {σ : List Blk}
include hC
theorem Ok_sliceA {t u i n s : Nat} {p : List Nat} {ty : TypeId} {X : T} {lo hi : Option Operand} {l h : Int} (ho : o.op = .slice t (.tmp s) lo hi none) (hs : getD env s = .ptr i p) (hi' : σ[i]? = some (.tree ty X))
    (hta : td C.tb t = .arr n u) (hty : td C.tb (tyAt C.tb ty p) = .arr n u) (hz : sz C.tb u ≠ 0) (hn : n ≤ maxN)
    (hl : bnd env 0 lo = some l) (hh : bnd env n hi = some h) (h0 : 0 ≤ l) (h1 : l ≤ h) (h2 : h ≤ n) (hln : l < n) : OpOk C o env σ ⟨True, .asl i p u l.toNat (h.toNat - l.toNat), σ⟩ :=
  OpOk_val fun H β a w hr he => by
    have hv := he.get s
    rw [hs] at hv
    obtain ⟨ad, hv, hp⟩ := hv.ptr_inv
    have hpa := hp
    obtain ⟨b, off, ty', X', o', z, e1, e2, e3, e4⟩ := hp
    rw [hi'] at e2; cases e2
    subst e4
    rw [tyAt_of e3] at hty
    have hb := fun w : World => run_bounds (P := C.P) he (isSl := false) (len := n) (cap := n) (w := w) hl hh h0 h1 (by omega)
    have hve : a.eval (.tmp s) = .pointer (some ⟨b, off + o', none⟩) := hv
    refine ⟨.slice (some ⟨b, off + o' + l.toNat * sz C.tb u, none⟩) (h.toNat - l.toNat) (n - l.toNat), fun w' hw' => ?_, ?_⟩
    · have hne : ¬ (n = l.toNat) := by omega
      simp [execOp, ho, hve, Instr.sliceAt, Instr.sureAddr, run_underlying_of hC.tab (hC.tab.arr hta), hb, run_sizeOf_of hC.tab (lt_of_sz hC hz), hne, add_plain]
    · exact .asl (m := n) hpa (fun ty2 x2 hx => by rw [hi'] at hx; cases hx; exact ⟨_, _, e3, hty⟩) (by omega) (by omega) (by omega)
end
end Go.Den
/- Rows that are written: an append to one. -/
namespace Go.Den
open Go
set_option linter.unusedSectionVars false
set_option linter.unusedSimpArgs false
set_option linter.unusedVariables false

/-- What is appended, or copied. -/
def SrcOk (tb : Tab) (H : Gh) (w : World) (P : Program) (u : TypeId) (v : Value) (ys : List E) : Prop :=
  (Builtin.lenOf v).run P w = .ok ys.length w ∧ ∃ news, RowC tb H u news ys ∧
    ∀ n, n ≤ ys.length → ∀ w', (∀ b o v, w.cell? ⟨b, o, none⟩ = some v → w'.cell? ⟨b, o, none⟩ = some v) → (Builtin.firstCells (sz tb u) n v).run P w' = .ok (news.take (n * sz tb u)).toArray w'

section
variable {C : Cx} (hC : Ok C) {o : Oper} {env : Env} {σ : List Blk}
include hC

theorem appendM_core {t t2 ty u : TypeId} (ht : td C.tb t = .sl u) (hz : plain C.tb zf u = true) {H : Gh} {w : World} (hb : Base H w) {i : Nat} {v0 x : Value} {xs ys : List E}
    (hM : MRel C.tb H w i v0 u true xs) (h2 : t2 = t ∨ td C.tb t2 = .str) (hsrc : SrcOk C.tb H w C.P u x ys) (hbytes : (xs.length + ys.length) * nb C.tb u ≤ maxL) (hmax : xs.length + ys.length ≤ maxL) :
    ∃ v' w' H', (Builtin.append_ #[t, t2] ty #[v0, x]).run C.P w = .ok v' w' ∧ Base H' w' ∧ (∀ b o v, H b o = .pers v → H' b o = .pers v) ∧ MRel C.tb H' w' i v' u true (xs ++ ys) ∧
      (∀ b o j, H b o = .mine j → j ≠ i → H' b o = .mine j ∧ w'.cell? ⟨b, o, none⟩ = w.cell? ⟨b, o, none⟩ ∧ w'.frozen? ⟨b, o, none⟩ = w.frozen? ⟨b, o, none⟩ ∧ w'.shape? b = w.shape? b) ∧
      (∀ b x j, (∀ o, H b o = .mine j) → j ≠ i → x.isObj = true → w.heap[b]? = some x → w'.heap[b]? = some x) ∧ Stp H w H' w' ∧ (ys.length = 0 → v' = v0) := by
  obtain ⟨hlx, news, hnr, hnew⟩ := hsrc
  have hnews : ∀ w', (∀ b o v, w.cell? ⟨b, o, none⟩ = some v → w'.cell? ⟨b, o, none⟩ = some v) → (Builtin.firstCells (sz C.tb u) ys.length x).run C.P w' = .ok news.toArray w' := fun w' h => by
    have := hnew ys.length (Nat.le_refl _) w' h
    rwa [← hnr.len, List.take_length] at this
  have hlenl : (xs ++ ys).length = xs.length + ys.length := by simp
  have hsz := fun b q => setCells_os b news q w
  have hforall : ∃ a0 c0 olds, v0 = .slice a0 xs.length c0 ∧ RowC C.tb H u olds xs ∧ ((∃ a : Option (Nat × Nat), a0 = (a.map fun p => ⟨p.1, p.2, none⟩) ∧ c0 = 0 ∧ xs = [] ∧ (td C.tb u = .int .u8 → a = none)) ∨ ∃ b zs, a0 = some ⟨b, 0, none⟩ ∧ (xs.length ≤ c0 ∧ 0 < c0) ∧ xs.length ≤ maxN ∧ (olds ++ zs).length = c0 * sz C.tb u ∧
      (0 < c0 * sz C.tb u → w.shape? b = some (u, c0 * sz C.tb u)) ∧ (∀ (j : Nat) (v : Value), (olds ++ zs)[j]? = some v → w.cell? ⟨b, j, none⟩ = some v ∧ H b j = .mine i ∧ w.frozen? ⟨b, j, none⟩ = false)) := by
    rcases hM with ⟨a, rfl, rfl, h8⟩ | ⟨b, c, cs, zs, e1, e2, e3, e4, e5, e6, e7⟩
    · exact ⟨_, 0, [], rfl, ⟨by simp, fun i x hx => by simp at hx⟩, .inl ⟨a, rfl, rfl, rfl, h8⟩⟩
    · exact ⟨_, c, cs, e1, e4, .inr ⟨b, zs, rfl, e2, e3, e5, e6, e7⟩⟩
  obtain ⟨a0, c0, olds, hv0, hor, hb0⟩ := hforall
  have hrun := run_append_any hC (ty := ty) ht hz (ba := a0) (n := xs.length) (cap := c0) (m := ys.length) (x := x) (olds := olds) (news := news) (w := w) h2 hlx (fun _ _ => trivial) hnews hor.len
    (fun b off ha j v hj => by
      rcases hb0 with ⟨a, h1, h2, h3, _⟩ | ⟨b', zs, h1, _, _, _, _, h7⟩
      · have : olds = [] := List.length_eq_zero_iff.1 (by rw [hor.len, h3]; simp)
        rw [this] at hj; simp at hj
      · rw [h1] at ha; cases ha
        rw [Nat.zero_add]
        exact (h7 j v (by rw [List.getElem?_append_left (List.getElem?_eq_some_iff.1 hj).1]; exact hj)).1)
    (fun ha => by
      rcases hb0 with ⟨a, h1, h2, h3, _⟩ | ⟨b', zs, h1, _⟩
      · exact ⟨by simp [h3], h2⟩
      · rw [h1] at ha; cases ha)
    (fun a ha => by
      rcases hb0 with ⟨a', h1, _⟩ | ⟨b', zs, h1, _⟩
      · rw [h1] at ha; cases a' <;> simp at ha; rw [← ha]
      · rw [h1] at ha; cases ha; rfl)
    hnr.len (hnr.one hC.tab)
    (fun hr b off ha j hj => by
      rcases hb0 with ⟨a, h1, h2, h3, _⟩ | ⟨b', zs, h1, _, _, h5, _, h7⟩
      · have : ys.length = 0 := by omega
        rw [hnr.len, this] at hj; simp at hj
      · rw [h1] at ha; cases ha
        have hlt : xs.length * sz C.tb u + j < (olds ++ zs).length := by
          have : (xs.length + ys.length) * sz C.tb u ≤ c0 * sz C.tb u := Nat.mul_le_mul_right _ hr
          rw [Nat.add_mul, ← hnr.len] at this; omega
        obtain ⟨k1, k2, k3⟩ := h7 _ _ (List.getElem?_eq_getElem hlt)
        rw [Nat.zero_add]
        exact ⟨by rw [k1]; rfl, k3⟩)
    hbytes hmax
  rw [← hv0] at hrun
  have hall := hor.app hnr
  rcases hrun with ⟨hr, hrun⟩ | ⟨hr, nc, zs', h1, hzl, hrun⟩
  · -- in place
    rcases hb0 with ⟨a, rfl, rfl, rfl, h8⟩ | ⟨b, zs, rfl, k3, k4, k5, k6, k7⟩
    · have hy : ys = [] := List.length_eq_zero_iff.1 (by simpa using hr)
      subst hy
      have hnn : news = [] := List.length_eq_zero_iff.1 (by rw [hnr.len]; simp)
      have hip : inPlace w (a.map fun p => ⟨p.1, p.2, none⟩) (([] : List E).length * sz C.tb u) news = w := by subst hnn; cases a <;> rfl
      rw [hip] at hrun
      exact ⟨_, _, H, hrun, hb, fun _ _ _ h => h, .inl ⟨a, rfl, rfl, h8⟩, fun b o j h _ => ⟨h, rfl, rfl, rfl⟩, fun b x j _ _ _ h => h, .refl _ _, fun _ => hv0.symm⟩
    · have hol := hor.len
      have hnl := hnr.len
      have hfit : xs.length * sz C.tb u + news.length ≤ c0 * sz C.tb u := by
        have : (xs.length + ys.length) * sz C.tb u ≤ c0 * sz C.tb u := Nat.mul_le_mul_right _ hr
        rwa [Nat.add_mul, ← hnl] at this
      let q := xs.length * sz C.tb u
      have hcell : ∀ j (hj : j < (olds ++ zs).length), w.cell? ⟨b, j, none⟩ = some ((olds ++ zs)[j]'hj) ∧ H b j = .mine i ∧ w.frozen? ⟨b, j, none⟩ = false := fun j hj =>
        k7 j _ (List.getElem?_eq_getElem hj)
      have hin : ∀ o', q ≤ o' → o' < q + news.length → H b o' = .mine i := fun o' _ h => (hcell o' (by show o' < _; have : q = xs.length * sz C.tb u := rfl; omega)).2.1
      have hw' : inPlace w (some ⟨b, 0, none⟩) (xs.length * sz C.tb u) news = w.setCells b q news := by simp [inPlace, q]
      rw [hw'] at hrun
      have hout : ∀ b' o', H b' o' ≠ .mine i → (w.setCells b q news).cell? ⟨b', o', none⟩ = w.cell? ⟨b', o', none⟩ := fun b' o' hne => setCells_cell fun e => by
        subst e
        rcases Nat.lt_or_ge o' q with h | h
        · exact .inl h
        · rcases Nat.lt_or_ge o' (q + news.length) with h' | h'
          · exact absurd (hin o' h h') hne
          · exact .inr h'
      have hfz : ∀ a, (w.setCells b q news).frozen? a = w.frozen? a := fun a => World.frozen?_setCells b news q w a
      have hnz : news.length = 0 ∨ ∃ o', H b o' = .mine i := by
        rcases Nat.eq_zero_or_pos news.length with h | h
        · exact .inl h
        · exact .inr ⟨q, hin q (Nat.le_refl _) (by omega)⟩
      refine ⟨_, _, H, hrun, ⟨fun b' o' v h => (hout b' o' (by rw [h]; simp)).trans (hb.pers b' o' v h), fun b' o' h => by rw [(hsz b q).2.2.2]; exact hb.dom b' o' h⟩, fun _ _ _ h => h, ?_, ?_, ?_, ?_, fun h => by rw [hv0, h, Nat.add_zero]⟩
      · refine .inr ⟨b, c0, olds ++ news, zs.drop news.length, by rw [hlenl], ⟨by rw [hlenl]; exact hr, k3.2⟩, by rw [hlenl]; exact maxL_N hmax, hall, ?_, fun hz => (shape?_setCells b news q w b).trans (k6 hz), fun j v hj => ?_⟩
        · simp only [List.length_append, List.length_drop] at k5 ⊢; omega
        · have hjl := (List.getElem?_eq_some_iff.1 hj).1
          have hjl' : j < (olds ++ zs).length := by simp only [List.length_append, List.length_drop] at hjl k5 ⊢; omega
          obtain ⟨c1, c2, c3⟩ := hcell j hjl'
          refine ⟨?_, c2, (hfz _).trans c3⟩
          by_cases hj1 : j < q
          · rw [setCells_cell (fun _ => .inl hj1), c1]
            have : j < olds.length := by rw [hol]; exact hj1
            rw [List.append_assoc, List.getElem?_append_left this] at hj
            rw [List.getElem?_eq_getElem this] at hj; rw [← hj, List.getElem_append_left this]
          · by_cases hj2 : j < q + news.length
            · have := World.cell?_setCells_in b news q w (fun j hj => by
                rw [(hcell (q + j) (by have : q = xs.length * sz C.tb u := rfl; omega)).1]; rfl) (j - q) (by omega)
              rw [show q + (j - q) = j by omega] at this
              rw [this]
              have h1 : olds.length = q := hol
              rw [List.append_assoc, List.getElem?_append_right (by omega), List.getElem?_append_left (by omega), h1, List.getElem?_eq_getElem (by omega)] at hj
              exact hj
            · rw [setCells_cell (fun _ => .inr (by omega)), c1]
              have h1 : olds.length = q := hol
              rw [List.append_assoc, List.getElem?_append_right (by omega), List.getElem?_append_right (by omega), List.getElem?_drop] at hj
              have hzj : j - olds.length < zs.length := by simp at hjl'; omega
              rw [List.getElem_append_right (by omega)]
              rw [show news.length + (j - olds.length - news.length) = j - olds.length by omega, List.getElem?_eq_getElem hzj] at hj
              exact hj
      · intro b' o' j h hne
        exact ⟨h, hout b' o' (by rw [h]; simpa using hne), hfz _, shape?_setCells b news q w b'⟩
      · intro b' x0 j h hne _ hh
        rcases hnz with hz | ⟨o', ho'⟩
        · rw [List.length_eq_zero_iff.1 hz]; exact hh
        · have hbb : b' ≠ b := fun e => by subst e; rw [h] at ho'; cases ho'; exact hne rfl
          rw [setCells_heap b news q w b' hbb]; exact hh
      · refine ⟨(hsz b q).1, (hsz b q).2.1, (hsz b q).2.2.1, by rw [(hsz b q).2.2.2]; omega, fun _ _ _ _ => rfl, fun _ _ _ j h => ⟨j, h⟩, fun b' hb' hn => ?_, fun b' hb' o' hn => hout b' o' (hn i), fun b' hb' o' _ _ hn => hfz _, fun b' _ => shape?_setCells b news q w b'⟩
        rcases hnz with hz | ⟨o', ho'⟩
        · rw [List.length_eq_zero_iff.1 hz]; rfl
        · exact setCells_heap b news q w b' fun e => by subst e; exact hn o' i ho'
  · -- a new array
    let cs := olds ++ news ++ zs'
    let f : Nat → Own := fun o => if o < cs.length then .mine i else .none
    have hsd : Stp H w.drew (hAlloc H w.heap.size f) (w.drew.alloc (.cells cs.toArray u)) := Stp.alloc (w := w.drew) hb.dom (.cells cs.toArray u) f
    have hne : ∀ b o, H b o ≠ .none → b ≠ w.heap.size := fun b o h => by have := hb.dom b o h; omega
    have hpm : ∀ b o v, H b o = .pers v → hAlloc H w.heap.size f b o = .pers v := fun b o v h => by rw [hAlloc_old (hne b o (by rw [h]; simp))]; exact h
    have hcn : ∀ o, (w.drew.alloc (.cells cs.toArray u)).cell? ⟨w.heap.size, o, none⟩ = cs[o]? := fun o => by
      have := World.cell?_alloc_new w.drew cs.toArray u o
      simpa using this
    have hco : ∀ b o, b ≠ w.heap.size → (w.drew.alloc (.cells cs.toArray u)).cell? ⟨b, o, none⟩ = w.cell? ⟨b, o, none⟩ := fun b o h => World.cell?_alloc_old w.drew _ _ h
    have hfo : ∀ b o, b ≠ w.heap.size → (w.drew.alloc (.cells cs.toArray u)).frozen? ⟨b, o, none⟩ = w.frozen? ⟨b, o, none⟩ := fun b o h => World.frozen?_alloc_old w.drew _ _ h
    have hal := hall.len
    rw [hlenl] at hal
    have hcl : cs.length = nc * sz C.tb u := by
      show (olds ++ news ++ zs').length = _
      rw [List.length_append, hal, hzl, ← Nat.add_mul]; congr 1; omega
    have hynz : ys.length ≠ 0 := fun h => by
      rcases hb0 with ⟨_, _, _, h3, _⟩ | ⟨_, _, _, h3, _⟩
      · rw [h3, h] at hr; simp at hr
      · omega
    refine ⟨_, _, hAlloc H w.heap.size f, hrun, ⟨fun b o v h => ?_, fun b o h => ?_⟩, hpm, ?_, ?_, ?_, (Stp.drew H w).trans hsd, fun h => absurd h hynz⟩
    · by_cases hbs : b = w.heap.size
      · subst hbs
        rw [hAlloc_new] at h
        have h' : (if o < cs.length then Own.mine i else .none) = .pers v := h
        split at h' <;> cases h'
      · rw [hAlloc_old hbs] at h
        exact (hco b o hbs).trans (hb.pers b o v h)
    · by_cases hbs : b = w.heap.size
      · subst hbs; simp
      · rw [hAlloc_old hbs] at h; have := hb.dom b o h; simp; omega
    · refine .inr ⟨w.heap.size, nc, olds ++ news, zs', by rw [hlenl], ⟨by rw [hlenl]; exact h1, by omega⟩, by rw [hlenl]; exact maxL_N hmax, ⟨hall.len, fun j x hx => (hall.el j x hx).mono hpm⟩, hcl, fun _ => ?_, fun j v hj => ?_⟩
      · have := shape?_alloc_new w.drew cs.toArray u
        rw [show (w.drew.alloc (.cells cs.toArray u)) = (w.drew.alloc (.cells (olds ++ news ++ zs').toArray u)) from rfl] at this
        rw [show w.drew.heap.size = w.heap.size from rfl] at this
        rw [this]; simp only [List.size_toArray]; rw [hcl]
      · have hjc : j < cs.length := (List.getElem?_eq_some_iff.1 hj).1
        refine ⟨(hcn j).trans hj, ?_, World.frozen?_alloc_new w.drew _ _ _⟩
        rw [hAlloc_new]; exact if_pos hjc
    · intro b o j h hne'
      have hbs := hne b o (by rw [h]; simp)
      exact ⟨by rw [hAlloc_old hbs]; exact h, hco b o hbs, hfo b o hbs, shape?_alloc_old w.drew _ (by have := hb.dom b o (by rw [h]; simp); exact this)⟩
    · intro b x0 j h hne' _ hh
      have hlt := hb.dom b 0 (by rw [h 0]; simp)
      have := heap_alloc_old w.drew (.cells cs.toArray u) b hlt
      exact this.trans hh
end
end Go.Den
