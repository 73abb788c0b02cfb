/- A machine that runs a function's code over what is known, as far as it tells. -/
import Derived.Test.YtgdfegmdjdnbdaaDenCall3
namespace Go.Den
open Go
set_option linter.unusedSectionVars false
set_option linter.unusedSimpArgs false
set_option linter.unusedVariables false

/-- What is still to be done. -/
inductive It where
  | c (code : Code)
  | r (full l : List Oper)
  | o (full : List Oper) (ts : List Nat) (ord : List (Nat × Bool))
  | b (id : Nat)

def VX (C : Cx) (Q : Post) : List It → X → Env → List Blk → Prop
  | [], x, e, s => Q x e s
  | .c code :: k, .nrm, e, s => V C code e s (fun x e s => VX C Q k x e s)
  | .r full l :: k, .nrm, e, s => VL C full.toArray l e s (fun x e s => VX C Q k x e s)
  | .o full ts ord :: k, .nrm, e, s => VO C full ts ord e s (fun x e s => VX C Q k x e s)
  | .b id :: k, .ext j, e, s => match Nat.beq j id with
    | true => VX C Q k .nrm e s
    | false => VX C Q k (.ext j) e s
  | _ :: k, x, e, s => VX C Q k x e s

/-- What a function that is handed data, and hands back data, answers. -/
structure Kon where
  pts : List TypeId
  rts : List TypeId
  f : List E → Option (Prop × List E)
structure Kit where
  bk : List Nat
  dx : Cx → Env → List Blk → Oper → Option DR
  fs : List (FuncId × Kon)
def kok (P : Program) (tb : Tab) : List (FuncId × Kon) → Prop
  | [] => True
  | (f, k) :: r => (∀ args p rs, k.f args = some (p, rs) → p → FnOk P tb f k.pts k.rts args rs) ∧ kok P tb r
def kget : List (FuncId × Kon) → FuncId → Option Kon
  | [], _ => none
  | (g, k) :: r, f => match Nat.beq g f with
    | true => some k
    | false => kget r f
structure KitOk (P : Program) (tb : Tab) (K : Kit) : Prop where
  dx : ∀ (C : Cx), C.P = P → C.tb = tb → Ok C → ∀ env σ o r, K.dx C env σ o = some r → r.p → OpOk C o env σ r
  fs : kok P tb K.fs
theorem kget_ok {P : Program} {tb : Tab} : ∀ {l : List (FuncId × Kon)} {f : FuncId} {k : Kon}, kok P tb l → kget l f = some k → ∀ args p rs, k.f args = some (p, rs) → p → FnOk P tb f k.pts k.rts args rs
  | [], _, _, _, h => by cases h
  | (g, k) :: r, f, k', hk, h => by
    simp only [kget] at h
    split at h
    · rename_i hb; cases h; have := Nat.eq_of_beq_eq_true hb; subst this; exact hk.1
    · exact kget_ok hk.2 h

def trivB (C : Cx) (op : BinOp) (xt : TypeId) : Bool := match op with
  | .eql | .neq | .lss | .leq | .gtr | .geq | .sub | .mul | .and | .or | .xor | .andNot => true
  | .add => match td C.tb xt with
    | .int _ => true
    | _ => false
  | _ => false
/-- What an operation does; whether its terms are plain. -/
def triv (C : Cx) (o : Oper) : Bool := match o.op with
  | .move _ | .assign _ | .pick _ _ _ | .extract _ _ | .alloc _ | .box _ _ | .build _ _ | .buildSlice _ _ _ | .load _ _ | .store _ _ _ | .nilCheck _ | .convert _ _ _ | .unOp _ _ _ | .fieldAddr _ _ _ | .field _ _ _ => true
  | .call { callee := .builtin .len, args := _, argTypes := _ } => true
  | .binOp op xt _ _ _ => trivB C op xt
  | _ => false
structure OS where
  ps : List Prop
  d : D
  s : List Blk
def allP : List Prop → Prop
  | [] => True
  | p :: r => match r with
    | [] => p
    | q :: r' => p ∧ allP (q :: r')
theorem allP_cons {p : Prop} {r : List Prop} (h : allP (p :: r)) : p ∧ allP r := by
  cases r with
  | nil => exact ⟨h, trivial⟩
  | cons q r => exact h
def callOf : Op → Option (FuncId × List Operand)
  | .call { callee := .value (.func f), args := ⟨xs⟩, argTypes := _ } => some (f, xs)
  | _ => none
def stops : List Nat → Option Tmp → Bool
  | [], _ => false
  | _ :: _, none => false
  | i :: r, some t => match Nat.beq i t with
    | true => true
    | false => stops r (some t)
def opS (K : Kit) (C : Cx) (env : Env) (σ : List Blk) (o : Oper) (ps : List Prop) : Option OS :=
  match stops K.bk o.dst with
  | true => none
  | false => match callOf o.op with
    | some (f, xs) => match kget K.fs f with
      | some k => match argsE C.tb env k.pts xs with
        | some args => match k.f args with
          | some (p, rs) => some ⟨p :: ps, retD k.rts rs, σ⟩
          | none => none
        | none => none
      | none => none
    | none => match dop C env σ o with
      | some ⟨p, d, s⟩ => match triv C o with
        | true => some ⟨ps, d, s⟩
        | false => some ⟨p :: ps, d, s⟩
      | none => match K.dx C env σ o with
        | some ⟨p, d, s⟩ => some ⟨p :: ps, d, s⟩
        | none => none

theorem triv_bin {C : Cx} {env σ rt op xt x y yt p d s} (h : dBin C env σ rt op xt x y yt = some ⟨p, d, s⟩)
    (ht : trivB C op xt = true) : p := by
  unfold trivB at ht
  unfold dBin at h
  cases op <;> simp only [] at ht <;> try (cases ht)
  all_goals (repeat' split at h)
  all_goals first
    | (cases h; done)
    | (cases h; first | trivial | (simp [arithP]; done) | (exfalso; simp_all; done) | simp_all)
theorem triv_p {C : Cx} {env σ o p d s} (h : dop C env σ o = some ⟨p, d, s⟩) (ht : triv C o = true) : p := by
  unfold triv at ht
  unfold dop at h
  split at h <;> rename_i ho <;> simp only [ho] at ht <;> try (cases ht)
  case h_8 => 
    unfold dLoad at h
    repeat' split at h
    all_goals first | (cases h; trivial) | cases h
  case h_9 =>
    unfold dStore at h
    repeat' split at h
    all_goals first | (rw [setK_eq] at h; cases h; trivial) | cases h
  case h_11 => exact triv_bin h ht
  case h_12 =>
    unfold dUn at h
    repeat' split at h
    all_goals first | (cases h; trivial) | cases h
  case h_15 =>
    unfold dFieldAddr at h
    repeat' split at h
    all_goals first | (cases h; trivial) | (simp only [litK_eq, appK_eq, pathK] at h; cases h; trivial) | cases h
  case h_16 =>
    unfold dField at h
    repeat' split at h
    all_goals first | (cases h; trivial) | cases h
  case h_20 =>
    unfold dLen at h
    repeat' split at h
    all_goals first | (cases h; trivial) | cases h
  all_goals (repeat' split at h)
  all_goals first | (cases h; trivial) | (rw [litK_eq, appK_eq] at h; cases h; trivial) | cases h

def isCall (o : Oper) : Bool := match callOf o.op with
  | some _ => true
  | none => false
theorem callOf_some {op : Op} {f : FuncId} {xs : List Operand} (h : callOf op = some (f, xs)) : ∃ tys, op = .call { callee := .value (.func f), args := ⟨xs⟩, argTypes := tys } := by
  unfold callOf at h
  split at h
  · cases h; exact ⟨_, rfl⟩
  · cases h
theorem isVal_call {o : Oper} (h : isVal o.op = true) : isCall o = false := by
  unfold isCall
  cases hc : callOf o.op with
  | none => rfl
  | some p =>
    obtain ⟨f, xs⟩ := p
    obtain ⟨tys, ho⟩ := callOf_some hc
    rw [ho] at h; simp [isVal] at h

theorem OpF_callE {C : Cx} (hC : Ok C) {o : Oper} {env : Env} {σ : List Blk} {ts : List Nat} {f : FuncId} {xs : Array Operand} {tys : Array TypeId} {pts rts : List TypeId} {args rs : List E} (ho : o.op = .call { callee := .value (.func f), args := xs, argTypes := tys })
    (hx : argsE C.tb env pts xs.toList = some args) (h : FnOk C.P C.tb f pts rts args rs) : OpF C o env σ ts (fun d s => d = retD rts rs ∧ s = σ) := by
  intro H β a w hr he hd K Qx hK
  obtain ⟨⟨fn, hf, hn, hb⟩, hal, hcall⟩ := h
  obtain ⟨l1, l2, l3⟩ := argsE_rel hC he hx
  have hrun : (execOp a.eval o).run C.P w = .ok (.enter f (xs.map a.eval)) w := by
    simp [execOp, ho, resolve, Act.eval, Deferred.ofValue, invoke, run_callFunc hf hn hb]
  simp only [Oper.wp, hrun, Oper.upon]
  have hargs : ArgsAt C.tb (strip H) [] [] (xs.map a.eval) (typed pts args) := by
    refine ⟨by rw [typed_length l1]; simpa using l2, fun i v d hv hd => ?_⟩
    simp only [Array.getElem?_map, Option.map_eq_some_iff] at hv
    obtain ⟨x, hx, rfl⟩ := hv
    exact l3 i x d (by simpa using hx) hd
  refine (hcall (strip H) w _ ⟨fun b o v e => hr.pers b o v (strip_pers.1 e), fun b o e => hr.dom b o fun h0 => e (by simp [strip, h0])⟩ (fun _ _ _ => strip_mine) hargs).mono ?_
  rintro e w' ⟨v, H', rfl, hb', hv', hs⟩
  obtain ⟨k1, k2, k3, k4⟩ := hr.after hb' hs
  refine hK v _ w' _ β σ ⟨rfl, rfl⟩ k1 (hv'.lift0 β σ k4) k2 k3 fun b o' u hu hst => ?_
  have hlt : b < w.heap.size := by
    rcases hst with ⟨x, hx⟩ | ⟨i, _, hi⟩
    · exact hr.dom b o' (by rw [hx]; simp)
    · exact hr.dom b o' (by rw [hi]; simp)
  refine ⟨(hs.cell b hlt o' fun _ => strip_mine).trans hu, ?_⟩
  simp only [merge, hlt, if_true]; exact hst

theorem opS_ok {K : Kit} {C : Cx} (hK : KitOk C.P C.tb K) (hC : Ok C) {env : Env} {σ : List Blk} {o : Oper} {ps : List Prop} {r : OS} (h : opS K C env σ o ps = some r) (hp : allP r.ps) :
    allP ps ∧ (isCall o = false → OpOk C o env σ ⟨True, r.d, r.s⟩) ∧ (isCall o = true → ∀ ts, OpF C o env σ ts (fun d s => d = r.d ∧ s = r.s)) := by
  unfold opS at h
  split at h
  · cases h
  split at h
  · rename_i f xs hc
    obtain ⟨tys, ho⟩ := callOf_some hc
    split at h
    · rename_i k hk
      split at h
      · rename_i args hx
        split at h
        · rename_i p rs hrs
          cases h
          obtain ⟨h1, h2⟩ := allP_cons hp
          exact ⟨h2, fun hn => by simp [isCall, hc] at hn, fun _ ts => OpF_callE hC ho hx (kget_ok hK.fs hk args p rs hrs h1)⟩
        · cases h
      · cases h
    · cases h
  · rename_i hc
    have hnc : isCall o ≠ true := by simp [isCall, hc]
    split at h
    · rename_i p d s hd
      split at h
      · rename_i ht; cases h; have := dop_ok hC hd (triv_p hd ht); exact ⟨hp, fun _ => ⟨this.v, this.val⟩, fun h => absurd h hnc⟩
      · cases h
        obtain ⟨h1, h2⟩ := allP_cons hp
        have := dop_ok hC hd h1; exact ⟨h2, fun _ => ⟨this.v, this.val⟩, fun h => absurd h hnc⟩
    · split at h
      · rename_i p d s hd
        cases h
        obtain ⟨h1, h2⟩ := allP_cons hp
        have := hK.dx C rfl rfl hC _ _ _ _ hd h1; exact ⟨h2, fun _ => ⟨this.v, this.val⟩, fun h => absurd h hnc⟩
      · cases h
theorem opS_v {K : Kit} {C : Cx} (hK : KitOk C.P C.tb K) (hC : Ok C) {env : Env} {σ : List Blk} {o : Oper} {ps : List Prop} {r : OS} (h : opS K C env σ o ps = some r) (hp : allP r.ps) :
    allP ps ∧ OpV C o env σ (fun d s => d = r.d ∧ s = r.s) := by
  obtain ⟨h1, h2, h3⟩ := opS_ok hK hC h hp
  refine ⟨h1, ?_⟩
  cases hc : isCall o with
  | true => exact (h3 hc []).v
  | false => exact (h2 hc).v

structure Out where
  ps : List Prop
  k : List It
  x : X
  e : Env
  s : List Blk

def unw (id : Nat) : List It → Option (List It)
  | [] => none
  | .b j :: k => match Nat.beq id j with
    | true => some k
    | false => unw id k
  | _ :: k => unw id k

def tyK {α : Type _} (o : Oper) (k : TypeId → α) : α := match o with
  | ⟨_, _, ty, _, _, _⟩ => k ty
theorem tyK_eq {α : Type _} (o : Oper) (k : TypeId → α) : tyK o k = k o.type := by cases o; rfl
/-- A datum put into a temporary, written out. -/
def putK {α : Type _} (t : Nat) (d : D) (type : TypeId) (e : Env) (k : Env → α) : α := match d with
  | .t ty x => match Nat.beq ty type with
    | true => match x with
      | .e y => k ((t, .t type (.e y)) :: e)
      | .st xs => k ((t, .t type (.st xs)) :: e)
      | .nsl => k ((t, .t type .nsl) :: e)
      | .bsl xs => k ((t, .t type (.bsl xs)) :: e)
      | .lsl i xs => k ((t, .t type (.lsl i xs)) :: e)
      | .ptr i p => k ((t, .t type (.ptr i p)) :: e)
      | .fn f c => k ((t, .t type (.fn f c)) :: e)
      | .msl i n => k ((t, .t type (.msl i n)) :: e)
    | false => match x with
      | .e y => k ((t, .t ty (.e y)) :: e)
      | .st xs => k ((t, .t ty (.st xs)) :: e)
      | .nsl => k ((t, .t ty .nsl) :: e)
      | .bsl xs => k ((t, .t ty (.bsl xs)) :: e)
      | .lsl i xs => k ((t, .t ty (.lsl i xs)) :: e)
      | .ptr i p => k ((t, .t ty (.ptr i p)) :: e)
      | .fn f c => k ((t, .t ty (.fn f c)) :: e)
      | .msl i n => k ((t, .t ty (.msl i n)) :: e)
  | .kb ty b => match b with
    | true => k ((t, .kb ty true) :: e)
    | false => k ((t, .kb ty false) :: e)
  | .ptr i p => k ((t, .ptr i p) :: e)
  | .el u xs j p => k ((t, .el u xs j p) :: e)
  | .asl i p u o n => k ((t, .asl i p u o n) :: e)
  | .tup xs => k ((t, .tup xs) :: e)
  | .it i => k ((t, .it i) :: e)
  | .mel u i n j p => k ((t, .mel u i n j p) :: e)
  | .any => k ((t, .any) :: e)
theorem putK_eq {α : Type _} (t : Nat) (d : D) (type : TypeId) (e : Env) (k : Env → α) : putK t d type e k = k ((t, d) :: e) := by
  unfold putK
  split
  · split
    · rename_i hb; have := Nat.eq_of_beq_eq_true hb; subst this; split <;> rfl
    · split <;> rfl
  · split <;> rfl
  all_goals rfl

/-- Whether an operation may come up in a drawing region, taken first or alone. -/
def mayO (e : Env) (ts : List Nat) (o : Oper) (b : Bool) : Bool := match isVal o.op with
  | true => (rsOf e o.op).all fun j => !ts.contains j
  | false => isCall o && !b

def run (K : Kit) (C : Cx) : Nat → List Prop → List It → Env → List Blk → Out
  | 0, ps, k, e, s => ⟨ps, k, .nrm, e, s⟩
  | n + 1, ps, k, e, s => match k with
    | [] => ⟨ps, [], .nrm, e, s⟩
    | .b id :: k => run K C n ps k e s
    | .r full l :: k => match l with
      | [] => run K C n ps k e s
      | o :: l => match wants full e o with
        | some true => match opS K C e s o ps with
          | some ⟨ps', d, s'⟩ => match o.dst with
            | some t => match Nat.blt t C.n with
              | true => tyK o fun ty => putK t d ty e fun e' => run K C n ps' (.r full l :: k) e' s'
              | false => ⟨ps, .r full (o :: l) :: k, .nrm, e, s⟩
            | none => run K C n ps' (.r full l :: k) e s'
          | none => ⟨ps, .r full (o :: l) :: k, .nrm, e, s⟩
        | some false => match o.dst with
          | some t => match Nat.blt t C.n with
            | true => run K C n ps (.r full l :: k) ((t, .tup []) :: e) s
            | false => ⟨ps, .r full (o :: l) :: k, .nrm, e, s⟩
          | none => run K C n ps (.r full l :: k) e s
        | none => ⟨ps, .r full (o :: l) :: k, .nrm, e, s⟩
    | .o full ts ord :: k => match ord with
      | [] => run K C n ps k e s
      | (i, b) :: ord => match full[i]? with
        | some o => match wants full e o with
          | some true => match mayO e ts o b with
            | true => match opS K C e s o ps with
              | some ⟨ps', d, s'⟩ => match o.dst with
                | some t => match Nat.blt t C.n with
                  | true => tyK o fun ty => putK t d ty e fun e' => run K C n ps' (.o full ts ord :: k) e' s'
                  | false => ⟨ps, .o full ts ((i, b) :: ord) :: k, .nrm, e, s⟩
                | none => run K C n ps' (.o full ts ord :: k) e s'
              | none => ⟨ps, .o full ts ((i, b) :: ord) :: k, .nrm, e, s⟩
            | false => ⟨ps, .o full ts ((i, b) :: ord) :: k, .nrm, e, s⟩
          | some false => match o.dst with
            | some t => match Nat.blt t C.n with
              | true => run K C n ps (.o full ts ord :: k) ((t, .tup []) :: e) s
              | false => ⟨ps, .o full ts ((i, b) :: ord) :: k, .nrm, e, s⟩
            | none => run K C n ps (.o full ts ord :: k) e s
          | none => ⟨ps, .o full ts ((i, b) :: ord) :: k, .nrm, e, s⟩
        | none => ⟨ps, .o full ts ((i, b) :: ord) :: k, .nrm, e, s⟩
    | .c c :: k => match c with
      | .skip => run K C n ps k e s
      | .seq a b => run K C n ps (.c a :: .c b :: k) e s
      | .region id ⟨l⟩ false => run K C n ps (.r l l :: k) e s
      | .block id c => run K C n ps (.c c :: .b id :: k) e s
      | .cond (.tmp t) a b => match getD e t with
        | .kb _ true => run K C n ps (.c a :: k) e s
        | .kb _ false => run K C n ps (.c b :: k) e s
        | _ => ⟨ps, .c c :: k, .nrm, e, s⟩
      | .ret => ⟨ps, [], .ret, e, s⟩
      | .exit id => match unw id k with
        | some k' => run K C n ps k' e s
        | none => ⟨ps, [], .ext id, e, s⟩
      | c => ⟨ps, .c c :: k, .nrm, e, s⟩

section
variable {C : Cx} {env : Env} {σ : List Blk} {Q : Post}

theorem VX_ret : ∀ {k : List It} {e s}, Q .ret e s → VX C Q k .ret e s
  | [], _, _, h => h
  | .c _ :: k, _, _, h => VX_ret (k := k) h
  | .r _ _ :: k, _, _, h => VX_ret (k := k) h
  | .o _ _ _ :: k, _, _, h => VX_ret (k := k) h
  | .b _ :: k, _, _, h => VX_ret (k := k) h
theorem VX_unw {id : Nat} : ∀ {k k' : List It} {e s}, unw id k = some k' → VX C Q k' .nrm e s → VX C Q k (.ext id) e s
  | [], _, _, _, h, _ => by cases h
  | .b j :: k, k', e, s, h, hv => by
    simp only [unw] at h
    simp only [VX]
    cases hb : Nat.beq id j with
    | true => rw [hb] at h; cases h; exact hv
    | false => rw [hb] at h; exact VX_unw h hv
  | .c _ :: k, k', e, s, h, hv => VX_unw (k := k) (by simpa only [unw] using h) hv
  | .r _ _ :: k, k', e, s, h, hv => VX_unw (k := k) (by simpa only [unw] using h) hv
  | .o _ _ _ :: k, k', e, s, h, hv => VX_unw (k := k) (by simpa only [unw] using h) hv
theorem VX_unw0 {id : Nat} : ∀ {k : List It} {e s}, unw id k = none → Q (.ext id) e s → VX C Q k (.ext id) e s
  | [], _, _, _, hv => hv
  | .b j :: k, e, s, h, hv => by
    simp only [unw] at h
    simp only [VX]
    cases hb : Nat.beq id j with
    | true => rw [hb] at h; cases h
    | false => rw [hb] at h; exact VX_unw0 h hv
  | .c _ :: k, e, s, h, hv => VX_unw0 (k := k) (by simpa only [unw] using h) hv
  | .r _ _ :: k, e, s, h, hv => VX_unw0 (k := k) (by simpa only [unw] using h) hv
  | .o _ _ _ :: k, e, s, h, hv => VX_unw0 (k := k) (by simpa only [unw] using h) hv

theorem wants_false_put {l : List Oper} {o : Oper} {rest : List Oper} (hw : wants l env o = some false) (hn : dstOk C.n o.dst = true)
    (h : VL C l.toArray rest (putD env o.dst (.tup [])) σ Q) : VL C l.toArray (o :: rest) env σ Q := by
  intro H β a w hr he hd
  unfold wpList
  rw [wants_rel he hw]
  have hd' : (a.put o.dst undef).defers = [] := by cases o.dst <;> exact hd
  exact h H β (a.put o.dst undef) w hr (he.put .undef hn) hd'

theorem VL_wants {l : List Oper} {o : Oper} {rest : List Oper} {R : D → List Blk → Prop} (hw : wants l env o = some true) (hn : dstOk C.n o.dst = true)
    (h : OpV C o env σ R) (k : ∀ d σ', R d σ' → VL C l.toArray rest (putD env o.dst d) σ' Q) : VL C l.toArray (o :: rest) env σ Q :=
  VL_cons_wanted hn (fun H β a he => wants_rel he hw) h k

theorem VO_step {l : List Oper} {i : Nat} {b : Bool} {o : Oper} {ts : List Nat} {rest : List (Nat × Bool)} {r : OS} (hi : l[i]? = some o) (hw : wants l env o = some true) (hn : dstOk C.n o.dst = true) (hm : mayO env ts o b = true)
    (h2 : isCall o = false → OpOk C o env σ ⟨True, r.d, r.s⟩) (h3 : isCall o = true → ∀ ts, OpF C o env σ ts (fun d s => d = r.d ∧ s = r.s)) (hk : VO C l ts rest (putD env o.dst r.d) r.s Q) : VO C l ts ((i, b) :: rest) env σ Q := by
  unfold mayO at hm
  split at hm
  · rename_i hval
    have hrs' : ∀ j ∈ rsOf env o.op, j ∉ ts := fun j hj hc => by
      have := List.all_eq_true.1 hm j hj
      simp [hc] at this
    exact VO_take hi hw hn (h2 (isVal_call hval)) hval hrs' hk b
  · simp only [Bool.and_eq_true] at hm
    have hb : b = false := by simpa using hm.2
    subst hb
    exact VO_one hi hw hn (h3 hm.1 ts) fun d1 s1 ⟨a1, a2⟩ => by subst a1; subst a2; exact hk

theorem run_ok {K : Kit} (hK : KitOk C.P C.tb K) (hC : Ok C) : ∀ (n : Nat) (ps : List Prop) (k : List It) (e : Env) (s : List Blk) (r : Out), run K C n ps k e s = r →
    allP r.ps → VX C Q r.k r.x r.e r.s → allP ps ∧ VX C Q k .nrm e s := by
  intro n
  induction n with
  | zero => intro ps k e s r hr hp hv; subst hr; exact ⟨hp, hv⟩
  | succ n ih =>
    intro ps k e s r hr hp hv
    unfold run at hr
    split at hr
    · subst hr; exact ⟨hp, hv⟩
    · rename_i id k; exact ih ps k e s r hr hp hv
    · rename_i full l k
      split at hr
      · obtain ⟨h1, h2⟩ := ih _ _ _ _ _ hr hp hv; exact ⟨h1, VL_nil h2⟩
      · rename_i o l
        split at hr
        · rename_i hw
          split at hr
          · rename_i ps' d s' hop
            split at hr
            · rename_i t ht
              split at hr
              · rename_i hlt
                rw [tyK_eq, putK_eq] at hr
                obtain ⟨h1, h2⟩ := ih _ _ _ _ _ hr hp hv
                obtain ⟨h3, h4⟩ := opS_v hK hC hop h1
                refine ⟨h3, VL_wants hw (by simp [dstOk, ht, hlt]) h4 fun d1 s1 ⟨a1, a2⟩ => ?_⟩
                subst a1; subst a2; rw [ht]; exact h2
              · subst hr; exact ⟨hp, hv⟩
            · rename_i ht
              obtain ⟨h1, h2⟩ := ih _ _ _ _ _ hr hp hv
              obtain ⟨h3, h4⟩ := opS_v hK hC hop h1
              refine ⟨h3, VL_wants hw (by simp [dstOk, ht]) h4 fun d1 s1 ⟨a1, a2⟩ => ?_⟩
              subst a1; subst a2; rw [ht]; exact h2
          · subst hr; exact ⟨hp, hv⟩
        · rename_i hw
          split at hr
          · rename_i t ht
            split at hr
            · rename_i hlt
              obtain ⟨h1, h2⟩ := ih _ _ _ _ _ hr hp hv
              exact ⟨h1, wants_false_put hw (by simp [dstOk, ht, hlt]) (by rw [ht]; exact h2)⟩
            · subst hr; exact ⟨hp, hv⟩
          · rename_i ht
            obtain ⟨h1, h2⟩ := ih _ _ _ _ _ hr hp hv
            exact ⟨h1, wants_false_put hw (by simp [dstOk, ht]) (by rw [ht]; exact h2)⟩
        · subst hr; exact ⟨hp, hv⟩
    · rename_i full ts ord k
      split at hr
      · obtain ⟨h1, h2⟩ := ih _ _ _ _ _ hr hp hv; exact ⟨h1, VO_nil h2⟩
      · rename_i i b ord
        split at hr
        · rename_i o hi
          split at hr
          · rename_i hw
            split at hr
            · rename_i hm
              split at hr
              · rename_i ps' d s' hop
                split at hr
                · rename_i t ht
                  split at hr
                  · rename_i hlt
                    rw [tyK_eq, putK_eq] at hr
                    obtain ⟨h1, h2⟩ := ih _ _ _ _ _ hr hp hv
                    obtain ⟨h3, h4, h5⟩ := opS_ok hK hC hop h1
                    exact ⟨h3, VO_step hi hw (by simp [dstOk, ht, hlt]) hm h4 h5 (by rw [ht]; exact h2)⟩
                  · subst hr; exact ⟨hp, hv⟩
                · rename_i ht
                  obtain ⟨h1, h2⟩ := ih _ _ _ _ _ hr hp hv
                  obtain ⟨h3, h4, h5⟩ := opS_ok hK hC hop h1
                  exact ⟨h3, VO_step hi hw (by simp [dstOk, ht]) hm h4 h5 (by rw [ht]; exact h2)⟩
              · subst hr; exact ⟨hp, hv⟩
            · subst hr; exact ⟨hp, hv⟩
          · rename_i hw
            split at hr
            · rename_i t ht
              split at hr
              · rename_i hlt
                obtain ⟨h1, h2⟩ := ih _ _ _ _ _ hr hp hv
                exact ⟨h1, VO_skip hi hw (by simp [dstOk, ht, hlt]) (by rw [ht]; exact h2) b⟩
              · subst hr; exact ⟨hp, hv⟩
            · rename_i ht
              obtain ⟨h1, h2⟩ := ih _ _ _ _ _ hr hp hv
              exact ⟨h1, VO_skip hi hw (by simp [dstOk, ht]) (by rw [ht]; exact h2) b⟩
          · subst hr; exact ⟨hp, hv⟩
        · subst hr; exact ⟨hp, hv⟩
    · rename_i c k
      split at hr
      · obtain ⟨h1, h2⟩ := ih _ _ _ _ _ hr hp hv; exact ⟨h1, V_skip h2⟩
      · obtain ⟨h1, h2⟩ := ih _ _ _ _ _ hr hp hv
        refine ⟨h1, V_seq (V.mono h2 fun x e s hx => ?_)⟩
        cases x <;> exact hx
      · obtain ⟨h1, h2⟩ := ih _ _ _ _ _ hr hp hv; exact ⟨h1, V_region h2⟩
      · rename_i id c
        obtain ⟨h1, h2⟩ := ih _ _ _ _ _ hr hp hv
        refine ⟨h1, V_block (V.mono h2 fun x e s hx => ?_)⟩
        cases x with
        | nrm => exact hx
        | ret => exact hx
        | ext j =>
          simp only [VX] at hx
          simp only [blockP]
          by_cases hj : j = id
          · subst hj; simp only [Nat.beq_refl] at hx; simp only [if_true]; exact hx
          · have : Nat.beq j id = false := by
              cases hb : Nat.beq j id with
              | false => rfl
              | true => exact absurd (Nat.eq_of_beq_eq_true hb) hj
            simp only [this] at hx; simp only [if_neg hj]; exact hx
      · rename_i t a b
        split at hr
        · rename_i ty ht
          obtain ⟨h1, h2⟩ := ih _ _ _ _ _ hr hp hv
          exact ⟨h1, V_cond (b := true) (by rw [ht]; rfl) (fun _ => h2) (fun h => by cases h)⟩
        · rename_i ty ht
          obtain ⟨h1, h2⟩ := ih _ _ _ _ _ hr hp hv
          exact ⟨h1, V_cond (b := false) (by rw [ht]; rfl) (fun h => by cases h) (fun _ => h2)⟩
        · subst hr; exact ⟨hp, hv⟩
      · subst hr; exact ⟨hp, V_ret (VX_ret hv)⟩
      · rename_i id
        split at hr
        · rename_i k' hk
          obtain ⟨h1, h2⟩ := ih _ _ _ _ _ hr hp hv
          exact ⟨h1, V_exit (VX_unw hk h2)⟩
        · rename_i hk; subst hr; exact ⟨hp, V_exit (VX_unw0 hk hv)⟩
      · subst hr; exact ⟨hp, hv⟩

theorem VX_run {K : Kit} (n : Nat) (hK : KitOk C.P C.tb K) (hC : Ok C) {k k' : List It} {e e' : Env} {s s' : List Blk} {x : X} {ps : List Prop} (h : run K C n [] k e s = ⟨ps, k', x, e', s'⟩) (hp : allP ps)
    (hv : VX C Q k' x e' s') : VX C Q k .nrm e s := (run_ok hK hC n [] k e s _ h hp hv).2
theorem V_of_VX {c : Code} (h : VX C Q [.c c] .nrm env σ) : V C c env σ Q := h.mono fun x e s hx => hx

def splits : List It → Bool
  | .c _ :: _ | .r _ _ :: _ | .o _ _ _ :: _ => true
  | _ => false
/-- What a temporary's datum is besides. -/
theorem VX_put {k : List It} (t : Nat) {d : D} (hk : splits k = true) (hd : ∀ H β v, DRel C.tb H β σ v (getD env t) → DRel C.tb H β σ v d) (h : VX C Q k .nrm ((t, d) :: env) σ) : VX C Q k .nrm env σ := by
  match k, hk with
  | .c code :: k, _ => exact fun H β a w hr he hdf => h H β a w hr (he.shadow fun v hv => hd H β v hv) hdf
  | .r full l :: k, _ => exact fun H β a w hr he hdf => h H β a w hr (he.shadow fun v hv => hd H β v hv) hdf
  | .o full ts ord :: k, _ => exact fun listed h1 h2 H β a w hr he hdf => h listed h1 h2 H β a w hr (he.shadow fun v hv => hd H β v hv) hdf
/-- A truth in a temporary. -/
theorem VX_split {k : List It} (t : Nat) {ty : TypeId} {b : Bool} (hk : splits k = true) (hb : getD env t = .t ty (.e (.bool b)))
    (h1 : b = true → VX C Q k .nrm ((t, .kb ty true) :: env) σ) (h0 : b = false → VX C Q k .nrm ((t, .kb ty false) :: env) σ) : VX C Q k .nrm env σ := by
  have key : ∀ H β v, DRel C.tb H β σ v (getD env t) → DRel C.tb H β σ v (.kb ty b) := fun H β v hv => by
    rw [hb] at hv
    have := boolAny_rel hv rfl
    subst this
    cases hv with
    | t a c => cases c with
      | e r => cases r with
        | bool hc => exact .kb hc
  cases b with
  | true => exact VX_put t hk key (h1 rfl)
  | false => exact VX_put t hk key (h0 rfl)
/-- An operation by its own rule. -/
theorem VX_op {k : List It} {full l : List Oper} {o : Oper} {R : D → List Blk → Prop} (hw : wants full env o = some true) (hn : dstOk C.n o.dst = true) (ho : OpV C o env σ R)
    (h : ∀ d s, R d s → VX C Q (.r full l :: k) .nrm (putD env o.dst d) s) : VX C Q (.r full (o :: l) :: k) .nrm env σ := VL_wants hw hn ho h
theorem VX_opO {k : List It} {full : List Oper} {ts : List Nat} {i : Nat} {ord : List (Nat × Bool)} {o : Oper} {R : D → List Blk → Prop} (hi : full[i]? = some o) (hw : wants full env o = some true) (hn : dstOk C.n o.dst = true) (ho : OpF C o env σ ts R)
    (h : ∀ d s, R d s → VX C Q (.o full ts ord :: k) .nrm (putD env o.dst d) s) : VX C Q (.o full ts ((i, false) :: ord) :: k) .nrm env σ := VO_one hi hw hn ho h
theorem VX_draw {k : List It} {id : Nat} {l : List Oper} (ts : List Nat) (r : List (Nat × Bool)) (hm : C.P.follows .mixedOrders = true) (hns : Region.noSelect l.toArray = true)
    (hl : Nat.beq r.length l.length = true) (hs : okSched l.toArray r (Array.replicate l.toArray.size false) = true) (h : VX C Q (.o l ts r :: k) .nrm env σ) : VX C Q (.c (.region id l.toArray true) :: k) .nrm env σ :=
  V_draw ts r hm hns hl hs h
theorem VX_weak {k : List It} {c : Code} {env' : Env} {σ' : List Blk} (hw : Weak C.k0 env' σ' env σ) (h : VX C Q (.c c :: k) .nrm env' σ') : VX C Q (.c c :: k) .nrm env σ := V_weak hw h
/-- A loop: an invariant with a number that every round lowers. -/
theorem VX_loop {k : List It} {c : Code} (I : Nat → Env → List Blk → Prop) (m0 : Nat) (h0 : I m0 env σ)
    (step : ∀ m e s, I m e s → VX C (fun x e1 s1 => match x with
      | .nrm => ∃ m', m' < m ∧ ∃ e' s', Weak C.k0 e' s' e1 s1 ∧ I m' e' s'
      | x => VX C Q k x e1 s1) [.c c] .nrm e s) : VX C Q (.c (.loop c) :: k) .nrm env σ := by
  refine V_loop I m0 h0 fun m e s hI => (V_of_VX (step m e s hI)).mono fun x e1 s1 hx => ?_
  cases x <;> exact hx
theorem VX_brk {k : List It} {id : Nat} (h : VX C Q k .nrm env σ) : VX C Q (.b id :: k) (.ext id) env σ := by
  simp only [VX, Nat.beq_refl]; exact h
/-- What a loop's body must come to. -/
def loopQ (C : Cx) (Q : Post) (k : List It) (cont : Env → List Blk → Prop) : Post := fun x e s => match x with
  | .nrm => cont e s
  | .ext id => VX C Q k (.ext id) e s
  | .ret => VX C Q k .ret e s
theorem loop_brk {k : List It} {id : Nat} {cont : Env → List Blk → Prop} (h : VX C Q k .nrm env σ) : VX C (loopQ C Q (.b id :: k) cont) [] (.ext id) env σ := VX_brk h
theorem loop_ext {k k' : List It} {id : Nat} {cont : Env → List Blk → Prop} (hu : unw id k = some k') (h : VX C Q k' .nrm env σ) : VX C (loopQ C Q k cont) [] (.ext id) env σ := by
  show VX C Q k (.ext id) env σ
  exact VX_unw (k := k) hu h
theorem loop_ret {k : List It} {cont : Env → List Blk → Prop} (h : Q .ret env σ) : VX C (loopQ C Q k cont) [] .ret env σ := VX_ret (k := k) h
theorem loop_nrm {k : List It} {cont : Env → List Blk → Prop} (h : cont env σ) : VX C (loopQ C Q k cont) [] .nrm env σ := h
/-- A loop over states that are told by something. -/
theorem VX_loopA {k : List It} {c : Code} {α : Type _} (inv : α → Prop) (envOf : α → Env) (sOf : α → List Blk) (meas : α → Nat) (a0 : α) (h0 : inv a0) (hw : Weak C.k0 (envOf a0) (sOf a0) env σ)
    (step : ∀ a, inv a → VX C (loopQ C Q k fun e1 s1 => ∃ a', meas a' < meas a ∧ inv a' ∧ Weak C.k0 (envOf a') (sOf a') e1 s1) [.c c] .nrm (envOf a) (sOf a)) : VX C Q (.c (.loop c) :: k) .nrm env σ := by
  refine VX_weak hw (VX_loop (fun m e s => ∃ a, inv a ∧ meas a = m ∧ e = envOf a ∧ s = sOf a) (meas a0) ⟨a0, h0, rfl, rfl, rfl⟩ ?_)
  rintro m e s ⟨a, ha, rfl, rfl, rfl⟩
  refine V.mono (V_of_VX (step a ha)) fun x e1 s1 hx => ?_
  cases x with
  | nrm => obtain ⟨a', h1, h2, h3⟩ := hx; exact ⟨_, h1, _, _, h3, a', h2, rfl, rfl, rfl⟩
  | ext j => exact hx
  | ret => exact hx
end
end Go.Den
