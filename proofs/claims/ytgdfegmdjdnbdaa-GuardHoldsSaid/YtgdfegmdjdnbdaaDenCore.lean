/- The data of the calculus: persistent data (E), trees in memory (T), what a temporary holds (D); how they read in a world of the model. No function of the program occurs here. -/
import Derived.Calls
import Derived.Tactics
import Derived.Deep.LoopGhost
import Derived.KernelRfl
namespace Go.Den
open Go

/-- A type of the program, resolved. -/
inductive TD where
  | int (k : IntKind) | bool | str | ptr (t : TypeId) | sl (t : TypeId) | arr (n : Nat) (t : TypeId)
  | st (fs : List (TypeId × Nat)) | ifc | fn | mp (k v : TypeId) | other
  deriving DecidableEq, Repr

structure TI where
  d : TD
  sz : Nat
  nb : Nat
  uid : TypeId
  deriving DecidableEq, Repr

abbrev Tab := List TI
def td (tb : Tab) (t : TypeId) : TD := ((tb[t]?).map (·.d)).getD .other
def sz (tb : Tab) (t : TypeId) : Nat := ((tb[t]?).map (·.sz)).getD 0
def nb (tb : Tab) (t : TypeId) : Nat := ((tb[t]?).map (·.nb)).getD 0
def uid (tb : Tab) (t : TypeId) : TypeId := ((tb[t]?).map (·.uid)).getD t
def isAggT (tb : Tab) (t : TypeId) : Bool := match td tb t with | .st _ | .arr _ _ => true | _ => false

/-- Persistent data: memory that nobody writes any more. -/
inductive E where
  | int (n : Int) | bool (b : Bool) | str (s : List UInt8)
  | nilp | nilf | nili | nilm
  | agg (xs : List E) | sl (xs : List E) | ifc (t : TypeId) (x : E)
  deriving Inhabited

/-- What stands in a variable of the function's own. -/
inductive T where
  | e (x : E) | st (xs : List T) | nsl | bsl (xs : List E) | lsl (i : Nat) (xs : List E)
  | ptr (i : Nat) (path : List Nat) | fn (f : FuncId) (caps : List (Nat × List Nat)) | msl (i n : Nat)
  deriving Inhabited

/-- What a temporary holds. -/
inductive D where
  | t (ty : TypeId) (x : T)
  | ptr (i : Nat) (path : List Nat)
  | el (u : TypeId) (xs : List E) (j : Nat) (path : List Nat)
  | asl (i : Nat) (path : List Nat) (u : TypeId) (off n : Nat)
  | tup (xs : List D)
  | it (i : Nat)
  | kb (ty : TypeId) (b : Bool)
  | mel (u : TypeId) (i n j : Nat) (path : List Nat)
  | any
  deriving Inhabited

/-- A block of the function's own. -/
inductive Blk where
  | tree (ty : TypeId) (x : T)
  | row (ety : TypeId) (n : Nat)
  | iter (s : List UInt8) (pos : Nat)
  | dead
  | mrow (ety : TypeId) (own : Bool) (xs : List E)
  deriving Inhabited

/-- Whose a cell is. -/
inductive Own where
  | none | pers (v : Value) | mine (i : Nat)

abbrev Gh := Nat → Nat → Own

def seg (cs : List Value) (o n : Nat) : List Value := (cs.drop o).take n

def maxI : Int := 9223372036854775807
def maxL : Nat := 140737488355328
def maxN : Nat := 9223372036854775807
theorem maxL_N {n : Nat} (h : n ≤ maxL) : n ≤ maxN := by unfold maxL at h; unfold maxN; omega

def sv (s : List UInt8) : Value := .string ⟨⟨s⟩⟩

inductive Rd (tb : Tab) (H : Gh) : TypeId → List Value → E → Prop
  | int {t k n} : td tb t = .int k → k.wrap n = n → Rd tb H t [.int k n] (.int n)
  | bool {t b} : td tb t = .bool → Rd tb H t [.bool b] (.bool b)
  | str {t} {s : List UInt8} : td tb t = .str → (s.length : Int) ≤ maxI → Rd tb H t [sv s] (.str s)
  | nilp {t u} : td tb t = .ptr u → Rd tb H t [.pointer none] .nilp
  | nilf {t} : td tb t = .fn → Rd tb H t [.nilFunc] .nilf
  | nili {t} : td tb t = .ifc → Rd tb H t [.nilIface] .nili
  | nilm {t k v} : td tb t = .mp k v → Rd tb H t [.map none] .nilm
  | st {t} {fs : List (TypeId × Nat)} {cs : List Value} {xs : List E} : td tb t = .st fs → cs.length = sz tb t → xs.length = fs.length →
      (∀ (i : Nat) (f : TypeId × Nat) (x : E), fs[i]? = some f → xs[i]? = some x → Rd tb H f.1 (seg cs f.2 (sz tb f.1)) x) → Rd tb H t cs (.agg xs)
  | arr {t n u} {cs : List Value} {xs : List E} : td tb t = .arr n u → cs.length = n * sz tb u → xs.length = n →
      (∀ (i : Nat) (x : E), xs[i]? = some x → Rd tb H u (seg cs (i * sz tb u) (sz tb u)) x) → Rd tb H t cs (.agg xs)
  | sl0 {t u a c} : td tb t = .sl u → Rd tb H t [.slice a 0 c] (.sl [])
  | sl {t u b off c} {cs : List Value} {xs : List E} : td tb t = .sl u → cs.length = xs.length * sz tb u → (∀ (j : Nat) (v : Value), cs[j]? = some v → H b (off + j) = .pers v) →
      (∀ (i : Nat) (x : E), xs[i]? = some x → Rd tb H u (seg cs (i * sz tb u) (sz tb u)) x) → xs.length ≤ c → xs.length ≤ maxN →
      Rd tb H t [.slice (some ⟨b, off, none⟩) xs.length c] (.sl xs)
  | ifc {t u} {cs : List Value} {x : E} {v : Value} : td tb t = .ifc → (if isAggT tb u then v = .agg cs.toArray else cs = [v]) → Rd tb H u cs x → Rd tb H t [.iface u v] (.ifc u x)

/-- The place of a path inside a type: its offset and its type. -/
def offT (tb : Tab) : TypeId → List Nat → Option (Nat × TypeId)
  | t, [] => some (0, t)
  | t, k :: rest =>
    match td tb t with
    | .st fs => match fs[k]? with
      | some f => (offT tb f.1 rest).map fun (o, u) => (f.2 + o, u)
      | none => none
    | .arr n u => if k < n then (offT tb u rest).map fun (o, v) => (k * sz tb u + o, v) else none
    | _ => none

def PtrAt (tb : Tab) (β : List Value) (σ : List Blk) (i : Nat) (path : List Nat) (a : Addr) : Prop :=
  ∃ b off ty x o u, β[i]? = some (.pointer (some ⟨b, off, none⟩)) ∧ σ[i]? = some (.tree ty x) ∧ offT tb ty path = some (o, u) ∧ a = ⟨b, off + o, none⟩

inductive TRel (tb : Tab) (H : Gh) (β : List Value) (σ : List Blk) : TypeId → List Value → T → Prop
  | e {t} {cs : List Value} {x : E} : Rd tb H t cs x → TRel tb H β σ t cs (.e x)
  | st {t} {fs : List (TypeId × Nat)} {cs : List Value} {xs : List T} : td tb t = .st fs → cs.length = sz tb t → xs.length = fs.length →
      (∀ (i : Nat) (f : TypeId × Nat) (x : T), fs[i]? = some f → xs[i]? = some x → TRel tb H β σ f.1 (seg cs f.2 (sz tb f.1)) x) → TRel tb H β σ t cs (.st xs)
  | arr {t n u} {cs : List Value} {xs : List T} : td tb t = .arr n u → cs.length = n * sz tb u → xs.length = n →
      (∀ (i : Nat) (x : T), xs[i]? = some x → TRel tb H β σ u (seg cs (i * sz tb u) (sz tb u)) x) → TRel tb H β σ t cs (.st xs)
  | nsl {t u} : td tb t = .sl u → TRel tb H β σ t [.slice none 0 0] .nsl
  | bsl {t u b off} {xs : List E} : td tb t = .sl u → Rd tb H t [.slice (some ⟨b, off, none⟩) xs.length xs.length] (.sl xs) → TRel tb H β σ t [.slice (some ⟨b, off, none⟩) xs.length xs.length] (.bsl xs)
  | lsl {t u v} {i : Nat} {xs : List E} : td tb t = .sl u → Rd tb H t [v] (.sl xs) →
      (∃ n : Nat, σ[i]? = some (.row u n) ∧ xs.length ≤ n ∧ (n = xs.length → β[i]? = some v)) → TRel tb H β σ t [v] (.lsl i xs)
  | ptr {t u i path a} : td tb t = .ptr u → PtrAt tb β σ i path a → TRel tb H β σ t [.pointer (some a)] (.ptr i path)
  | fn {t f} {caps : List (Nat × List Nat)} {as : List Addr} : td tb t = .fn → as.length = caps.length →
      (∀ (i : Nat) (c : Nat × List Nat) (a : Addr), caps[i]? = some c → as[i]? = some a → PtrAt tb β σ c.1 c.2 a) →
      TRel tb H β σ t [.func (.func f) #[] (as.map fun a => Value.pointer (some a)).toArray] (.fn f caps)
  | msl {t u v} {i n : Nat} : td tb t = .sl u → (∃ a c, v = .slice a n c ∧ n ≤ maxN) →
      (∃ (o : Bool) (xs : List E), σ[i]? = some (.mrow u o xs) ∧ n ≤ xs.length ∧ (n = xs.length → β[i]? = some v)) → TRel tb H β σ t [v] (.msl i n)

/-- A value and its cells. -/
def VC (tb : Tab) (t : TypeId) (v : Value) (cs : List Value) : Prop := if isAggT tb t then v = .agg cs.toArray else cs = [v]

inductive DRel (tb : Tab) (H : Gh) (β : List Value) (σ : List Blk) : Value → D → Prop
  | t {ty v} {cs : List Value} {x : T} : VC tb ty v cs → TRel tb H β σ ty cs x → DRel tb H β σ v (.t ty x)
  | ptr {i path a} : PtrAt tb β σ i path a → DRel tb H β σ (.pointer (some a)) (.ptr i path)
  | el {u b off} {cs : List Value} {xs : List E} {j path o v} : cs.length = xs.length * sz tb u → (∀ (j : Nat) (v : Value), cs[j]? = some v → H b (off + j) = .pers v) →
      (∀ (i : Nat) (x : E), xs[i]? = some x → Rd tb H u (seg cs (i * sz tb u) (sz tb u)) x) → j < xs.length → offT tb u path = some (o, v) →
      DRel tb H β σ (.pointer (some ⟨b, off + (j * sz tb u + o), none⟩)) (.el u xs j path)
  | asl {i path u off n c} {a : Addr} {m : Nat} : PtrAt tb β σ i path a → (∀ (ty : TypeId) (x : T), σ[i]? = some (.tree ty x) → ∃ o v, offT tb ty path = some (o, v) ∧ td tb v = .arr m u) → off + n ≤ m → n ≤ c → n ≤ maxN →
      DRel tb H β σ (.slice (some ⟨a.block, a.off + off * sz tb u, none⟩) n c) (.asl i path u off n)
  | tup {vs : Array Value} {ds : List D} : vs.size = ds.length → (∀ (i : Nat) (v : Value) (d : D), vs[i]? = some v → ds[i]? = some d → DRel tb H β σ v d) → DRel tb H β σ (.tuple vs) (.tup ds)
  | it {i : Nat} {v : Value} {s pos} : σ[i]? = some (.iter s pos) → β[i]? = some v → DRel tb H β σ v (.it i)
  | kb {ty b} : td tb ty = .bool → DRel tb H β σ (.bool b) (.kb ty b)
  | mel {u i n j path o v} {pa : Option Addr} : offT tb u path = some (o, v) → (∃ (ow : Bool) (xs : List E), σ[i]? = some (.mrow u ow xs) ∧ n ≤ xs.length ∧
      (n = xs.length → j < n → ∃ b c, β[i]? = some (.slice (some ⟨b, 0, none⟩) n c) ∧ pa = some ⟨b, j * sz tb u + o, none⟩)) → DRel tb H β σ (.pointer pa) (.mel u i n j path)
  | any {v} : DRel tb H β σ v .any

def boolAny : D → Option Bool
  | .t _ (.e (.bool b)) => some b
  | .kb _ b => some b
  | _ => none

/-- What the temporaries hold: the newest entry counts; of the others nothing is known. -/
abbrev Env := List (Nat × D)
def getD : Env → Nat → D
  | [], _ => .any
  | (k, d) :: r, t => match Nat.beq k t with
    | true => d
    | false => getD r t

def EnvRel (tb : Tab) (H : Gh) (β : List Value) (σ : List Blk) (n : Nat) (a : Act) (env : Env) : Prop :=
  a.tmps.size = n ∧ ∀ t, DRel tb H β σ (a.tmps.getD t undef) (getD env t)

/-- The cells of a list's elements. -/
structure RowC (tb : Tab) (H : Gh) (u : TypeId) (cs : List Value) (xs : List E) : Prop where
  len : cs.length = xs.length * sz tb u
  el : ∀ (i : Nat) (x : E), xs[i]? = some x → Rd tb H u (seg cs (i * sz tb u) (sz tb u)) x

def MRel (tb : Tab) (H : Gh) (w : World) (i : Nat) (bv : Value) (ety : TypeId) (o : Bool) (xs : List E) : Prop := match o with
  | true => (bv = .slice none 0 0 ∧ xs = []) ∨ ∃ b c cs zs, bv = .slice (some ⟨b, 0, none⟩) xs.length c ∧ (xs.length ≤ c ∧ 0 < c) ∧ xs.length ≤ maxN ∧ RowC tb H ety cs xs ∧ (cs ++ zs).length = c * sz tb ety ∧
      (0 < c * sz tb ety → w.shape? b = some (ety, c * sz tb ety)) ∧
      (∀ (j : Nat) (v : Value), (cs ++ zs)[j]? = some v → w.cell? ⟨b, j, none⟩ = some v ∧ H b j = .mine i ∧ w.frozen? ⟨b, j, none⟩ = false)
  | false => ∀ t, td tb t = .sl ety → Rd tb H t [bv] (.sl xs)

def BlkRel (tb : Tab) (H : Gh) (β : List Value) (σ : List Blk) (w : World) (i : Nat) (bv : Value) : Blk → Prop
  | .tree ty x => ∃ b off cs, bv = .pointer (some ⟨b, off, none⟩) ∧ cs.length = sz tb ty ∧ (0 < sz tb ty → off = 0 ∧ w.shape? b = some (ty, sz tb ty)) ∧
      (∀ j v, cs[j]? = some v → w.cell? ⟨b, off + j, none⟩ = some v ∧ H b (off + j) = .mine i ∧ w.frozen? ⟨b, off + j, none⟩ = false) ∧ TRel tb H β σ ty cs x
  | .row ety n => (bv = .slice none 0 0 ∧ n = 0) ∨ ∃ b off c, bv = .slice (some ⟨b, off, none⟩) n c ∧ n ≤ c ∧
      ∀ j, n * sz tb ety ≤ j → j < c * sz tb ety → (∃ v, w.cell? ⟨b, off + j, none⟩ = some v) ∧ H b (off + j) = .mine i ∧ w.frozen? ⟨b, off + j, none⟩ = false
  | .iter s pos => ∃ r, bv = .pointer (some ⟨r, 0, none⟩) ∧ w.heap[r]? = some (.stringIter ⟨⟨s⟩⟩ pos) ∧ (∀ o, H r o = .mine i)
  | .dead => True
  | .mrow ety o xs => MRel tb H w i bv ety o xs

structure Rel (tb : Tab) (H : Gh) (β : List Value) (σ : List Blk) (w : World) : Prop where
  pers : ∀ b o v, H b o = .pers v → w.cell? ⟨b, o, none⟩ = some v
  dom : ∀ b o, H b o ≠ .none → b < w.heap.size
  len : β.length = σ.length
  blk : ∀ i k bv, σ[i]? = some k → β[i]? = some bv → BlkRel tb H β σ w i bv k

/-- From one world to a later one: what is nobody's own here has not turned. -/
structure Stp (H : Gh) (w : World) (H' : Gh) (w' : World) : Prop where
  os : w'.os = w.os
  tape : w'.tape = w.tape
  output : w'.output = w.output
  size : w.heap.size ≤ w'.heap.size
  gh : ∀ b, b < w.heap.size → ∀ o, (∀ i, H b o ≠ .mine i) → H' b o = H b o
  own : ∀ b, b < w.heap.size → ∀ o i, H' b o = .mine i → ∃ k, H b o = .mine k
  blk : ∀ b, b < w.heap.size → (∀ o i, H b o ≠ .mine i) → w'.heap[b]? = w.heap[b]?
  cell : ∀ b, b < w.heap.size → ∀ o, (∀ i, H b o ≠ .mine i) → w'.cell? ⟨b, o, none⟩ = w.cell? ⟨b, o, none⟩
  frz : ∀ b, b < w.heap.size → ∀ o v, w.cell? ⟨b, o, none⟩ = some v → (∀ i, H b o ≠ .mine i) → w'.frozen? ⟨b, o, none⟩ = w.frozen? ⟨b, o, none⟩
  shp : ∀ b, b < w.heap.size → w'.shape? b = w.shape? b

theorem Stp.refl (H : Gh) (w : World) : Stp H w H w :=
  ⟨rfl, rfl, rfl, Nat.le_refl _, fun _ _ _ _ => rfl, fun _ _ _ i h => ⟨i, h⟩, fun _ _ _ => rfl, fun _ _ _ _ => rfl, fun _ _ _ _ _ _ => rfl, fun _ _ => rfl⟩

theorem Stp.trans {H H1 H2 : Gh} {w w1 w2 : World} (h : Stp H w H1 w1) (k : Stp H1 w1 H2 w2) : Stp H w H2 w2 := by
  have nm : ∀ b, b < w.heap.size → ∀ o, (∀ i, H b o ≠ .mine i) → ∀ i, H1 b o ≠ .mine i := fun b hb o hn i he => by
    rw [h.gh b hb o hn] at he; exact hn i he
  have lt : ∀ b, b < w.heap.size → b < w1.heap.size := fun b hb => Nat.lt_of_lt_of_le hb h.size
  refine ⟨k.os.trans h.os, k.tape.trans h.tape, k.output.trans h.output, Nat.le_trans h.size k.size, ?_, ?_, ?_, ?_, ?_, fun b hb => (k.shp b (lt b hb)).trans (h.shp b hb)⟩
  · exact fun b hb o hn => (k.gh b (lt b hb) o (nm b hb o hn)).trans (h.gh b hb o hn)
  · intro b hb o i he
    obtain ⟨j, hj⟩ := k.own b (lt b hb) o i he
    exact h.own b hb o j hj
  · exact fun b hb hn => (k.blk b (lt b hb) (fun o => nm b hb o (hn o))).trans (h.blk b hb hn)
  · exact fun b hb o hn => (k.cell b (lt b hb) o (nm b hb o hn)).trans (h.cell b hb o hn)
  · exact fun b hb o v hv hn => (k.frz b (lt b hb) o v ((h.cell b hb o hn).trans hv) (nm b hb o hn)).trans (h.frz b hb o v hv hn)


/-- How ghost, bases and blocks may go on while what was known of values stays true. -/
structure Ev (H : Gh) (β : List Value) (σ : List Blk) (H' : Gh) (β' : List Value) (σ' : List Blk) : Prop where
  pers : ∀ b o v, H b o = .pers v → H' b o = .pers v
  tree : ∀ (i : Nat) (ty : TypeId) (x : T), σ[i]? = some (.tree ty x) → β'[i]? = β[i]? ∧ ∃ x', σ'[i]? = some (.tree ty x')
  row : ∀ (i : Nat) (ety : TypeId) (n : Nat), σ[i]? = some (.row ety n) → ∃ n', σ'[i]? = some (.row ety n') ∧ n ≤ n' ∧ (n' = n → β'[i]? = β[i]?)
  iter : ∀ (i : Nat) (s : List UInt8) (p : Nat), σ[i]? = some (.iter s p) → β'[i]? = β[i]? ∧ ∃ s' p', σ'[i]? = some (.iter s' p')
  mrow : ∀ (i : Nat) (ety : TypeId) (o : Bool) (xs : List E), σ[i]? = some (.mrow ety o xs) → ∃ o' xs', σ'[i]? = some (.mrow ety o' xs') ∧ xs.length ≤ xs'.length ∧ (xs'.length = xs.length → β'[i]? = β[i]?)

theorem Ev.refl (H : Gh) (β : List Value) (σ : List Blk) : Ev H β σ H β σ :=
  ⟨fun _ _ _ h => h, fun _ _ x h => ⟨rfl, x, h⟩, fun _ _ n h => ⟨n, h, Nat.le_refl _, fun _ => rfl⟩, fun _ s p h => ⟨rfl, s, p, h⟩, fun _ _ o xs h => ⟨o, xs, h, Nat.le_refl _, fun _ => rfl⟩⟩

theorem Ev.trans {H β σ H1 β1 σ1 H2 β2 σ2} (h : Ev H β σ H1 β1 σ1) (k : Ev H1 β1 σ1 H2 β2 σ2) : Ev H β σ H2 β2 σ2 := by
  refine ⟨fun b o v e => k.pers b o v (h.pers b o v e), ?_, ?_, ?_, ?_⟩
  · intro i ty x e
    obtain ⟨e1, x1, f1⟩ := h.tree i ty x e
    obtain ⟨e2, x2, f2⟩ := k.tree i ty x1 f1
    exact ⟨e2.trans e1, x2, f2⟩
  · intro i ety n e
    obtain ⟨n1, f1, l1, g1⟩ := h.row i ety n e
    obtain ⟨n2, f2, l2, g2⟩ := k.row i ety n1 f1
    refine ⟨n2, f2, Nat.le_trans l1 l2, fun he => ?_⟩
    have a : n1 = n := by omega
    have b : n2 = n1 := by omega
    exact (g2 b).trans (g1 a)
  · intro i s p e
    obtain ⟨e1, s1, p1, f1⟩ := h.iter i s p e
    obtain ⟨e2, s2, p2, f2⟩ := k.iter i s1 p1 f1
    exact ⟨e2.trans e1, s2, p2, f2⟩
  · intro i ety o xs e
    obtain ⟨o1, xs1, f1, l1, g1⟩ := h.mrow i ety o xs e
    obtain ⟨o2, xs2, f2, l2, g2⟩ := k.mrow i ety o1 xs1 f1
    refine ⟨o2, xs2, f2, Nat.le_trans l1 l2, fun he => ?_⟩
    have a : xs1.length = xs.length := by omega
    have b : xs2.length = xs1.length := by omega
    exact (g2 b).trans (g1 a)

theorem Rd.mono {tb : Tab} {H H' : Gh} (h : ∀ b o v, H b o = .pers v → H' b o = .pers v) {t cs x} (r : Rd tb H t cs x) : Rd tb H' t cs x := by
  induction r with
  | int a b => exact .int a b
  | bool a => exact .bool a
  | str a b => exact .str a b
  | nilp a => exact .nilp a
  | nilf a => exact .nilf a
  | nili a => exact .nili a
  | nilm a => exact .nilm a
  | st a b c _ ih => exact .st a b c ih
  | arr a b c _ ih => exact .arr a b c ih
  | sl0 a => exact .sl0 a
  | sl a b c _ e f ih => exact .sl a b (fun j v hj => h _ _ _ (c j v hj)) ih e f
  | ifc a b _ ih => exact .ifc a b ih

theorem PtrAt.mono {tb H β σ H' β' σ'} (h : Ev H β σ H' β' σ') {i path a} (r : PtrAt tb β σ i path a) : PtrAt tb β' σ' i path a := by
  obtain ⟨b, off, ty, x, o, u, e1, e2, e3, e4⟩ := r
  obtain ⟨f1, x', f2⟩ := h.tree i ty x e2
  exact ⟨b, off, ty, x', o, u, f1.trans e1, f2, e3, e4⟩

theorem TRel.mono {tb H β σ H' β' σ'} (h : Ev H β σ H' β' σ') {t cs x} (r : TRel tb H β σ t cs x) : TRel tb H' β' σ' t cs x := by
  induction r with
  | e a => exact .e (a.mono h.pers)
  | st a b c _ ih => exact .st a b c ih
  | arr a b c _ ih => exact .arr a b c ih
  | nsl a => exact .nsl a
  | bsl a b => exact .bsl a (b.mono h.pers)
  | lsl a b c =>
    obtain ⟨n, c1, c2, c3⟩ := c
    obtain ⟨n', d1, d2, d3⟩ := h.row _ _ n c1
    refine .lsl a (b.mono h.pers) ⟨n', d1, Nat.le_trans c2 d2, fun he => ?_⟩
    have : n' = n := by omega
    exact (d3 this).trans (c3 (by omega))
  | ptr a b => exact .ptr a (b.mono h)
  | fn a b c => exact .fn a b (fun i x y hx hy => (c i x y hx hy).mono h)
  | msl a b c =>
    obtain ⟨o, xs, c1, c2, c3⟩ := c
    obtain ⟨o', xs', d1, d2, d3⟩ := h.mrow _ _ o xs c1
    refine .msl a b ⟨o', xs', d1, Nat.le_trans c2 d2, fun he => ?_⟩
    have : xs'.length = xs.length := by omega
    exact (d3 this).trans (c3 (by omega))

theorem DRel.mono {tb H β σ H' β' σ'} (h : Ev H β σ H' β' σ') {v d} (r : DRel tb H β σ v d) : DRel tb H' β' σ' v d := by
  induction r with
  | t a b => exact .t a (b.mono h)
  | ptr a => exact .ptr (a.mono h)
  | el a b c d e => exact .el a (fun j v hj => h.pers _ _ _ (b j v hj)) (fun i x hx => (c i x hx).mono h.pers) d e
  | @asl i path u off n c a m ha hb hc hd hm =>
    refine .asl (m := m) (ha.mono h) (fun ty x hx => ?_) hc hd hm
    obtain ⟨b0, off0, ty0, x0, o0, u0, e1, e2, e3, e4⟩ := ha
    obtain ⟨f1, x', f2⟩ := h.tree i ty0 x0 e2
    rw [f2] at hx
    simp only [Option.some.injEq, Blk.tree.injEq] at hx
    obtain ⟨rfl, rfl⟩ := hx
    exact hb ty0 x0 e2
  | tup a _ ih => exact .tup a ih
  | it a b =>
    obtain ⟨e1, s', p', f⟩ := h.iter _ _ _ a
    exact .it f (e1.trans b)
  | kb a => exact .kb a
  | mel a b =>
    obtain ⟨o, xs, c1, c2, c3⟩ := b
    obtain ⟨o', xs', d1, d2, d3⟩ := h.mrow _ _ o xs c1
    refine .mel a ⟨o', xs', d1, Nat.le_trans c2 d2, fun he hj => ?_⟩
    have : xs'.length = xs.length := by omega
    obtain ⟨b, c, e1, e2⟩ := c3 (by omega) hj
    exact ⟨b, c, (d3 this).trans e1, e2⟩
  | any => exact .any

theorem EnvRel.mono {tb H β σ H' β' σ'} (h : Ev H β σ H' β' σ') {n a env} (r : EnvRel tb H β σ n a env) : EnvRel tb H' β' σ' n a env :=
  ⟨r.1, fun t => (r.2 t).mono h⟩

/-- A block's relation goes on where its own cells have not turned. -/
theorem BlkRel.mono {tb H β σ H' β' σ' w w' i bv k} (h : Ev H β σ H' β' σ')
    (hc : ∀ b o, H b o = .mine i → H' b o = .mine i ∧ w'.cell? ⟨b, o, none⟩ = w.cell? ⟨b, o, none⟩ ∧ (∀ v, w.cell? ⟨b, o, none⟩ = some v → w'.frozen? ⟨b, o, none⟩ = w.frozen? ⟨b, o, none⟩) ∧ w'.shape? b = w.shape? b)
    (hi : ∀ b s p, (∀ o, H b o = .mine i) → w.heap[b]? = some (.stringIter s p) → w'.heap[b]? = some (.stringIter s p))
    (r : BlkRel tb H β σ w i bv k) : BlkRel tb H' β' σ' w' i bv k := by
  cases k with
  | tree ty x =>
    obtain ⟨b, off, cs, e1, e2, e0, e3, e4⟩ := r
    refine ⟨b, off, cs, e1, e2, fun hz => ?_, fun j v hj => ?_, e4.mono h⟩
    · obtain ⟨z1, z2⟩ := e0 hz
      obtain ⟨f1, f2, f3⟩ := e3 0 _ (List.getElem?_eq_getElem (by omega))
      exact ⟨z1, (hc _ _ f2).2.2.2.trans z2⟩
    · obtain ⟨f1, f2, f3⟩ := e3 j v hj
      obtain ⟨g1, g2, g3, _⟩ := hc _ _ f2
      exact ⟨g2.trans f1, g1, (g3 _ f1).trans f3⟩
  | row ety n =>
    rcases r with r | ⟨b, off, c, e1, e2, e3⟩
    · exact .inl r
    · refine .inr ⟨b, off, c, e1, e2, fun j h1 h2 => ?_⟩
      obtain ⟨⟨v, f1⟩, f2, f3⟩ := e3 j h1 h2
      obtain ⟨g1, g2, g3, _⟩ := hc _ _ f2
      exact ⟨⟨v, g2.trans f1⟩, g1, (g3 _ f1).trans f3⟩
  | iter s pos =>
    obtain ⟨r0, e1, e2, e3⟩ := r
    exact ⟨r0, e1, hi _ _ _ e3 e2, fun o => (hc _ _ (e3 o)).1⟩
  | dead => trivial
  | mrow ety o xs =>
    cases o with
    | false => exact fun t ht => (r t ht).mono h.pers
    | true =>
      rcases r with r | ⟨b, c, cs, zs, e1, e2, e3, e4, e5, e6, e7⟩
      · exact .inl r
      · refine .inr ⟨b, c, cs, zs, e1, e2, e3, ⟨e4.len, fun j x hx => (e4.el j x hx).mono h.pers⟩, e5, fun hz => ?_, fun j v hj => ?_⟩
        · obtain ⟨f1, f2, f3⟩ := e7 0 _ (List.getElem?_eq_getElem (by omega))
          exact (hc _ _ f2).2.2.2.trans (e6 hz)
        · obtain ⟨f1, f2, f3⟩ := e7 j v hj
          obtain ⟨g1, g2, g3, _⟩ := hc _ _ f2
          exact ⟨g2.trans f1, g1, (g3 _ f1).trans f3⟩

end Go.Den
