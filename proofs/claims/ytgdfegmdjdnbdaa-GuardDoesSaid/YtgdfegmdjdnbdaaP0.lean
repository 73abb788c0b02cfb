/- The calculus and the walks, part 0: DenCore, DenV, DenTab, DenOp1, DenOp2, DenMem. -/
import Derived.Calls
import Derived.Tactics
import Derived.Deep.LoopGhost
import Derived.KernelRfl
import Derived.Laws.StructEq
import Derived.Laws.Cells
import Derived.Laws.IdiomCopy
/- The data of the calculus: persistent data (E), trees in memory (T), what a temporary holds (D); how they read in a world of the model. No function of the program occurs here. -/
namespace Go.Den
open Go

/-- Persistent data: memory that nobody writes any more. -/
inductive E where
  | int (n : Int) | bool (b : Bool) | str (s : List UInt8)
  | nilp | nilf | nili | nilm
  | agg (xs : List E) | sl (xs : List E) | ifc (t : TypeId) (x : E)
  deriving Inhabited

/-- A type of the program, resolved. -/
inductive TD where
  | int (k : IntKind) | bool | str | ptr (t : TypeId) | sl (t : TypeId) | arr (n : Nat) (t : TypeId)
  | st (fs : List (TypeId × Nat)) | ifc | fn | mp (k v : TypeId) | other
  deriving DecidableEq, Repr

structure TI where
  d : TD
  sz : Nat
  nb : Nat
  uid : TypeId
  deriving DecidableEq, Repr

/-- The types, and the package's variables that hold what the program's text lays: number, type, datum. -/
structure Tab where
  rows : List TI
  gl : List (Nat × TypeId × E)
def td (tb : Tab) (t : TypeId) : TD := ((tb.rows[t]?).map (·.d)).getD .other
def sz (tb : Tab) (t : TypeId) : Nat := ((tb.rows[t]?).map (·.sz)).getD 0
def nb (tb : Tab) (t : TypeId) : Nat := ((tb.rows[t]?).map (·.nb)).getD 0
def uid (tb : Tab) (t : TypeId) : TypeId := ((tb.rows[t]?).map (·.uid)).getD t
def isAggT (tb : Tab) (t : TypeId) : Bool := match td tb t with | .st _ | .arr _ _ => true | _ => false

/-- What stands in a variable of the function's own. -/
inductive T where
  | e (x : E) | st (xs : List T) | nsl | bsl (xs : List E) | lsl (i : Nat) (xs : List E)
  | ptr (i : Nat) (path : List Nat) | fn (f : FuncId) (caps : List (Nat × List Nat)) | msl (i n : Nat) | tsl (xs : List T) | mp (i : Nat)
  deriving Inhabited

/-- What a temporary holds. -/
inductive D where
  | t (ty : TypeId) (x : T)
  | ptr (i : Nat) (path : List Nat)
  | el (u : TypeId) (xs : List E) (j : Nat) (path : List Nat)
  | asl (i : Nat) (path : List Nat) (u : TypeId) (off n : Nat)
  | tup (xs : List D)
  | it (i : Nat)
  | kb (ty : TypeId) (b : Bool)
  | mel (u : TypeId) (i n j : Nat) (path : List Nat)
  | tel (u : TypeId) (xs : List T) (j : Nat)
  | any
  deriving Inhabited

/-- A block of the function's own. -/
inductive Blk where
  | tree (ty : TypeId) (x : T)
  | row (ety : TypeId) (n : Nat)
  | iter (s : List UInt8) (pos : Nat)
  | dead
  | mrow (ety : TypeId) (own : Bool) (xs : List E)
  | mp (kty ety : TypeId) (es : List (E × List E × Bool))
  deriving Inhabited

/-- Whose a cell is. -/
inductive Own where
  | none | pers (v : Value) | mine (i : Nat)

abbrev Gh := Nat → Nat → Own

def seg (cs : List Value) (o n : Nat) : List Value := (cs.drop o).take n

def maxI : Int := 9223372036854775807
def maxL : Nat := 140737488355328
def maxN : Nat := 9223372036854775807
theorem maxL_N {n : Nat} (h : n ≤ maxL) : n ≤ maxN := by unfold maxL at h; unfold maxN; omega

def sv (s : List UInt8) : Value := .string ⟨⟨s⟩⟩

inductive Rd (tb : Tab) (H : Gh) : TypeId → List Value → E → Prop
  | int {t k n} : td tb t = .int k → k.wrap n = n → Rd tb H t [.int k n] (.int n)
  | bool {t b} : td tb t = .bool → Rd tb H t [.bool b] (.bool b)
  | str {t} {s : List UInt8} : td tb t = .str → (s.length : Int) ≤ maxI → Rd tb H t [sv s] (.str s)
  | nilp {t u} : td tb t = .ptr u → Rd tb H t [.pointer none] .nilp
  | nilf {t} : td tb t = .fn → Rd tb H t [.nilFunc] .nilf
  | nili {t} : td tb t = .ifc → Rd tb H t [.nilIface] .nili
  | nilm {t k v} : td tb t = .mp k v → Rd tb H t [.map none] .nilm
  | st {t} {fs : List (TypeId × Nat)} {cs : List Value} {xs : List E} : td tb t = .st fs → cs.length = sz tb t → xs.length = fs.length →
      (∀ (i : Nat) (f : TypeId × Nat) (x : E), fs[i]? = some f → xs[i]? = some x → Rd tb H f.1 (seg cs f.2 (sz tb f.1)) x) → Rd tb H t cs (.agg xs)
  | arr {t n u} {cs : List Value} {xs : List E} : td tb t = .arr n u → cs.length = n * sz tb u → xs.length = n →
      (∀ (i : Nat) (x : E), xs[i]? = some x → Rd tb H u (seg cs (i * sz tb u) (sz tb u)) x) → Rd tb H t cs (.agg xs)
  | sl0 {t u a c} : td tb t = .sl u → Rd tb H t [.slice a 0 c] (.sl [])
  | sl {t u b off c} {cs : List Value} {xs : List E} : td tb t = .sl u → cs.length = xs.length * sz tb u → (∀ (j : Nat) (v : Value), cs[j]? = some v → H b (off + j) = .pers v) →
      (∀ (i : Nat) (x : E), xs[i]? = some x → Rd tb H u (seg cs (i * sz tb u) (sz tb u)) x) → xs.length ≤ c → xs.length ≤ maxN →
      Rd tb H t [.slice (some ⟨b, off, none⟩) xs.length c] (.sl xs)
  | ifc {t u} {cs : List Value} {x : E} {v : Value} : td tb t = .ifc → (if isAggT tb u then v = .agg cs.toArray else cs = [v]) → Rd tb H u cs x → Rd tb H t [.iface u v] (.ifc u x)

/-- The place of a path inside a type: its offset and its type. -/
def offT (tb : Tab) : TypeId → List Nat → Option (Nat × TypeId)
  | t, [] => some (0, t)
  | t, k :: rest =>
    match td tb t with
    | .st fs => match fs[k]? with
      | some f => (offT tb f.1 rest).map fun (o, u) => (f.2 + o, u)
      | none => none
    | .arr n u => if k < n then (offT tb u rest).map fun (o, v) => (k * sz tb u + o, v) else none
    | _ => none

def PtrAt (tb : Tab) (β : List Value) (σ : List Blk) (i : Nat) (path : List Nat) (a : Addr) : Prop :=
  ∃ b off ty x o u, β[i]? = some (.pointer (some ⟨b, off, none⟩)) ∧ σ[i]? = some (.tree ty x) ∧ offT tb ty path = some (o, u) ∧ a = ⟨b, off + o, none⟩

inductive TRel (tb : Tab) (H : Gh) (β : List Value) (σ : List Blk) : TypeId → List Value → T → Prop
  | e {t} {cs : List Value} {x : E} : Rd tb H t cs x → TRel tb H β σ t cs (.e x)
  | st {t} {fs : List (TypeId × Nat)} {cs : List Value} {xs : List T} : td tb t = .st fs → cs.length = sz tb t → xs.length = fs.length →
      (∀ (i : Nat) (f : TypeId × Nat) (x : T), fs[i]? = some f → xs[i]? = some x → TRel tb H β σ f.1 (seg cs f.2 (sz tb f.1)) x) → TRel tb H β σ t cs (.st xs)
  | arr {t n u} {cs : List Value} {xs : List T} : td tb t = .arr n u → cs.length = n * sz tb u → xs.length = n →
      (∀ (i : Nat) (x : T), xs[i]? = some x → TRel tb H β σ u (seg cs (i * sz tb u) (sz tb u)) x) → TRel tb H β σ t cs (.st xs)
  | nsl {t u} : td tb t = .sl u → TRel tb H β σ t [.slice none 0 0] .nsl
  | bsl {t u b off} {xs : List E} : td tb t = .sl u → Rd tb H t [.slice (some ⟨b, off, none⟩) xs.length xs.length] (.sl xs) → TRel tb H β σ t [.slice (some ⟨b, off, none⟩) xs.length xs.length] (.bsl xs)
  | lsl {t u v} {i : Nat} {xs : List E} : td tb t = .sl u → Rd tb H t [v] (.sl xs) →
      (∃ n : Nat, σ[i]? = some (.row u n) ∧ xs.length ≤ n ∧ (n = xs.length → β[i]? = some v)) → TRel tb H β σ t [v] (.lsl i xs)
  | ptr {t u i path a} : td tb t = .ptr u → PtrAt tb β σ i path a → TRel tb H β σ t [.pointer (some a)] (.ptr i path)
  | fn {t f} {caps : List (Nat × List Nat)} {ads : List Addr} : td tb t = .fn → ads.length = caps.length →
      (∀ (i : Nat) (c : Nat × List Nat) (a : Addr), caps[i]? = some c → ads[i]? = some a → PtrAt tb β σ c.1 c.2 a) →
      TRel tb H β σ t [.func (.func f) #[] (ads.map fun a => Value.pointer (some a)).toArray] (.fn f caps)
  | msl {t u v} {i n : Nat} : td tb t = .sl u → (∃ a c, v = .slice a n c ∧ n ≤ maxN) →
      (∃ (o : Bool) (xs : List E), σ[i]? = some (.mrow u o xs) ∧ n ≤ xs.length ∧ (n = xs.length → β[i]? = some v)) → TRel tb H β σ t [v] (.msl i n)
  | tsl {t u b off} {cs : List Value} {xs : List T} : td tb t = .sl u → cs.length = xs.length * sz tb u → (∀ (j : Nat) (v : Value), cs[j]? = some v → H b (off + j) = .pers v) →
      (∀ (i : Nat) (x : T), xs[i]? = some x → TRel tb H β σ u (seg cs (i * sz tb u) (sz tb u)) x) → xs.length ≤ maxN → TRel tb H β σ t [.slice (some ⟨b, off, none⟩) xs.length xs.length] (.tsl xs)
  | mp {t k u v} {i : Nat} {es : List (E × List E × Bool)} {e : TypeId} : td tb t = .mp k u → σ[i]? = some (.mp k e es) → td tb u = .sl e → β[i]? = some v → (∃ r, v = .map (some r)) → TRel tb H β σ t [v] (.mp i)

/-- A value and its cells. -/
def VC (tb : Tab) (t : TypeId) (v : Value) (cs : List Value) : Prop := if isAggT tb t then v = .agg cs.toArray else cs = [v]

inductive DRel (tb : Tab) (H : Gh) (β : List Value) (σ : List Blk) : Value → D → Prop
  | t {ty v} {cs : List Value} {x : T} : VC tb ty v cs → TRel tb H β σ ty cs x → DRel tb H β σ v (.t ty x)
  | ptr {i path a} : PtrAt tb β σ i path a → DRel tb H β σ (.pointer (some a)) (.ptr i path)
  | el {u b off} {cs : List Value} {xs : List E} {j path o v} : cs.length = xs.length * sz tb u → (∀ (j : Nat) (v : Value), cs[j]? = some v → H b (off + j) = .pers v) →
      (∀ (i : Nat) (x : E), xs[i]? = some x → Rd tb H u (seg cs (i * sz tb u) (sz tb u)) x) → j < xs.length → offT tb u path = some (o, v) →
      DRel tb H β σ (.pointer (some ⟨b, off + (j * sz tb u + o), none⟩)) (.el u xs j path)
  | asl {i path u off n c} {a : Addr} {m : Nat} : PtrAt tb β σ i path a → (∀ (ty : TypeId) (x : T), σ[i]? = some (.tree ty x) → ∃ o v, offT tb ty path = some (o, v) ∧ td tb v = .arr m u) → off + n ≤ m → n ≤ c → n ≤ maxN →
      DRel tb H β σ (.slice (some ⟨a.block, a.off + off * sz tb u, none⟩) n c) (.asl i path u off n)
  | tup {vs : Array Value} {ds : List D} : vs.size = ds.length → (∀ (i : Nat) (v : Value) (d : D), vs[i]? = some v → ds[i]? = some d → DRel tb H β σ v d) → DRel tb H β σ (.tuple vs) (.tup ds)
  | it {i : Nat} {v : Value} {s pos} : σ[i]? = some (.iter s pos) → β[i]? = some v → DRel tb H β σ v (.it i)
  | kb {ty b} : td tb ty = .bool → DRel tb H β σ (.bool b) (.kb ty b)
  | mel {u i n j path o v} {pa : Option Addr} : offT tb u path = some (o, v) → (∃ (ow : Bool) (xs : List E), σ[i]? = some (.mrow u ow xs) ∧ n ≤ xs.length ∧
      (n = xs.length → j < n → ∃ b c, β[i]? = some (.slice (some ⟨b, 0, none⟩) n c) ∧ pa = some ⟨b, j * sz tb u + o, none⟩)) → DRel tb H β σ (.pointer pa) (.mel u i n j path)
  | tel {u b off} {cs : List Value} {xs : List T} {j} : cs.length = xs.length * sz tb u → (∀ (j : Nat) (v : Value), cs[j]? = some v → H b (off + j) = .pers v) →
      (∀ (i : Nat) (x : T), xs[i]? = some x → TRel tb H β σ u (seg cs (i * sz tb u) (sz tb u)) x) → j < xs.length → DRel tb H β σ (.pointer (some ⟨b, off + j * sz tb u, none⟩)) (.tel u xs j)
  | any {v} : DRel tb H β σ v .any

def boolAny : D → Option Bool
  | .t _ (.e (.bool b)) => some b
  | .kb _ b => some b
  | _ => none

/-- What the temporaries hold: the newest entry counts; of the others nothing is known. -/
abbrev Env := List (Nat × D)
def getD : Env → Nat → D
  | [], _ => .any
  | (k, d) :: r, t => match Nat.beq k t with
    | true => d
    | false => getD r t

/-- The package's variables stand as they were laid. -/
def GlRel (tb : Tab) (H : Gh) : Prop := ∀ g ty x, (g, ty, x) ∈ tb.gl → ∃ cs : List Value, cs.length = sz tb ty ∧ Rd tb H ty cs x ∧ ∀ (j : Nat) v, cs[j]? = some v → H g j = .pers v
theorem GlRel.nil {tb : Tab} {H : Gh} (h : tb.gl = []) : GlRel tb H := fun g ty x hm => by rw [h] at hm; cases hm

def EnvRel (tb : Tab) (H : Gh) (β : List Value) (σ : List Blk) (n : Nat) (a : Act) (env : Env) : Prop :=
  (a.tmps.size = n ∧ GlRel tb H) ∧ ∀ t, DRel tb H β σ (a.tmps.getD t undef) (getD env t)

/-- The cells of a list's elements. -/
structure RowC (tb : Tab) (H : Gh) (u : TypeId) (cs : List Value) (xs : List E) : Prop where
  len : cs.length = xs.length * sz tb u
  el : ∀ (i : Nat) (x : E), xs[i]? = some x → Rd tb H u (seg cs (i * sz tb u) (sz tb u)) x

def MRel (tb : Tab) (H : Gh) (w : World) (i : Nat) (bv : Value) (ety : TypeId) (o : Bool) (xs : List E) : Prop := match o with
  | true => (∃ a : Option (Nat × Nat), bv = .slice (a.map fun p => ⟨p.1, p.2, none⟩) 0 0 ∧ xs = [] ∧ (td tb ety = .int .u8 → a = none)) ∨ ∃ b c cs zs, bv = .slice (some ⟨b, 0, none⟩) xs.length c ∧ (xs.length ≤ c ∧ 0 < c) ∧ xs.length ≤ maxN ∧ RowC tb H ety cs xs ∧ (cs ++ zs).length = c * sz tb ety ∧
      (0 < c * sz tb ety → w.shape? b = some (ety, c * sz tb ety)) ∧
      (∀ (j : Nat) (v : Value), (cs ++ zs)[j]? = some v → w.cell? ⟨b, j, none⟩ = some v ∧ H b j = .mine i ∧ w.frozen? ⟨b, j, none⟩ = false)
  | false => ∀ t, td tb t = .sl ety → Rd tb H t [bv] (.sl xs)

/-- What is no row of cells: it turns as a whole. -/
def _root_.Go.Obj.isObj : Obj → Bool
  | .stringIter _ _ => true
  | .map _ _ => true
  | _ => false
/-- A row's spare room is a block's own. -/
def RowR (tb : Tab) (H : Gh) (w : World) (i : Nat) (bv : Value) (ety : TypeId) (n : Nat) : Prop :=
  (bv = .slice none 0 0 ∧ n = 0) ∨ ∃ b off c, bv = .slice (some ⟨b, off, none⟩) n c ∧ n ≤ c ∧
      ∀ j, n * sz tb ety ≤ j → j < c * sz tb ety → (∃ v, w.cell? ⟨b, off + j, none⟩ = some v) ∧ H b (off + j) = .mine i ∧ w.frozen? ⟨b, off + j, none⟩ = false
/-- A cell of a slice's spare room. -/
def Spare (tb : Tab) (e : TypeId) (v : Value) (n b o : Nat) : Prop := ∃ off c, v = .slice (some ⟨b, off, none⟩) n c ∧ off + n * sz tb e ≤ o ∧ o < off + c * sz tb e
/-- An entry of a map of lists: its key, its list, and whether the list's spare room is the map's own. -/
def EntRel (tb : Tab) (H : Gh) (w : World) (i : Nat) (k e : TypeId) (m : MapEntry) (x : E × List E × Bool) : Prop :=
  (∃ cs, VC tb k m.key cs ∧ Rd tb H k cs x.1) ∧ (∀ t, td tb t = .sl e → Rd tb H t [m.val] (.sl x.2.1)) ∧ (x.2.2 = true → RowR tb H w i m.val e x.2.1.length)
/-- A map of lists. -/
def MpRel (tb : Tab) (H : Gh) (w : World) (i : Nat) (bv : Value) (k e : TypeId) (es : List (E × List E × Bool)) : Prop :=
  ∃ (r : Nat) (ms : List MapEntry), bv = .map (some r) ∧ w.heap[r]? = some (.map ms.toArray ms.length) ∧ (∀ o, H r o = .mine i) ∧ ms.length = es.length ∧
    (∀ (j : Nat) (m : MapEntry) (x : E × List E × Bool), ms[j]? = some m → es[j]? = some x → m.born = j ∧ EntRel tb H w i k e m x) ∧
    (∀ (j j' : Nat) (m m' : MapEntry) (x x' : E × List E × Bool), j ≠ j' → ms[j]? = some m → es[j]? = some x → ms[j']? = some m' → es[j']? = some x' → x.2.2 = true → x'.2.2 = true → ∀ b o, ¬ (Spare tb e m.val x.2.1.length b o ∧ Spare tb e m'.val x'.2.1.length b o))
def BlkRel (tb : Tab) (H : Gh) (β : List Value) (σ : List Blk) (w : World) (i : Nat) (bv : Value) : Blk → Prop
  | .tree ty x => ∃ b off cs, bv = .pointer (some ⟨b, off, none⟩) ∧ cs.length = sz tb ty ∧ (0 < sz tb ty → off = 0 ∧ w.shape? b = some (ty, sz tb ty)) ∧
      (∀ j v, cs[j]? = some v → w.cell? ⟨b, off + j, none⟩ = some v ∧ H b (off + j) = .mine i ∧ w.frozen? ⟨b, off + j, none⟩ = false) ∧ TRel tb H β σ ty cs x
  | .row ety n => (bv = .slice none 0 0 ∧ n = 0) ∨ ∃ b off c, bv = .slice (some ⟨b, off, none⟩) n c ∧ n ≤ c ∧
      ∀ j, n * sz tb ety ≤ j → j < c * sz tb ety → (∃ v, w.cell? ⟨b, off + j, none⟩ = some v) ∧ H b (off + j) = .mine i ∧ w.frozen? ⟨b, off + j, none⟩ = false
  | .iter s pos => ∃ r, bv = .pointer (some ⟨r, 0, none⟩) ∧ w.heap[r]? = some (.stringIter ⟨⟨s⟩⟩ pos) ∧ (∀ o, H r o = .mine i)
  | .dead => True
  | .mrow ety o xs => MRel tb H w i bv ety o xs
  | .mp k e es => MpRel tb H w i bv k e es

structure Rel (tb : Tab) (H : Gh) (β : List Value) (σ : List Blk) (w : World) : Prop where
  pers : ∀ b o v, H b o = .pers v → w.cell? ⟨b, o, none⟩ = some v
  dom : ∀ b o, H b o ≠ .none → b < w.heap.size
  len : β.length = σ.length
  blk : ∀ i k bv, σ[i]? = some k → β[i]? = some bv → BlkRel tb H β σ w i bv k

/-- From one world to a later one: what is nobody's own here has not turned. -/
structure Stp (H : Gh) (w : World) (H' : Gh) (w' : World) : Prop where
  os : w'.os = w.os
  tape : w'.tape = w.tape
  output : w'.output = w.output
  size : w.heap.size ≤ w'.heap.size
  gh : ∀ b, b < w.heap.size → ∀ o, (∀ i, H b o ≠ .mine i) → H' b o = H b o
  own : ∀ b, b < w.heap.size → ∀ o i, H' b o = .mine i → ∃ k, H b o = .mine k
  blk : ∀ b, b < w.heap.size → (∀ o i, H b o ≠ .mine i) → w'.heap[b]? = w.heap[b]?
  cell : ∀ b, b < w.heap.size → ∀ o, (∀ i, H b o ≠ .mine i) → w'.cell? ⟨b, o, none⟩ = w.cell? ⟨b, o, none⟩
  frz : ∀ b, b < w.heap.size → ∀ o v, w.cell? ⟨b, o, none⟩ = some v → (∀ i, H b o ≠ .mine i) → w'.frozen? ⟨b, o, none⟩ = w.frozen? ⟨b, o, none⟩
  shp : ∀ b, b < w.heap.size → w'.shape? b = w.shape? b

theorem Stp.refl (H : Gh) (w : World) : Stp H w H w :=
  ⟨rfl, rfl, rfl, Nat.le_refl _, fun _ _ _ _ => rfl, fun _ _ _ i h => ⟨i, h⟩, fun _ _ _ => rfl, fun _ _ _ _ => rfl, fun _ _ _ _ _ _ => rfl, fun _ _ => rfl⟩

theorem Stp.trans {H H1 H2 : Gh} {w w1 w2 : World} (h : Stp H w H1 w1) (k : Stp H1 w1 H2 w2) : Stp H w H2 w2 := by
  have nm : ∀ b, b < w.heap.size → ∀ o, (∀ i, H b o ≠ .mine i) → ∀ i, H1 b o ≠ .mine i := fun b hb o hn i he => by
    rw [h.gh b hb o hn] at he; exact hn i he
  have lt : ∀ b, b < w.heap.size → b < w1.heap.size := fun b hb => Nat.lt_of_lt_of_le hb h.size
  refine ⟨k.os.trans h.os, k.tape.trans h.tape, k.output.trans h.output, Nat.le_trans h.size k.size, ?_, ?_, ?_, ?_, ?_, fun b hb => (k.shp b (lt b hb)).trans (h.shp b hb)⟩
  · exact fun b hb o hn => (k.gh b (lt b hb) o (nm b hb o hn)).trans (h.gh b hb o hn)
  · intro b hb o i he
    obtain ⟨j, hj⟩ := k.own b (lt b hb) o i he
    exact h.own b hb o j hj
  · exact fun b hb hn => (k.blk b (lt b hb) (fun o => nm b hb o (hn o))).trans (h.blk b hb hn)
  · exact fun b hb o hn => (k.cell b (lt b hb) o (nm b hb o hn)).trans (h.cell b hb o hn)
  · exact fun b hb o v hv hn => (k.frz b (lt b hb) o v ((h.cell b hb o hn).trans hv) (nm b hb o hn)).trans (h.frz b hb o v hv hn)


/-- How ghost, bases and blocks may go on while what was known of values stays true. -/
structure Ev (H : Gh) (β : List Value) (σ : List Blk) (H' : Gh) (β' : List Value) (σ' : List Blk) : Prop where
  pers : ∀ b o v, H b o = .pers v → H' b o = .pers v
  tree : ∀ (i : Nat) (ty : TypeId) (x : T), σ[i]? = some (.tree ty x) → β'[i]? = β[i]? ∧ ∃ x', σ'[i]? = some (.tree ty x')
  row : ∀ (i : Nat) (ety : TypeId) (n : Nat), σ[i]? = some (.row ety n) → ∃ n', σ'[i]? = some (.row ety n') ∧ n ≤ n' ∧ (n' = n → β'[i]? = β[i]?)
  iter : ∀ (i : Nat) (s : List UInt8) (p : Nat), σ[i]? = some (.iter s p) → β'[i]? = β[i]? ∧ ∃ s' p', σ'[i]? = some (.iter s' p')
  mrow : ∀ (i : Nat) (ety : TypeId) (o : Bool) (xs : List E), σ[i]? = some (.mrow ety o xs) → ∃ o' xs', σ'[i]? = some (.mrow ety o' xs') ∧ xs.length ≤ xs'.length ∧ (xs'.length = xs.length → β'[i]? = β[i]?)
  mp : ∀ (i : Nat) (k e : TypeId) (es : List (E × List E × Bool)), σ[i]? = some (.mp k e es) → β'[i]? = β[i]? ∧ ∃ es', σ'[i]? = some (.mp k e es')

theorem Ev.refl (H : Gh) (β : List Value) (σ : List Blk) : Ev H β σ H β σ :=
  ⟨fun _ _ _ h => h, fun _ _ x h => ⟨rfl, x, h⟩, fun _ _ n h => ⟨n, h, Nat.le_refl _, fun _ => rfl⟩, fun _ s p h => ⟨rfl, s, p, h⟩, fun _ _ o xs h => ⟨o, xs, h, Nat.le_refl _, fun _ => rfl⟩, fun _ _ _ es h => ⟨rfl, es, h⟩⟩

theorem Ev.trans {H β σ H1 β1 σ1 H2 β2 σ2} (h : Ev H β σ H1 β1 σ1) (k : Ev H1 β1 σ1 H2 β2 σ2) : Ev H β σ H2 β2 σ2 := by
  refine ⟨fun b o v e => k.pers b o v (h.pers b o v e), ?_, ?_, ?_, ?_, ?_⟩
  · intro i ty x e
    obtain ⟨e1, x1, f1⟩ := h.tree i ty x e
    obtain ⟨e2, x2, f2⟩ := k.tree i ty x1 f1
    exact ⟨e2.trans e1, x2, f2⟩
  · intro i ety n e
    obtain ⟨n1, f1, l1, g1⟩ := h.row i ety n e
    obtain ⟨n2, f2, l2, g2⟩ := k.row i ety n1 f1
    refine ⟨n2, f2, Nat.le_trans l1 l2, fun he => ?_⟩
    have a : n1 = n := by omega
    have b : n2 = n1 := by omega
    exact (g2 b).trans (g1 a)
  · intro i s p e
    obtain ⟨e1, s1, p1, f1⟩ := h.iter i s p e
    obtain ⟨e2, s2, p2, f2⟩ := k.iter i s1 p1 f1
    exact ⟨e2.trans e1, s2, p2, f2⟩
  · intro i ety o xs e
    obtain ⟨o1, xs1, f1, l1, g1⟩ := h.mrow i ety o xs e
    obtain ⟨o2, xs2, f2, l2, g2⟩ := k.mrow i ety o1 xs1 f1
    refine ⟨o2, xs2, f2, Nat.le_trans l1 l2, fun he => ?_⟩
    have a : xs1.length = xs.length := by omega
    have b : xs2.length = xs1.length := by omega
    exact (g2 b).trans (g1 a)
  · intro i k0 e0 es e
    obtain ⟨e1, es1, f1⟩ := h.mp i k0 e0 es e
    obtain ⟨e2, es2, f2⟩ := k.mp i k0 e0 es1 f1
    exact ⟨e2.trans e1, es2, f2⟩

theorem Rd.mono {tb : Tab} {H H' : Gh} (h : ∀ b o v, H b o = .pers v → H' b o = .pers v) {t cs x} (r : Rd tb H t cs x) : Rd tb H' t cs x := by
  induction r with
  | int a b => exact .int a b
  | bool a => exact .bool a
  | str a b => exact .str a b
  | nilp a => exact .nilp a
  | nilf a => exact .nilf a
  | nili a => exact .nili a
  | nilm a => exact .nilm a
  | st a b c _ ih => exact .st a b c ih
  | arr a b c _ ih => exact .arr a b c ih
  | sl0 a => exact .sl0 a
  | sl a b c _ e f ih => exact .sl a b (fun j v hj => h _ _ _ (c j v hj)) ih e f
  | ifc a b _ ih => exact .ifc a b ih

theorem PtrAt.mono {tb H β σ H' β' σ'} (h : Ev H β σ H' β' σ') {i path a} (r : PtrAt tb β σ i path a) : PtrAt tb β' σ' i path a := by
  obtain ⟨b, off, ty, x, o, u, e1, e2, e3, e4⟩ := r
  obtain ⟨f1, x', f2⟩ := h.tree i ty x e2
  exact ⟨b, off, ty, x', o, u, f1.trans e1, f2, e3, e4⟩

theorem TRel.mono {tb H β σ H' β' σ'} (h : Ev H β σ H' β' σ') {t cs x} (r : TRel tb H β σ t cs x) : TRel tb H' β' σ' t cs x := by
  induction r with
  | e a => exact .e (a.mono h.pers)
  | st a b c _ ih => exact .st a b c ih
  | arr a b c _ ih => exact .arr a b c ih
  | nsl a => exact .nsl a
  | bsl a b => exact .bsl a (b.mono h.pers)
  | lsl a b c =>
    obtain ⟨n, c1, c2, c3⟩ := c
    obtain ⟨n', d1, d2, d3⟩ := h.row _ _ n c1
    refine .lsl a (b.mono h.pers) ⟨n', d1, Nat.le_trans c2 d2, fun he => ?_⟩
    have : n' = n := by omega
    exact (d3 this).trans (c3 (by omega))
  | ptr a b => exact .ptr a (b.mono h)
  | fn a b c => exact .fn a b (fun i x y hx hy => (c i x y hx hy).mono h)
  | msl a b c =>
    obtain ⟨o, xs, c1, c2, c3⟩ := c
    obtain ⟨o', xs', d1, d2, d3⟩ := h.mrow _ _ o xs c1
    refine .msl a b ⟨o', xs', d1, Nat.le_trans c2 d2, fun he => ?_⟩
    have : xs'.length = xs.length := by omega
    exact (d3 this).trans (c3 (by omega))
  | tsl a b c _ e ih => exact .tsl a b (fun j v hj => h.pers _ _ _ (c j v hj)) ih e
  | mp a b c d e =>
    obtain ⟨e1, es', f⟩ := h.mp _ _ _ _ b
    exact .mp a f c (e1.trans d) e

theorem DRel.mono {tb H β σ H' β' σ'} (h : Ev H β σ H' β' σ') {v d} (r : DRel tb H β σ v d) : DRel tb H' β' σ' v d := by
  induction r with
  | t a b => exact .t a (b.mono h)
  | ptr a => exact .ptr (a.mono h)
  | el a b c d e => exact .el a (fun j v hj => h.pers _ _ _ (b j v hj)) (fun i x hx => (c i x hx).mono h.pers) d e
  | @asl i path u off n c a m ha hb hc hd hm =>
    refine .asl (m := m) (ha.mono h) (fun ty x hx => ?_) hc hd hm
    obtain ⟨b0, off0, ty0, x0, o0, u0, e1, e2, e3, e4⟩ := ha
    obtain ⟨f1, x', f2⟩ := h.tree i ty0 x0 e2
    rw [f2] at hx
    simp only [Option.some.injEq, Blk.tree.injEq] at hx
    obtain ⟨rfl, rfl⟩ := hx
    exact hb ty0 x0 e2
  | tup a _ ih => exact .tup a ih
  | it a b =>
    obtain ⟨e1, s', p', f⟩ := h.iter _ _ _ a
    exact .it f (e1.trans b)
  | kb a => exact .kb a
  | mel a b =>
    obtain ⟨o, xs, c1, c2, c3⟩ := b
    obtain ⟨o', xs', d1, d2, d3⟩ := h.mrow _ _ o xs c1
    refine .mel a ⟨o', xs', d1, Nat.le_trans c2 d2, fun he hj => ?_⟩
    have : xs'.length = xs.length := by omega
    obtain ⟨b, c, e1, e2⟩ := c3 (by omega) hj
    exact ⟨b, c, (d3 this).trans e1, e2⟩
  | tel a b c d => exact .tel a (fun j v hj => h.pers _ _ _ (b j v hj)) (fun i x hx => (c i x hx).mono h) d
  | any => exact .any

theorem GlRel.mono {tb : Tab} {H H' : Gh} (h : GlRel tb H) (hp : ∀ b o v, H b o = .pers v → H' b o = .pers v) : GlRel tb H' := fun g ty x hm => by
  obtain ⟨cs, h0, h1, h2⟩ := h g ty x hm
  exact ⟨cs, h0, h1.mono hp, fun j v hj => hp _ _ _ (h2 j v hj)⟩
theorem EnvRel.mono {tb H β σ H' β' σ'} (h : Ev H β σ H' β' σ') {n a env} (r : EnvRel tb H β σ n a env) : EnvRel tb H' β' σ' n a env :=
  ⟨⟨r.1.1, r.1.2.mono h.pers⟩, fun t => (r.2 t).mono h⟩

/-- A block's relation goes on where its own cells have not turned. -/
theorem BlkRel.mono {tb H β σ H' β' σ' w w' i bv k} (h : Ev H β σ H' β' σ')
    (hc : ∀ b o, H b o = .mine i → H' b o = .mine i ∧ w'.cell? ⟨b, o, none⟩ = w.cell? ⟨b, o, none⟩ ∧ (∀ v, w.cell? ⟨b, o, none⟩ = some v → w'.frozen? ⟨b, o, none⟩ = w.frozen? ⟨b, o, none⟩) ∧ w'.shape? b = w.shape? b)
    (hi : ∀ b x, (∀ o, H b o = .mine i) → x.isObj = true → w.heap[b]? = some x → w'.heap[b]? = some x)
    (r : BlkRel tb H β σ w i bv k) : BlkRel tb H' β' σ' w' i bv k := by
  cases k with
  | tree ty x =>
    obtain ⟨b, off, cs, e1, e2, e0, e3, e4⟩ := r
    refine ⟨b, off, cs, e1, e2, fun hz => ?_, fun j v hj => ?_, e4.mono h⟩
    · obtain ⟨z1, z2⟩ := e0 hz
      obtain ⟨f1, f2, f3⟩ := e3 0 _ (List.getElem?_eq_getElem (by omega))
      exact ⟨z1, (hc _ _ f2).2.2.2.trans z2⟩
    · obtain ⟨f1, f2, f3⟩ := e3 j v hj
      obtain ⟨g1, g2, g3, _⟩ := hc _ _ f2
      exact ⟨g2.trans f1, g1, (g3 _ f1).trans f3⟩
  | row ety n =>
    rcases r with r | ⟨b, off, c, e1, e2, e3⟩
    · exact .inl r
    · refine .inr ⟨b, off, c, e1, e2, fun j h1 h2 => ?_⟩
      obtain ⟨⟨v, f1⟩, f2, f3⟩ := e3 j h1 h2
      obtain ⟨g1, g2, g3, _⟩ := hc _ _ f2
      exact ⟨⟨v, g2.trans f1⟩, g1, (g3 _ f1).trans f3⟩
  | iter s pos =>
    obtain ⟨r0, e1, e2, e3⟩ := r
    exact ⟨r0, e1, hi _ _ e3 rfl e2, fun o => (hc _ _ (e3 o)).1⟩
  | dead => trivial
  | mrow ety o xs =>
    cases o with
    | false => exact fun t ht => (r t ht).mono h.pers
    | true =>
      rcases r with r | ⟨b, c, cs, zs, e1, e2, e3, e4, e5, e6, e7⟩
      · exact .inl r
      · refine .inr ⟨b, c, cs, zs, e1, e2, e3, ⟨e4.len, fun j x hx => (e4.el j x hx).mono h.pers⟩, e5, fun hz => ?_, fun j v hj => ?_⟩
        · obtain ⟨f1, f2, f3⟩ := e7 0 _ (List.getElem?_eq_getElem (by omega))
          exact (hc _ _ f2).2.2.2.trans (e6 hz)
        · obtain ⟨f1, f2, f3⟩ := e7 j v hj
          obtain ⟨g1, g2, g3, _⟩ := hc _ _ f2
          exact ⟨g2.trans f1, g1, (g3 _ f1).trans f3⟩
  | mp k e es =>
    obtain ⟨r0, ms, e1, e2, e3, e4, e5, e6⟩ := r
    refine ⟨r0, ms, e1, hi _ _ e3 rfl e2, fun o => (hc _ _ (e3 o)).1, e4, fun j m x hm hx => ?_, e6⟩
    obtain ⟨f1, ⟨kc, f2, f3⟩, f4, f5⟩ := e5 j m x hm hx
    refine ⟨f1, ⟨kc, f2, f3.mono h.pers⟩, fun t ht => (f4 t ht).mono h.pers, fun ho => ?_⟩
    rcases f5 ho with r | ⟨b, off, c, g1, g2, g3⟩
    · exact .inl r
    · refine .inr ⟨b, off, c, g1, g2, fun j h1 h2 => ?_⟩
      obtain ⟨⟨v, k1⟩, k2, k3⟩ := g3 j h1 h2
      obtain ⟨z1, z2, z3, _⟩ := hc _ _ k2
      exact ⟨⟨v, z2.trans k1⟩, z1, (z3 _ k1).trans k3⟩

end Go.Den
/- The calculus: a triple over Go.Code that speaks of data alone (V), and its rules for control. -/
namespace Go.Den
open Go

inductive X where
  | nrm | ext (id : Nat) | ret
  deriving DecidableEq

def xOf : Exit → Option X
  | .normal => some .nrm
  | .exit id => some (.ext id)
  | .ret => some .ret
  | _ => none

abbrev Post := X → Env → List Blk → Prop

/-- What stays the same in one function: the program, its types, how many blocks came in, how many temporaries there are. -/
structure Cx where
  P : Program
  tb : Tab
  k0 : Nat
  n : Nat
  bt : TypeId

/-- The first blocks (those that came in) keep their places. -/
structure Kp (k0 : Nat) (β : List Value) (σ : List Blk) (β' : List Value) (σ' : List Blk) : Prop where
  tree : ∀ i, i < k0 → ∀ (ty : TypeId) (x : T), σ[i]? = some (.tree ty x) → β'[i]? = β[i]? ∧ ∃ x', σ'[i]? = some (.tree ty x')
  row : ∀ i, i < k0 → ∀ (ety : TypeId) (n : Nat), σ[i]? = some (.row ety n) → ∃ n', σ'[i]? = some (.row ety n') ∧ n ≤ n' ∧ (n' = n → β'[i]? = β[i]?)
  iter : ∀ i, i < k0 → ∀ (s : List UInt8) (p : Nat), σ[i]? = some (.iter s p) → β'[i]? = β[i]? ∧ ∃ s' p', σ'[i]? = some (.iter s' p')
  mrow : ∀ i, i < k0 → ∀ (ety : TypeId) (o : Bool) (xs : List E), σ[i]? = some (.mrow ety o xs) → ∃ o' xs', σ'[i]? = some (.mrow ety o' xs') ∧ xs.length ≤ xs'.length ∧ (xs'.length = xs.length → β'[i]? = β[i]?)
  mp : ∀ i, i < k0 → ∀ (k e : TypeId) (es : List (E × List E × Bool)), σ[i]? = some (.mp k e es) → β'[i]? = β[i]? ∧ ∃ es', σ'[i]? = some (.mp k e es')

theorem Kp.refl (k0 : Nat) (β : List Value) (σ : List Blk) : Kp k0 β σ β σ := ⟨fun _ _ _ x h => ⟨rfl, x, h⟩, fun _ _ _ n h => ⟨n, h, Nat.le_refl _, fun _ => rfl⟩, fun _ _ s p h => ⟨rfl, s, p, h⟩, fun _ _ _ o xs h => ⟨o, xs, h, Nat.le_refl _, fun _ => rfl⟩, fun _ _ _ _ es h => ⟨rfl, es, h⟩⟩
theorem Kp.trans {k0 β σ β1 σ1 β2 σ2} (h : Kp k0 β σ β1 σ1) (k : Kp k0 β1 σ1 β2 σ2) : Kp k0 β σ β2 σ2 := by
  refine ⟨fun i hi ty x e => ?_, fun i hi ety n e => ?_, fun i hi s p e => ?_, fun i hi ety o xs e => ?_, fun i hi k0 e0 es e => ?_⟩
  · obtain ⟨e1, x1, f1⟩ := h.tree i hi ty x e
    obtain ⟨e2, x2, f2⟩ := k.tree i hi ty x1 f1
    exact ⟨e2.trans e1, x2, f2⟩
  · obtain ⟨n1, f1, l1, g1⟩ := h.row i hi ety n e
    obtain ⟨n2, f2, l2, g2⟩ := k.row i hi ety n1 f1
    refine ⟨n2, f2, Nat.le_trans l1 l2, fun he => ?_⟩
    have a : n1 = n := by omega
    have b : n2 = n1 := by omega
    exact (g2 b).trans (g1 a)
  · obtain ⟨e1, s1, p1, f1⟩ := h.iter i hi s p e
    obtain ⟨e2, s2, p2, f2⟩ := k.iter i hi s1 p1 f1
    exact ⟨e2.trans e1, s2, p2, f2⟩
  · obtain ⟨o1, xs1, f1, l1, g1⟩ := h.mrow i hi ety o xs e
    obtain ⟨o2, xs2, f2, l2, g2⟩ := k.mrow i hi ety o1 xs1 f1
    refine ⟨o2, xs2, f2, Nat.le_trans l1 l2, fun he => ?_⟩
    have a : xs1.length = xs.length := by omega
    have b : xs2.length = xs1.length := by omega
    exact (g2 b).trans (g1 a)
  · obtain ⟨e1, es1, f1⟩ := h.mp i hi k0 e0 es e
    obtain ⟨e2, es2, f2⟩ := k.mp i hi k0 e0 es1 f1
    exact ⟨e2.trans e1, es2, f2⟩
theorem Ev.kp {H β σ H' β' σ'} (h : Ev H β σ H' β' σ') (k0 : Nat) : Kp k0 β σ β' σ' := ⟨fun i _ ty x e => h.tree i ty x e, fun i _ u n e => h.row i u n e, fun i _ s p e => h.iter i s p e, fun i _ u o xs e => h.mrow i u o xs e, fun i _ k e es h' => h.mp i k e es h'⟩

structure Res (C : Cx) (H : Gh) (β : List Value) (σ : List Blk) (w : World) (a' : Act) (w' : World) (env' : Env) (σ' : List Blk) (H' : Gh) (β' : List Value) : Prop where
  rel : Rel C.tb H' β' σ' w'
  env : EnvRel C.tb H' β' σ' C.n a' env'
  defers : a'.defers = []
  stp : Stp H w H' w'
  kp : Kp C.k0 β σ β' σ'

def lift (C : Cx) (H : Gh) (β : List Value) (σ : List Blk) (w : World) (Q : Post) : Exit → Act → World → Prop :=
  fun e a' w' => ∃ x, xOf e = some x ∧ ∃ env' σ' H' β', Q x env' σ' ∧ Res C H β σ w a' w' env' σ' H' β'

theorem lift.trans {C H β σ w H1 β1 σ1 w1 Q e a w'} (hs : Stp H w H1 w1) (hk : Kp C.k0 β σ β1 σ1)
    (h : lift C H1 β1 σ1 w1 Q e a w') : lift C H β σ w Q e a w' := by
  obtain ⟨x, hx, env', σ', H', β', hq, r⟩ := h
  exact ⟨x, hx, env', σ', H', β', hq, r.rel, r.env, r.defers, hs.trans r.stp, hk.trans r.kp⟩

def V (C : Cx) (c : Code) (env : Env) (σ : List Blk) (Q : Post) : Prop :=
  ∀ H β a w, Rel C.tb H β σ w → EnvRel C.tb H β σ C.n a env → a.defers = [] → c.wp C.P (lift C H β σ w Q) a w

section
variable {C : Cx} {env : Env} {σ : List Blk} {Q Q' : Post}

theorem V.mono {c : Code} (h : V C c env σ Q) (hq : ∀ x e s, Q x e s → Q' x e s) : V C c env σ Q' :=
  fun H β a w hr he hd => wp_mono (h H β a w hr he hd) fun _ _ _ ⟨x, hx, env', σ', H', β', q, r⟩ => ⟨x, hx, env', σ', H', β', hq _ _ _ q, r⟩

def thenP (K : Env → List Blk → Prop) (Q : Post) : Post := fun x e s => match x with
  | .nrm => K e s
  | x => Q x e s

theorem V_seq {c d : Code} (h : V C c env σ (thenP (fun e s => V C d e s Q) Q)) : V C (.seq c d) env σ Q := by
  intro H β a w hr he hd
  refine wp_seq (wp_mono (h H β a w hr he hd) ?_)
  rintro e a' w' ⟨x, hx, env', σ', H', β', q, r⟩
  cases e with
  | normal =>
    cases hx
    exact wp_mono (q H' β' a' w' r.rel r.env r.defers) fun _ _ _ hl => hl.trans r.stp r.kp
  | exit id => cases hx; exact ⟨_, rfl, env', σ', H', β', q, r⟩
  | ret => cases hx; exact ⟨_, rfl, env', σ', H', β', q, r⟩
  | goto l => cases hx
  | panic ch => cases hx
  | outgrown => cases hx

theorem lift.here {H β w a x e'} (hr : Rel C.tb H β σ w) (he : EnvRel C.tb H β σ C.n a env) (hd : a.defers = []) (hx : xOf e' = some x) (q : Q x env σ) :
    lift C H β σ w Q e' a w := ⟨x, hx, env, σ, H, β, q, hr, he, hd, .refl _ _, .refl _ _ _⟩

theorem V_skip (h : Q .nrm env σ) : V C .skip env σ Q := fun _ _ _ _ hr he hd => wp_skip (lift.here hr he hd rfl h)
theorem V_ret (h : Q .ret env σ) : V C .ret env σ Q := fun _ _ _ _ hr he hd => wp_ret (lift.here hr he hd rfl h)
theorem V_exit {id : Nat} (h : Q (.ext id) env σ) : V C (.exit id) env σ Q := fun _ _ _ _ hr he hd => wp_exit (lift.here hr he hd rfl h)

def blockP (id : Nat) (Q : Post) : Post := fun x e s => match x with
  | .ext j => if j = id then Q .nrm e s else Q (.ext j) e s
  | x => Q x e s

theorem V_block {id : Nat} {c : Code} (h : V C c env σ (blockP id Q)) : V C (.block id c) env σ Q := by
  intro H β a w hr he hd
  refine wp_block (wp_mono (h H β a w hr he hd) ?_)
  rintro e a' w' ⟨x, hx, env', σ', H', β', q, r⟩
  cases e with
  | normal => cases hx; exact ⟨_, rfl, env', σ', H', β', q, r⟩
  | exit j =>
    cases hx
    by_cases hj : j = id
    · subst hj
      simp only [Exit.inBlock, if_true]
      simp only [blockP, if_true] at q
      exact ⟨_, rfl, env', σ', H', β', q, r⟩
    · simp only [Exit.inBlock, if_neg hj]
      simp only [blockP, if_neg hj] at q
      exact ⟨_, rfl, env', σ', H', β', q, r⟩
  | ret => cases hx; exact ⟨_, rfl, env', σ', H', β', q, r⟩
  | goto l => cases hx
  | panic ch => cases hx
  | outgrown => cases hx

theorem EnvRel.get {tb H β n a} (h : EnvRel tb H β σ n a env) (t : Nat) : DRel tb H β σ (a.tmps.getD t undef) (getD env t) := h.2 t

/-- A bool in a temporary. -/
theorem boolAny_rel {tb H β v d b} (hv : DRel tb H β σ v d) (h : boolAny d = some b) : v = .bool b := by
  unfold boolAny at h
  split at h
  · cases h
    cases hv with
    | t a b =>
      cases b with
      | e r =>
        cases r with
        | bool hb => have a' := a; simp [VC, isAggT, hb] at a'; exact a'.symm
  · cases h; cases hv with | kb a => rfl
  · cases h

theorem V_cond {t : Nat} {b : Bool} {c d : Code} (hb : boolAny (getD env t) = some b)
    (ht : b = true → V C c env σ Q) (hf : b = false → V C d env σ Q) : V C (.cond (.tmp t) c d) env σ Q := by
  intro H β a w hr he hd
  have hv := boolAny_rel (he.get t) hb
  refine wp_cond_split (t := b) hv (fun h => ht h H β a w hr he hd) (fun h => hf h H β a w hr he hd)


end
mutual
def T.under (k : Nat) : T → Bool
  | .e _ | .nsl | .bsl _ => true
  | .st xs => T.unders k xs
  | .lsl i _ => i < k
  | .ptr i _ => i < k
  | .fn _ caps => caps.all fun c => c.1 < k
  | .msl i _ => i < k
  | .tsl xs => T.unders k xs
  | .mp i => i < k
def T.unders (k : Nat) : List T → Bool
  | [] => true
  | x :: xs => T.under k x && T.unders k xs
end
mutual
def D.under (k : Nat) : D → Bool
  | .t _ x => x.under k
  | .ptr i _ | .asl i _ _ _ _ | .it i => i < k
  | .el .. | .any | .kb .. => true
  | .mel _ i _ _ _ => i < k
  | .tel _ xs _ => T.unders k xs
  | .tup xs => D.unders k xs
def D.unders (k : Nat) : List D → Bool
  | [] => true
  | x :: xs => D.under k x && D.unders k xs
end
def Blk.under (k : Nat) : Blk → Bool
  | .tree _ x => x.under k
  | _ => true

theorem T.unders_get {k : Nat} : ∀ {xs : List T}, T.unders k xs = true → ∀ (i : Nat) (x : T), xs[i]? = some x → x.under k = true
  | [], _, i, x, h => by simp at h
  | y :: ys, hb, i, x, h => by
    simp only [T.unders, Bool.and_eq_true] at hb
    cases i with
    | zero => simp at h; exact h ▸ hb.1
    | succ i => exact T.unders_get hb.2 i x (by simpa using h)
theorem D.unders_get {k : Nat} : ∀ {xs : List D}, D.unders k xs = true → ∀ (i : Nat) (x : D), xs[i]? = some x → x.under k = true
  | [], _, i, x, h => by simp at h
  | y :: ys, hb, i, x, h => by
    simp only [D.unders, Bool.and_eq_true] at hb
    cases i with
    | zero => simp at h; exact h ▸ hb.1
    | succ i => exact D.unders_get hb.2 i x (by simpa using h)

theorem PtrAt.cut {tb β σ τ i path a} (hi : i < σ.length) (h : PtrAt tb β (σ ++ τ) i path a) : PtrAt tb (β.take σ.length) σ i path a := by
  obtain ⟨b, off, ty, x, o, u, e1, e2, e3, e4⟩ := h
  exact ⟨b, off, ty, x, o, u, by rw [List.getElem?_take_of_lt hi]; exact e1, by rwa [List.getElem?_append_left hi] at e2, e3, e4⟩

theorem TRel.cut {tb H β σ τ t cs x} (h : TRel tb H β (σ ++ τ) t cs x) : x.under σ.length = true → TRel tb H (β.take σ.length) σ t cs x := by
  induction h with
  | e a => exact fun _ => .e a
  | st a b c _ ih => exact fun hb => .st a b c fun i f x hf hx => ih i f x hf hx (T.unders_get hb i x hx)
  | arr a b c _ ih => exact fun hb => .arr a b c fun i x hx => ih i x hx (T.unders_get hb i x hx)
  | nsl a => exact fun _ => .nsl a
  | bsl a b => exact fun _ => .bsl a b
  | @lsl t u v i xs a b c =>
    intro hb
    have hi : i < σ.length := by simpa [T.under] using hb
    obtain ⟨n, c1, c2, c3⟩ := c
    rw [List.getElem?_append_left hi] at c1
    exact .lsl a b ⟨n, c1, c2, fun e => by rw [List.getElem?_take_of_lt hi]; exact c3 e⟩
  | ptr a b => exact fun hb => .ptr a (b.cut (by simpa [T.under] using hb))
  | @fn t f caps ads a b c =>
    intro hb
    refine .fn a b fun i p q hp hq => (c i p q hp hq).cut ?_
    have := List.all_eq_true.1 hb p (List.mem_of_getElem? hp)
    simpa using this
  | @msl t u v i n a b c =>
    intro hb
    have hi : i < σ.length := by simpa [T.under] using hb
    obtain ⟨o, xs, c1, c2, c3⟩ := c
    rw [List.getElem?_append_left hi] at c1
    exact .msl a b ⟨o, xs, c1, c2, fun e => by rw [List.getElem?_take_of_lt hi]; exact c3 e⟩
  | tsl a b c _ e ih => exact fun hb => .tsl a b c (fun i x hx => ih i x hx (T.unders_get hb i x hx)) e
  | @mp t k u v i es e a b c d f =>
    intro hb
    have hi : i < σ.length := by simpa [T.under] using hb
    rw [List.getElem?_append_left hi] at b
    exact .mp a b c (by rw [List.getElem?_take_of_lt hi]; exact d) f

theorem DRel.cut {tb H β σ τ v d} (h : DRel tb H β (σ ++ τ) v d) : d.under σ.length = true → DRel tb H (β.take σ.length) σ v d := by
  induction h with
  | t a b => exact fun hb => .t a (b.cut hb)
  | ptr a => exact fun hb => .ptr (a.cut (by simpa [D.under] using hb))
  | el a b c d e => exact fun _ => .el a b c d e
  | @asl i path u off n c a m ha hb hc hd hm =>
    intro hbel
    have hi : i < σ.length := by simpa [D.under] using hbel
    exact .asl (m := m) (ha.cut hi) (fun ty x hx => hb ty x (by rw [List.getElem?_append_left hi]; exact hx)) hc hd hm
  | tup a _ ih => exact fun hb => .tup a fun i v d hv hd => ih i v d hv hd (D.unders_get hb i d hd)
  | @it i v s pos a b =>
    intro hb
    have hi : i < σ.length := by simpa [D.under] using hb
    exact .it (by rwa [List.getElem?_append_left hi] at a) (by rw [List.getElem?_take_of_lt hi]; exact b)
  | kb a => exact fun _ => .kb a
  | @mel u i n j path o v pa a b =>
    intro hb
    have hi : i < σ.length := by simpa [D.under] using hb
    obtain ⟨o, xs, c1, c2, c3⟩ := b
    rw [List.getElem?_append_left hi] at c1
    exact .mel a ⟨o, xs, c1, c2, fun e hj => by rw [List.getElem?_take_of_lt hi]; exact c3 e hj⟩
  | tel a b c d => exact fun hb => .tel a b (fun i x hx => (c i x hx).cut (T.unders_get hb i x hx)) d
  | any => exact fun _ => .any

theorem Rel.cut {tb H β σ τ w} (h : Rel tb H β (σ ++ τ) w) (hb : ∀ k ∈ σ, k.under σ.length = true) : Rel tb H (β.take σ.length) σ w := by
  refine ⟨h.pers, h.dom, by have := h.len; simp at this ⊢; omega, fun i k bv hk hv => ?_⟩
  have hi : i < σ.length := (List.getElem?_eq_some_iff.1 hk).1
  rw [List.getElem?_take_of_lt hi] at hv
  have r := h.blk i k bv (by rw [List.getElem?_append_left hi]; exact hk) hv
  have hkb := hb k (List.mem_of_getElem? hk)
  cases k with
  | tree ty x => obtain ⟨b, off, cs, e1, e2, e0, e3, e4⟩ := r; exact ⟨b, off, cs, e1, e2, e0, e3, e4.cut hkb⟩
  | row ety n => exact r
  | iter s p => exact r
  | dead => trivial
  | mrow u o xs => exact r
  | mp k e es => exact r

/-- What a datum may be forgotten to. -/
def leD (k : Nat) (d' d : D) : Prop :=
  d' = .any ∨ (d' = d ∧ d.under k = true) ∨ (∃ ty i xs, d = .t ty (.lsl i xs) ∧ d' = .t ty (.e (.sl xs))) ∨
    (∃ ty, d = .t ty .nsl ∧ d' = .t ty (.e (.sl []))) ∨ (∃ ty xs, d = .t ty (.bsl xs) ∧ d' = .t ty (.e (.sl xs))) ∨ (∃ ty b, d = .kb ty b ∧ d' = .t ty (.e (.bool b)))

theorem DRel.weak {tb H β σ τ v d d'} (h : DRel tb H β (σ ++ τ) v d) (hl : leD σ.length d' d) : DRel tb H (β.take σ.length) σ v d' := by
  rcases hl with rfl | ⟨rfl, hb⟩ | ⟨ty, i, xs, rfl, rfl⟩ | ⟨ty, rfl, rfl⟩ | ⟨ty, xs, rfl, rfl⟩ | ⟨ty, b, rfl, rfl⟩
  · exact .any
  · exact h.cut hb
  · cases h with
    | t a b => cases b with
      | lsl b1 b2 b3 => exact .t a (.e b2)
  · cases h with
    | t a b => cases b with
      | nsl b1 => exact .t a (.e (.sl0 b1))
  · cases h with
    | t a b => cases b with
      | bsl b1 b2 => exact .t a (.e b2)
  · cases h with
    | kb a => exact .t (cs := [.bool b]) (by simp [VC, isAggT, a]) (.e (.bool a))

/-- The entries of 'env'' are, but forgotten, those of 'env'. -/
def leL (k : Nat) : Env → Env → Prop
  | [], _ => True
  | p :: e', e => leD k p.2 (getD e p.1) ∧ leL k e' e

theorem leL_get {k : Nat} : ∀ {e' e : Env}, leL k e' e → ∀ t, leD k (getD e' t) (getD e t)
  | [], _, _, t => .inl rfl
  | (u, d) :: e', e, h, t => by
    have hg : getD ((u, d) :: e') t = match Nat.beq u t with | true => d | false => getD e' t := rfl
    rw [hg]
    cases hb : Nat.beq u t with
    | true => have := Nat.eq_of_beq_eq_true hb; subst this; exact h.1
    | false => exact leL_get h.2 t

structure Weak (k0 : Nat) (env' : Env) (σ' : List Blk) (env : Env) (σ : List Blk) : Prop where
  cut : ∃ τ, σ = σ' ++ τ
  k0 : k0 ≤ σ'.length
  below : ∀ k ∈ σ', k.under σ'.length = true
  env : leL σ'.length env' env

theorem Weak.res {C H β σ w a' w' env1 σ1 H' β' env' σ'} (h : Res C H β σ w a' w' env1 σ1 H' β') (hw : Weak C.k0 env' σ' env1 σ1) :
    Res C H β σ w a' w' env' σ' H' (β'.take σ'.length) := by
  obtain ⟨⟨τ, rfl⟩, hk, hb, hl⟩ := hw
  have ht : ∀ i, i < C.k0 → (β'.take σ'.length)[i]? = β'[i]? := fun i hi => List.getElem?_take_of_lt (Nat.lt_of_lt_of_le hi hk)
  have hs : ∀ i, i < C.k0 → (σ' ++ τ)[i]? = σ'[i]? := fun i hi => List.getElem?_append_left (Nat.lt_of_lt_of_le hi hk)
  refine ⟨h.rel.cut hb, ⟨h.env.1, fun t => (h.env.2 t).weak (leL_get hl t)⟩, h.defers, h.stp, ⟨fun i hi ty x e => ?_, fun i hi u n e => ?_, fun i hi s p e => ?_, fun i hi u o xs e => ?_, fun i hi k0 e0 es e => ?_⟩⟩
  · obtain ⟨e1, x', f⟩ := h.kp.tree i hi ty x e
    rw [hs i hi] at f; rw [ht i hi]; exact ⟨e1, x', f⟩
  · obtain ⟨n', f, g1, g2⟩ := h.kp.row i hi u n e
    rw [hs i hi] at f; rw [ht i hi]; exact ⟨n', f, g1, g2⟩
  · obtain ⟨e1, s', p', f⟩ := h.kp.iter i hi s p e
    rw [hs i hi] at f; rw [ht i hi]; exact ⟨e1, s', p', f⟩
  · obtain ⟨o', xs', f, g1, g2⟩ := h.kp.mrow i hi u o xs e
    rw [hs i hi] at f; rw [ht i hi]; exact ⟨o', xs', f, g1, g2⟩
  · obtain ⟨e1, es', f⟩ := h.kp.mp i hi k0 e0 es e
    rw [hs i hi] at f; rw [ht i hi]; exact ⟨e1, es', f⟩

section
variable {C : Cx} {env : Env} {σ : List Blk} {Q Q' : Post}

theorem V_weak {c : Code} {env' σ'} (hw : Weak C.k0 env' σ' env σ) (h : V C c env' σ' Q) : V C c env σ Q := by
  intro H β a w hr he hd
  have r := hw.res (C := C) (H := H) (β := β) (σ := σ) (w := w) (a' := a) (w' := w) (H' := H) (β' := β) ⟨hr, he, hd, .refl _ _, .refl _ _ _⟩
  exact wp_mono (h H _ a w r.rel r.env hd) fun _ _ _ hl => hl.trans r.stp r.kp

/-- A loop: an invariant with a number that every round lowers. -/
theorem V_loop {c : Code} (I : Nat → Env → List Blk → Prop) (m0 : Nat) (h0 : I m0 env σ)
    (step : ∀ m e s, I m e s → V C c e s (thenP (fun e1 s1 => ∃ m', m' < m ∧ ∃ e' s', Weak C.k0 e' s' e1 s1 ∧ I m' e' s') Q)) :
    V C (.loop c) env σ Q := by
  intro H β a w hr he hd
  refine wp_loop_ghost (fun n a' w' => ∃ e s H' β', I n e s ∧ Res C H β σ w a' w' e s H' β') m0 ⟨env, σ, H, β, h0, hr, he, hd, .refl _ _, .refl _ _ _⟩ ?_
  rintro n a1 w1 ⟨e, s, H1, β1, hI, r⟩
  refine wp_mono (step n e s hI H1 β1 a1 w1 r.rel r.env r.defers) ?_
  rintro ex a2 w2 ⟨x, hx, env2, σ2, H2, β2, q, r2⟩
  have r3 : Res C H β σ w a2 w2 env2 σ2 H2 β2 := ⟨r2.rel, r2.env, r2.defers, r.stp.trans r2.stp, r.kp.trans r2.kp⟩
  cases ex with
  | normal =>
    cases hx
    obtain ⟨m', hm, e', s', hw, hI'⟩ := q
    exact ⟨m', hm, e', s', H2, _, hI', hw.res r3⟩
  | exit id => cases hx; exact ⟨_, rfl, env2, σ2, H2, β2, q, r3⟩
  | ret => cases hx; exact ⟨_, rfl, env2, σ2, H2, β2, q, r3⟩
  | goto l => cases hx
  | panic ch => cases hx
  | outgrown => cases hx

/-! ### Regions -/

def VL (C : Cx) (ops : Array Oper) (l : List Oper) (env : Env) (σ : List Blk) (Q : Post) : Prop :=
  ∀ H β a w, Rel C.tb H β σ w → EnvRel C.tb H β σ C.n a env → a.defers = [] → wpList C.P ops (lift C H β σ w Q) l a w

theorem V_region {id : Nat} {l : List Oper} (h : VL C l.toArray l env σ Q) : V C (.region id l.toArray false) env σ Q :=
  fun H β a w hr he hd => wp_region_lit (h H β a w hr he hd)

theorem VL_nil {ops : Array Oper} (h : Q .nrm env σ) : VL C ops [] env σ Q :=
  fun _ _ _ _ hr he hd => wpList_nil (lift.here hr he hd rfl h)

def putD (env : Env) (dst : Option Tmp) (d : D) : Env := match dst with
  | some t => (t, d) :: env
  | none => env
def dstOk (n : Nat) (dst : Option Tmp) : Bool := match dst with
  | some t => Nat.blt t n
  | none => true

theorem EnvRel.put {tb H β n a} (h : EnvRel tb H β σ n a env) {v d} (hv : DRel tb H β σ v d) {dst : Option Tmp} (hn : dstOk n dst = true) : EnvRel tb H β σ n (a.put dst v) (putD env dst d) := by
  cases dst with
  | none => exact h
  | some t =>
    have hlt : t < n := Nat.le_of_ble_eq_true hn
    refine ⟨by simpa [Act.put] using h.1, fun u => ?_⟩
    simp only [putD, getD, Act.put]
    cases hb : Nat.beq t u with
    | true =>
      have := Nat.eq_of_beq_eq_true hb
      subst this
      simp [h.1, hlt, hv]
    | false =>
      have hu : t ≠ u := Nat.ne_of_beq_eq_false hb
      simpa [Array.getElem?_setIfInBounds_ne hu] using h.2 u

/-- What one operation does. -/
def OpV (C : Cx) (o : Oper) (env : Env) (σ : List Blk) (R : D → List Blk → Prop) : Prop :=
  ∀ H β a w, Rel C.tb H β σ w → EnvRel C.tb H β σ C.n a env → a.defers = [] → ∀ (K : Act → World → Prop) (Qx : Exit → Act → World → Prop),
    (∀ v d w' H' β' σ', R d σ' → Rel C.tb H' β' σ' w' → DRel C.tb H' β' σ' v d → Stp H w H' w' → Ev H β σ H' β' σ' → K (a.put o.dst v) w') → o.wp C.P a w K Qx

theorem wpList_of_wp {P : Program} {ops : Array Oper} {Q : Exit → Act → World → Prop} {a : Act} {w : World} {rest : List Oper} {o : Oper} (hw : Region.wanted o (yielded ops a.tmps) = true)
    (h : o.wp P a w (wpList P ops Q rest) Q) : wpList P ops Q (o :: rest) a w := by
  unfold wpList; rw [if_pos hw]; exact .inl h

theorem wpList_mono {P : Program} {ops : Array Oper} {Q Q' : Exit → Act → World → Prop} (hq : ∀ e a w, Q e a w → Q' e a w) : ∀ (l : List Oper) (a : Act) (w : World), wpList P ops Q l a w → wpList P ops Q' l a w
  | [], a, w, h => hq _ _ _ h
  | o :: rest, a, w, h => by
    unfold wpList at h ⊢
    split
    · rename_i hw
      rw [if_pos hw] at h
      rcases h with h | ⟨h1, ⟨a2, w2, h2⟩⟩
      · refine .inl ?_
        unfold Oper.wp at *
        generalize (execOp a.eval o).run P w = r at *
        cases r with
        | ok n w' =>
          cases n <;> simp only [Oper.upon] at h ⊢ <;>
            first
              | exact wpList_mono hq rest _ _ h
              | exact Calls.mono h (fun e w'' he => by
                  cases e <;> first
                    | exact wpList_mono hq rest _ _ he
                    | exact hq _ _ _ he
                    | (obtain ⟨a3, w3, h3⟩ := he; exact ⟨a3, w3, hq _ _ _ h3⟩))
              | exact Rows.mono h (fun _ _ he => wpList_mono hq rest _ _ he)
        | halt x w' => cases x <;> simp only [Oper.upon] at h ⊢ <;> first | exact hq _ _ _ h | exact h
      · exact .inr ⟨h1, a2, w2, hq _ _ _ h2⟩
    · rename_i hw
      rw [if_neg hw] at h
      exact wpList_mono hq rest _ _ h

theorem VL_cons_wanted {ops : Array Oper} {o : Oper} {rest : List Oper} {R : D → List Blk → Prop}
    (hn : dstOk C.n o.dst = true) (hw : ∀ H β a, EnvRel C.tb H β σ C.n a env → Region.wanted o (yielded ops a.tmps) = true)
    (h : OpV C o env σ R) (k : ∀ d σ', R d σ' → VL C ops rest (putD env o.dst d) σ' Q) : VL C ops (o :: rest) env σ Q := by
  intro H β a w hr he hd
  refine wpList_of_wp (hw H β a he) (h H β a w hr he hd _ _ ?_)
  intro v d w' H' β' σ' hR hr' hv hs hev
  have hd' : (a.put o.dst v).defers = [] := by cases o.dst <;> exact hd
  exact wpList_mono (fun _ _ _ hl => hl.trans hs (hev.kp C.k0)) _ _ _ (k d σ' hR H' β' (a.put o.dst v) w' hr' ((he.mono hev).put hv hn) hd')

theorem VL_cons {ops : Array Oper} {o : Oper} {rest : List Oper} {R : D → List Blk → Prop} (hg : o.guard = none) (hn : dstOk C.n o.dst = true)
    (h : OpV C o env σ R) (k : ∀ d σ', R d σ' → VL C ops rest (putD env o.dst d) σ' Q) : VL C ops (o :: rest) env σ Q :=
  VL_cons_wanted hn (fun _ _ _ _ => by simp [Region.wanted, hg]) h k

theorem yielded_of {tb H β n a} (he : EnvRel tb H β σ n a env) {ops : Array Oper} {j t : Nat} {b : Bool} {oj : Oper} (hj : ops[j]? = some oj) (ht : oj.dst = some t)
    (hb : boolAny (getD env t) = some b) : yielded ops a.tmps j = some b := by
  have hv := boolAny_rel (he.get t) hb
  have hlt : t < a.tmps.size := by
    rcases Nat.lt_or_ge t a.tmps.size with h' | h'
    · exact h'
    · simp [h', undef] at hv
  have : a.tmps[t]? = some (.bool b) := by
    simp only [Array.getD_eq_getD_getElem?] at hv
    rw [Array.getElem?_eq_getElem hlt] at hv ⊢
    simpa using hv
  simp [yielded, hj, ht, this]

theorem VL_guard {ops : Array Oper} {o oj : Oper} {rest : List Oper} {R : D → List Blk → Prop} {j t : Nat} {want b : Bool} (hg : o.guard = some (j, want)) (hn : dstOk C.n o.dst = true)
    (hj : ops[j]? = some oj) (ht : oj.dst = some t) (hb : boolAny (getD env t) = some b)
    (h : b = want → OpV C o env σ R) (k : b = want → ∀ d σ', R d σ' → VL C ops rest (putD env o.dst d) σ' Q)
    (k' : b ≠ want → VL C ops rest (putD env o.dst .any) σ Q) : VL C ops (o :: rest) env σ Q := by
  by_cases hbw : b = want
  · refine VL_cons_wanted hn (fun H β a he => ?_) (h hbw) (k hbw)
    simp [Region.wanted, hg, yielded_of he hj ht hb, hbw]
  · intro H β a w hr he hd
    have hw : Region.wanted o (yielded ops a.tmps) = false := by simp [Region.wanted, hg, yielded_of he hj ht hb, hbw]
    unfold wpList
    rw [hw]
    have hd' : (a.put o.dst undef).defers = [] := by cases o.dst <;> exact hd
    exact k' hbw H β (a.put o.dst undef) w hr (he.put .any hn) hd'

end
end Go.Den
/- The table of the program's types, resolved, and what holds of it. -/
namespace Go.Den
open Go
set_option linter.unusedSectionVars false
set_option linter.unusedSimpArgs false
set_option linter.unusedVariables false

def tdOf : TypeDesc → TD
  | .int k => .int k
  | .bool => .bool
  | .string => .str
  | .pointer t => .ptr t
  | .slice t => .sl t
  | .array n t => .arr n t
  | .struct fs => .st (fs.toList.map fun f => (f.type, f.offset))
  | .interface _ => .ifc
  | .func .. => .fn
  | .map k v => .mp k v
  | _ => .other

def fieldsEnd (tb : Tab) : List (TypeId × Nat) → Nat → Option Nat
  | [], n => some n
  | f :: fs, n => if f.2 = n then fieldsEnd tb fs (n + sz tb f.1) else none

def wfTI (tb : Tab) (i : TI) : Bool := match i.d with
  | .st fs => fieldsEnd tb fs 0 == some i.sz
  | .arr n u => i.sz == n * sz tb u
  | .other => true
  | _ => i.sz == 1

def tiAt (P : Program) (t : TypeId) : TI :=
  { d := ((P.underlying t).map tdOf).getD .other, sz := P.cellsOf t, nb := P.bytesOf t, uid := P.underlyingId t }
def tabOf (P : Program) : List TI := (List.range P.types.size).map (tiAt P)
def knownT (P : Program) (t : TypeId) : Bool := (P.info? t).isSome && (P.underlying t).isSome

structure TabOk (P : Program) (tb : Tab) : Prop where
  tab : tabOf P = tb.rows
  known : (List.range P.types.size).all (knownT P) = true
  wf : tb.rows.all (wfTI tb) = true
  mixed : P.follows .mixedOrders = true

section
variable {P : Program} {tb : Tab} (hT : TabOk P tb)
include hT

theorem TabOk.len : tb.rows.length = P.types.size := by rw [← hT.tab]; simp [tabOf]
theorem TabOk.at {t : TypeId} (h : t < tb.rows.length) : tb.rows[t]? = some (tiAt P t) := by
  have h' : t < P.types.size := by rw [← hT.len]; exact h
  conv => lhs; rw [← hT.tab]
  rw [tabOf, List.getElem?_map, List.getElem?_range h']; rfl
theorem TabOk.lt_of_td {t : TypeId} (h : td tb t ≠ .other) : t < tb.rows.length := by
  rcases Nat.lt_or_ge t tb.rows.length with h' | h'
  · exact h'
  · exact absurd (by simp [td, List.getElem?_eq_none h']) h
theorem TabOk.und {t : TypeId} (h : td tb t ≠ .other) : ∃ d, P.underlying t = some d ∧ tdOf d = td tb t := by
  have hlt := hT.lt_of_td h
  have hk := List.all_eq_true.1 hT.known t (by simp [← hT.len, hlt])
  simp only [knownT, Bool.and_eq_true, Option.isSome_iff_exists] at hk
  obtain ⟨_, d, hd⟩ := hk
  exact ⟨d, hd, by simp [td, hT.at hlt, tiAt, hd]⟩
theorem TabOk.info {t : TypeId} (h : t < tb.rows.length) : ∃ i, P.info? t = some i ∧ i.size = sz tb t ∧ i.bytes = nb tb t := by
  have hk := List.all_eq_true.1 hT.known t (by simp [← hT.len, h])
  simp only [knownT, Bool.and_eq_true, Option.isSome_iff_exists] at hk
  obtain ⟨⟨i, hi⟩, _⟩ := hk
  exact ⟨i, hi, by simp [sz, hT.at h, tiAt, Program.cellsOf, hi], by simp [nb, hT.at h, tiAt, Program.bytesOf, hi]⟩

theorem TabOk.int {t : TypeId} {k : IntKind} (h : td tb t = .int k) : P.underlying t = some (.int k) := by
  obtain ⟨d, hd, he⟩ := hT.und (t := t) (by rw [h]; simp)
  rw [h] at he; cases d <;> simp_all [tdOf]
theorem TabOk.bool {t : TypeId} (h : td tb t = .bool) : P.underlying t = some .bool := by
  obtain ⟨d, hd, he⟩ := hT.und (t := t) (by rw [h]; simp)
  rw [h] at he; cases d <;> simp_all [tdOf]
theorem TabOk.str {t : TypeId} (h : td tb t = .str) : P.underlying t = some .string := by
  obtain ⟨d, hd, he⟩ := hT.und (t := t) (by rw [h]; simp)
  rw [h] at he; cases d <;> simp_all [tdOf]
theorem TabOk.ptr {t u : TypeId} (h : td tb t = .ptr u) : P.underlying t = some (.pointer u) := by
  obtain ⟨d, hd, he⟩ := hT.und (t := t) (by rw [h]; simp)
  rw [h] at he; cases d <;> simp_all [tdOf]
theorem TabOk.sl {t u : TypeId} (h : td tb t = .sl u) : P.underlying t = some (.slice u) := by
  obtain ⟨d, hd, he⟩ := hT.und (t := t) (by rw [h]; simp)
  rw [h] at he; cases d <;> simp_all [tdOf]
theorem TabOk.arr {t u : TypeId} {n : Nat} (h : td tb t = .arr n u) : P.underlying t = some (.array n u) := by
  obtain ⟨d, hd, he⟩ := hT.und (t := t) (by rw [h]; simp)
  rw [h] at he; cases d <;> simp_all [tdOf]
theorem TabOk.st {t : TypeId} {fs : List (TypeId × Nat)} (h : td tb t = .st fs) : ∃ gs, P.underlying t = some (.struct gs) ∧ gs.toList.map (fun f => (f.type, f.offset)) = fs := by
  obtain ⟨d, hd, he⟩ := hT.und (t := t) (by rw [h]; simp)
  rw [h] at he; cases d <;> simp_all [tdOf]
theorem TabOk.ifc {t : TypeId} (h : td tb t = .ifc) : ∃ ms, P.underlying t = some (.interface ms) := by
  obtain ⟨d, hd, he⟩ := hT.und (t := t) (by rw [h]; simp)
  rw [h] at he; cases d <;> simp_all [tdOf]
theorem TabOk.fn {t : TypeId} (h : td tb t = .fn) : ∃ a b c, P.underlying t = some (.func a b c) := by
  obtain ⟨d, hd, he⟩ := hT.und (t := t) (by rw [h]; simp)
  rw [h] at he; cases d <;> simp_all [tdOf]
theorem TabOk.mp {t k v : TypeId} (h : td tb t = .mp k v) : P.underlying t = some (.map k v) := by
  obtain ⟨d, hd, he⟩ := hT.und (t := t) (by rw [h]; simp)
  rw [h] at he; cases d <;> simp_all [tdOf]

theorem TabOk.wfAt {t : TypeId} {i : TI} (h : tb.rows[t]? = some i) : wfTI tb i = true :=
  List.all_eq_true.1 hT.wf i (List.mem_of_getElem? h)
theorem TabOk.wf_td {t : TypeId} (h : td tb t ≠ .other) : wfTI tb ⟨td tb t, sz tb t, nb tb t, uid tb t⟩ = true := by
  have hlt := hT.lt_of_td h
  have := hT.wfAt (hT.at hlt)
  simpa [td, sz, nb, uid, hT.at hlt] using this
theorem TabOk.sz_arr {t u : TypeId} {n : Nat} (h : td tb t = .arr n u) : sz tb t = n * sz tb u := by
  have := hT.wf_td (t := t) (by rw [h]; simp)
  simpa [wfTI, h] using this
theorem TabOk.sz_st {t : TypeId} {fs : List (TypeId × Nat)} (h : td tb t = .st fs) : fieldsEnd tb fs 0 = some (sz tb t) := by
  have := hT.wf_td (t := t) (by rw [h]; simp)
  simpa [wfTI, h] using this
theorem TabOk.sz_one {t : TypeId} (h : isAggT tb t = false) (h' : td tb t ≠ .other) : sz tb t = 1 := by
  have := hT.wf_td (t := t) h'
  unfold wfTI at this
  unfold isAggT at h
  split at this <;> simp_all

theorem run_underlying_of {t : TypeId} {d : TypeDesc} (h : P.underlying t = some d) (w : World) : (underlying t).run P w = .ok d w := by
  simp [underlying, h]
theorem run_sizeOf_of {t : TypeId} (h : t < tb.rows.length) (w : World) : (sizeOf t).run P w = .ok (sz tb t) w := by
  obtain ⟨i, hi, h1, h2⟩ := hT.info h
  simp [sizeOf, typeInfo, hi, h1]
theorem run_isAgg_of {t : TypeId} (h : td tb t ≠ .other) (w : World) : (isAgg t).run P w = .ok (isAggT tb t) w := by
  obtain ⟨d, hd, he⟩ := hT.und h
  simp only [isAgg, Sem.run_bind, run_underlying_of hT hd, Result.andThen]
  unfold isAggT
  rw [← he]
  cases d <;> simp [tdOf]
end

theorem fieldsEnd_spec {tb : Tab} : ∀ {fs : List (TypeId × Nat)} {n m : Nat}, fieldsEnd tb fs n = some m → n ≤ m ∧
    ∀ (i : Nat) (f : TypeId × Nat), fs[i]? = some f → n ≤ f.2 ∧ f.2 + sz tb f.1 ≤ m ∧ ∀ (j : Nat) (g : TypeId × Nat), i < j → fs[j]? = some g → f.2 + sz tb f.1 ≤ g.2
  | [], n, m, h => by
    simp [fieldsEnd] at h; subst h
    exact ⟨Nat.le_refl _, fun i f hf => by simp at hf⟩
  | f :: fs, n, m, h => by
    simp only [fieldsEnd] at h
    split at h
    · rename_i hn
      obtain ⟨h1, h2⟩ := fieldsEnd_spec h
      refine ⟨by omega, fun i g hg => ?_⟩
      cases i with
      | zero =>
        simp at hg; subst hg
        refine ⟨by omega, by omega, fun j k hj hk => ?_⟩
        cases j with
        | zero => omega
        | succ j => have := (h2 j k (by simpa using hk)).1; omega
      | succ i =>
        obtain ⟨a, b, c⟩ := h2 i g (by simpa using hg)
        refine ⟨by omega, b, fun j k hj hk => ?_⟩
        cases j with
        | zero => omega
        | succ j => exact c j k (by omega) (by simpa using hk)
    · cases h

theorem fieldsEnd_cover {tb : Tab} : ∀ {fs : List (TypeId × Nat)} {n m : Nat}, fieldsEnd tb fs n = some m → ∀ j, n ≤ j → j < m →
    ∃ (i : Nat) (f : TypeId × Nat), fs[i]? = some f ∧ f.2 ≤ j ∧ j < f.2 + sz tb f.1
  | [], n, m, h, j, h1, h2 => by simp [fieldsEnd] at h; omega
  | f :: fs, n, m, h, j, h1, h2 => by
    simp only [fieldsEnd] at h
    split at h
    · rename_i hn
      by_cases hj : j < n + sz tb f.1
      · exact ⟨0, f, rfl, by omega, by omega⟩
      · obtain ⟨i, g, hg, h3, h4⟩ := fieldsEnd_cover h j (by omega) h2
        exact ⟨i + 1, g, by simpa using hg, h3, h4⟩
    · cases h

theorem seg_length {cs : List Value} {o n : Nat} (h : o + n ≤ cs.length) : (seg cs o n).length = n := by simp [seg]; omega
theorem seg_get {cs : List Value} {o n j : Nat} (h : j < n) : (seg cs o n)[j]? = cs[o + j]? := by
  simp [seg, List.getElem?_take, h]

theorem Rd.len {P : Program} {tb : Tab} (hT : TabOk P tb) {H : Gh} {t cs x} (r : Rd tb H t cs x) : cs.length = sz tb t := by
  cases r with
  | st a b _ _ => exact b
  | arr a b _ _ => rw [b, hT.sz_arr a]
  | ifc a _ _ => exact (hT.sz_one (by simp [isAggT, a]) (by simp [a])).symm
  | _ a => exact (hT.sz_one (by simp [isAggT, a]) (by simp [a])).symm
theorem TRel.len {P : Program} {tb : Tab} (hT : TabOk P tb) {H : Gh} {β σ t cs x} (r : TRel tb H β σ t cs x) : cs.length = sz tb t := by
  cases r with
  | e a => exact a.len hT
  | st a b _ _ => exact b
  | arr a b _ _ => rw [b, hT.sz_arr a]
  | _ a => exact (hT.sz_one (by simp [isAggT, a]) (by simp [a])).symm

end Go.Den
/- Operations that compute alone. -/
namespace Go.Den
open Go
set_option linter.unusedSectionVars false
set_option linter.unusedSimpArgs false
set_option linter.unusedVariables false

structure DR where
  p : Prop
  d : D
  s : List Blk

/-- The operations that only reckon, or read. -/
def isVal : Op → Bool
  | .move _ | .assign _ | .pick _ _ _ | .extract _ _ | .binOp _ _ _ _ _ | .unOp _ _ _ | .convert _ _ _ | .slice _ _ _ _ _ | .fieldAddr _ _ _ | .field _ _ _ | .indexAddr _ _ _ | .index _ _ _ | .nilCheck _ | .load _ _ | .build _ _ => true
  | .call c => match c.callee with
    | .builtin .len | .builtin .max | .builtin .min | .builtin .unsafeSliceData => true
    | _ => false
  | _ => false
/-- The blocks that an operation reads. -/
def rsOf (env : Env) : Op → List Nat
  | .load _ (.tmp s) => match getD env s with
    | .ptr i _ => [i]
    | .mel _ i _ _ _ => [i]
    | _ => []
  | .convert _ _ (.tmp s) => match getD env s with
    | .asl i _ _ _ _ => [i]
    | .t _ (.msl i _) => [i]
    | _ => []
  | _ => []
def Stab (rs : List Nat) (H : Gh) (w w' : World) : Prop := ∀ b o u, w.cell? ⟨b, o, none⟩ = some u → ((∃ x, H b o = .pers x) ∨ ∃ i, i ∈ rs ∧ H b o = .mine i) → w'.cell? ⟨b, o, none⟩ = some u
theorem Stab.refl (rs : List Nat) (H : Gh) (w : World) : Stab rs H w w := fun _ _ _ h _ => h
/-- It yields one value, in this world and wherever what it reads stands the same. -/
def OpVal (C : Cx) (o : Oper) (env : Env) (σ : List Blk) (rs : List Nat) (d : D) : Prop :=
  ∀ H β a w, Rel C.tb H β σ w → EnvRel C.tb H β σ C.n a env → ∃ v, (∀ w', Stab rs H w w' → (execOp a.eval o).run C.P w' = .ok (.value v) w') ∧ DRel C.tb H β σ v d

/-- What an operation does. -/
structure OpOk (C : Cx) (o : Oper) (env : Env) (σ : List Blk) (r : DR) : Prop where
  v : OpV C o env σ (fun d s => d = r.d ∧ s = r.s)
  val : isVal o.op = true → OpVal C o env σ (rsOf env o.op) r.d ∧ r.s = σ

section
variable {C : Cx} {o : Oper} {env : Env} {σ : List Blk} {r : DR}

theorem VL_op {ops : Array Oper} {rest : List Oper} {Q : Post} (hg : o.guard = none) (hn : dstOk C.n o.dst = true) (h : OpOk C o env σ r)
    (k : VL C ops rest (putD env o.dst r.d) r.s Q) : VL C ops (o :: rest) env σ Q :=
  VL_cons hg hn h.v fun d s ⟨hd, hs⟩ => by subst hd; subst hs; exact k

theorem OpOk_val {d : D} (h : ∀ H β a w, Rel C.tb H β σ w → EnvRel C.tb H β σ C.n a env → ∃ v, (∀ w', Stab (rsOf env o.op) H w w' → (execOp a.eval o).run C.P w' = .ok (.value v) w') ∧ DRel C.tb H β σ v d) :
    OpOk C o env σ ⟨True, d, σ⟩ := by
  refine ⟨?_, fun _ => ⟨h, rfl⟩⟩
  intro H β a w hr he hd K Qx hK
  obtain ⟨v, hrun, hv⟩ := h H β a w hr he
  simp only [Oper.wp, hrun w (.refl _ _ _), Oper.upon]
  exact hK v d w H β σ ⟨rfl, rfl⟩ hr hv (.refl _ _) (.refl _ _ _)
theorem OpOk_do {r : DR} (hn : isVal o.op = false) (h : OpV C o env σ (fun d s => d = r.d ∧ s = r.s)) : OpOk C o env σ r := ⟨h, fun e => by rw [hn] at e; cases e⟩

/-! ### Operands -/

def inR (k : IntKind) (n : Int) : Bool := match k with
  | .i8 => decide (-128 ≤ n) && decide (n ≤ 127)
  | .i16 => decide (-32768 ≤ n) && decide (n ≤ 32767)
  | .i32 => decide (-2147483648 ≤ n) && decide (n ≤ 2147483647)
  | .i64 => decide (-9223372036854775808 ≤ n) && decide (n ≤ 9223372036854775807)
  | .u8 => decide (0 ≤ n) && decide (n ≤ 255)
  | .u16 => decide (0 ≤ n) && decide (n ≤ 65535)
  | .u32 => decide (0 ≤ n) && decide (n ≤ 4294967295)
  | .u64 => decide (0 ≤ n) && decide (n ≤ 18446744073709551615)

theorem wrap_eq {k : IntKind} {n : Int} : k.wrap n = match k with
    | .i8 => if n % 256 ≥ 128 then n % 256 - 256 else n % 256
    | .i16 => if n % 65536 ≥ 32768 then n % 65536 - 65536 else n % 65536
    | .i32 => if n % 4294967296 ≥ 2147483648 then n % 4294967296 - 4294967296 else n % 4294967296
    | .i64 => if n % 18446744073709551616 ≥ 9223372036854775808 then n % 18446744073709551616 - 18446744073709551616 else n % 18446744073709551616
    | .u8 => n % 256 | .u16 => n % 65536 | .u32 => n % 4294967296 | .u64 => n % 18446744073709551616 := by
  cases k <;> simp [IntKind.wrap, IntKind.signed, IntKind.bits]

theorem inR_wrap {k : IntKind} {n : Int} (h : inR k n = true) : k.wrap n = n := by
  rw [wrap_eq]; cases k <;> simp [inR] at h ⊢ <;> omega
theorem wrap_inR (k : IntKind) (n : Int) : inR k (k.wrap n) = true := by
  rw [wrap_eq]; cases k <;> simp [inR] <;> omega
theorem wrap_wrap (k : IntKind) (n : Int) : k.wrap (k.wrap n) = k.wrap n := inR_wrap (wrap_inR k n)

def constD (tb : Tab) (ty : TypeId) (v : Value) : Option D := match td tb ty, v with
  | .int k, .int k' n => if k = k' ∧ inR k n = true then some (.t ty (.e (.int n))) else none
  | .bool, .bool b => some (.kb ty b)
  | .str, .string ⟨⟨l⟩⟩ => if l.length ≤ 1000000 then some (.t ty (.e (.str l))) else none
  | .ptr _, .pointer none => some (.t ty (.e .nilp))
  | .sl _, .slice none 0 0 => some (.t ty .nsl)
  | .ifc, .nilIface => some (.t ty (.e .nili))
  | .fn, .nilFunc => some (.t ty (.e .nilf))
  | .mp _ _, .map none => some (.t ty (.e .nilm))
  | _, _ => none

/-- A variable of the package. -/
def glD : List (Nat × TypeId × E) → Nat → Option D
  | [], _ => none
  | (g, ty, x) :: r, n => match Nat.beq g n with
    | true => some (.el ty [x] 0 [])
    | false => glD r n
theorem glD_mem : ∀ {l : List (Nat × TypeId × E)} {g : Nat} {d : D}, glD l g = some d → ∃ ty x, (g, ty, x) ∈ l ∧ d = .el ty [x] 0 []
  | [], _, _, h => by simp [glD] at h
  | (g', ty, x) :: r, g, d, h => by
    unfold glD at h
    split at h
    · rename_i hb
      have := Nat.eq_of_beq_eq_true hb
      subst this
      cases h
      exact ⟨ty, x, by simp, rfl⟩
    · obtain ⟨ty', x', h1, h2⟩ := glD_mem h
      exact ⟨ty', x', List.mem_cons_of_mem _ h1, h2⟩
theorem glD_rel {tb : Tab} {H β} {σ : List Blk} {g : Nat} {d : D} (hg : GlRel tb H) (h : glD tb.gl g = some d) : DRel tb H β σ (.pointer (some ⟨g, 0, none⟩)) d := by
  obtain ⟨ty, x, hm, rfl⟩ := glD_mem h
  obtain ⟨cs, h0, h1, h2⟩ := hg g ty x hm
  have := DRel.el (tb := tb) (H := H) (β := β) (σ := σ) (u := ty) (b := g) (off := 0) (cs := cs) (xs := [x]) (j := 0) (path := []) (o := 0) (v := ty) (by simp [h0]) (fun j v hj => by rw [Nat.zero_add]; exact h2 j v hj)
    (fun i y hy => by
      have hi : i = 0 := by have := (List.getElem?_eq_some_iff.1 hy).1; simp at this; omega
      subst hi
      simp at hy; subst hy
      have : seg cs (0 * sz tb ty) (sz tb ty) = cs := by simp [seg, ← h0]
      rw [this]; exact h1) (by simp) rfl
  simpa using this

def opd (tb : Tab) (env : Env) (ty : TypeId) : Operand → Option D
  | .tmp t => some (getD env t)
  | .const v => constD tb ty v
  | .global g => glD tb.gl g
  | _ => none

theorem DRel.of_rd {tb : Tab} {H β ty v x} (h : Rd tb H ty [v] x) (ha : isAggT tb ty = false) : DRel tb H β σ v (.t ty (.e x)) :=
  .t (cs := [v]) (by simp [VC, ha]) (.e h)

theorem constD_rel {tb : Tab} {H β ty v d} (h : constD tb ty v = some d) : DRel tb H β σ v d := by
  unfold constD at h
  split at h
  · rename_i ht; split at h
    · rename_i hk; cases h; obtain ⟨rfl, hk⟩ := hk; exact .of_rd (.int ht (inR_wrap hk)) (by simp [isAggT, ht])
    · cases h
  · rename_i ht; cases h; exact .kb ht
  · rename_i ht; split at h
    · rename_i hl; cases h; exact .of_rd (.str ht (by unfold maxI; omega)) (by simp [isAggT, ht])
    · cases h
  · rename_i ht; cases h; exact .of_rd (.nilp ht) (by simp [isAggT, ht])
  · rename_i ht; cases h; exact .t (cs := [_]) (by simp [VC, isAggT, ht]) (.nsl ht)
  · rename_i ht; cases h; exact .of_rd (.nili ht) (by simp [isAggT, ht])
  · rename_i ht; cases h; exact .of_rd (.nilf ht) (by simp [isAggT, ht])
  · rename_i ht; cases h; exact .of_rd (.nilm ht) (by simp [isAggT, ht])
  · cases h

theorem opd_rel {H β n a ty x d} {tb : Tab} (he : EnvRel tb H β σ n a env) (h : opd tb env ty x = some d) : DRel tb H β σ (a.eval x) d := by
  cases x with
  | tmp t => simp only [opd, Option.some.injEq] at h; subst h; exact he.get t
  | const v => exact constD_rel h
  | global g => exact glD_rel he.1.2 h
  | func f => cases h

/-! ### Reading a temporary -/

theorem DRel.single {tb : Tab} {H β v ty x} (h : DRel tb H β σ v (.t ty x)) (ha : isAggT tb ty = false) : TRel tb H β σ ty [v] x := by
  cases h with
  | t a b => have a' := a; simp only [VC, ha, Bool.false_eq_true, if_false] at a'; subst a'; exact b
theorem DRel.aggr {tb : Tab} {H β v ty x} (h : DRel tb H β σ v (.t ty x)) (ha : isAggT tb ty = true) : ∃ cs : List Value, v = .agg cs.toArray ∧ TRel tb H β σ ty cs x := by
  cases h with
  | @t ty v cs x a b => have a' := a; simp only [VC, ha, if_true] at a'; exact ⟨cs, a', b⟩
theorem TRel.rd {tb : Tab} {H β t cs x} (h : TRel tb H β σ t cs (.e x)) : Rd tb H t cs x := by
  cases h with | e a => exact a
/-- The type of what reads as a number, a bool, a text is one of these. -/
theorem DRel.int_inv {tb : Tab} {H β v ty n} (h : DRel tb H β σ v (.t ty (.e (.int n)))) : ∃ k, td tb ty = .int k ∧ v = .int k n ∧ k.wrap n = n := by
  cases h with
  | t a b => cases b with | e r => cases r with
    | int h1 h2 => have a' := a; simp [VC, isAggT, h1] at a'; exact ⟨_, h1, a'.symm, h2⟩
theorem DRel.str_inv {tb : Tab} {H β v ty s} (h : DRel tb H β σ v (.t ty (.e (.str s)))) : v = sv s ∧ (s.length : Int) ≤ maxI ∧ td tb ty = .str := by
  cases h with
  | t a b => cases b with | e r => cases r with
    | str h1 h2 => have a' := a; simp [VC, isAggT, h1] at a'; exact ⟨a'.symm, h2, h1⟩

/-! ### move, assign, pick, extract -/

theorem Ok_move {x : Operand} {d : D} (ho : o.op = .move x ∨ o.op = .assign x) (h : opd C.tb env o.type x = some d) : OpOk C o env σ ⟨True, d, σ⟩ :=
  OpOk_val fun H β a w hr he => ⟨a.eval x, fun w' _ => by rcases ho with ho | ho <;> simp [execOp, ho], opd_rel he h⟩

theorem Ok_pick {c x y : Operand} {b : Bool} {d : D} (ho : o.op = .pick c x y) {dc : D} (hc : opd C.tb env o.type c = some dc) (hcb : boolAny dc = some b)
    (hx : b = true → opd C.tb env o.type x = some d) (hy : b = false → opd C.tb env o.type y = some d) : OpOk C o env σ ⟨True, d, σ⟩ :=
  OpOk_val fun H β a w hr he => by
    have hv := boolAny_rel (opd_rel he hc) hcb
    cases b with
    | true => exact ⟨a.eval x, fun w' _ => by simp [execOp, ho, hv, asBool], opd_rel he (hx rfl)⟩
    | false => exact ⟨a.eval y, fun w' _ => by simp [execOp, ho, hv, asBool], opd_rel he (hy rfl)⟩

theorem Ok_extract {t : Nat} {i : Nat} {ds : List D} {d : D} (ho : o.op = .extract (.tmp t) i) (ht : getD env t = .tup ds) (hd : ds[i]? = some d) : OpOk C o env σ ⟨True, d, σ⟩ :=
  OpOk_val fun H β a w hr he => by
    have hv := he.get t
    rw [ht] at hv
    generalize hx : a.tmps.getD t undef = x at hv
    cases hv with
    | @tup vs ds h1 h2 =>
      have hi : i < vs.size := by rw [h1]; exact (List.getElem?_eq_some_iff.1 hd).1
      refine ⟨vs[i], fun w' _ => ?_, h2 i _ _ (Array.getElem?_eq_getElem hi) hd⟩
      simp only [execOp, ho, Act.eval, hx, Instr.extract]
      simp [Array.getElem?_eq_getElem hi]

/-! ### numbers -/

def intD (d : D) : Option Int := match d with
  | .t _ (.e (.int n)) => some n
  | _ => none
def strD (d : D) : Option (List UInt8) := match d with
  | .t _ (.e (.str s)) => some s
  | _ => none
def boolD (d : D) : Option Bool := match d with
  | .t _ (.e (.bool b)) => some b
  | _ => none
def opdI (env : Env) : Operand → Option Int
  | .tmp t => intD (getD env t)
  | .const (.int _ n) => some n
  | _ => none
/-- A number's operand at its type: the value is of that kind. -/
def isK (tb : Tab) (k : IntKind) : Env → Operand → Bool
  | env, .tmp t => match getD env t with
    | .t ty _ => td tb ty == .int k
    | _ => false
  | _, .const (.int k' _) => k == k'
  | _, _ => false

end
end Go.Den
/- Numbers, texts, bools: the binary operations. -/
namespace Go.Den
open Go
set_option linter.unusedSectionVars false
set_option linter.unusedSimpArgs false
set_option linter.unusedVariables false

/-- Two types that are told alike. -/
def same (tb : Tab) (t u : TypeId) : Bool := Nat.beq t u || (td tb t == td tb u)
theorem same_td {tb : Tab} {t u : TypeId} (h : same tb t u = true) : td tb t = td tb u := by
  simp only [same, Bool.or_eq_true, beq_iff_eq] at h
  rcases h with h | h
  · rw [Nat.eq_of_beq_eq_true h]
  · exact h

def intAt (tb : Tab) (ty : TypeId) : D → Option Int
  | .t tx (.e (.int n)) => match same tb tx ty with | true => some n | false => none
  | _ => none
def intAny : D → Option Int
  | .t _ (.e (.int n)) => some n
  | _ => none
def strAny : D → Option (List UInt8)
  | .t _ (.e (.str s)) => some s
  | _ => none

section
variable {tb : Tab} {H : Gh} {β : List Value} {σ : List Blk} {v : Value} {d : D}
theorem intAt_rel {ty n k} (hv : DRel tb H β σ v d) (h : intAt tb ty d = some n) (hk : td tb ty = .int k) : v = .int k n ∧ k.wrap n = n := by
  unfold intAt at h
  split at h
  · split at h
    · rename_i hs; cases h
      obtain ⟨k', h1, h2, h3⟩ := hv.int_inv
      rw [same_td hs, hk] at h1
      cases h1; exact ⟨h2, h3⟩
    · cases h
  · cases h
theorem intAny_rel {n} (hv : DRel tb H β σ v d) (h : intAny d = some n) : ∃ k, v = .int k n ∧ k.wrap n = n := by
  unfold intAny at h
  split at h
  · cases h; obtain ⟨k, _, h2, h3⟩ := hv.int_inv; exact ⟨k, h2, h3⟩
  · cases h
theorem strAny_rel {s} (hv : DRel tb H β σ v d) (h : strAny d = some s) : v = sv s ∧ (s.length : Int) ≤ maxI := by
  unfold strAny at h
  split at h
  · cases h; exact ⟨hv.str_inv.1, hv.str_inv.2.1⟩
  · cases h
theorem DRel.mkInt {ty n k} (hk : td tb ty = .int k) (hn : k.wrap n = n) : DRel tb H β σ (.int k n) (.t ty (.e (.int n))) := .of_rd (.int hk hn) (by simp [isAggT, hk])
theorem DRel.mkBool {ty b} (hk : td tb ty = .bool) : DRel tb H β σ (.bool b) (.t ty (.e (.bool b))) := .of_rd (.bool hk) (by simp [isAggT, hk])
theorem DRel.mkStr {ty s} (hk : td tb ty = .str) (hn : (s.length : Int) ≤ maxI) : DRel tb H β σ (sv s) (.t ty (.e (.str s))) := .of_rd (.str hk hn) (by simp [isAggT, hk])
end

def bitop (op : BinOp) (k : IntKind) (x y : Int) : Int :=
  let a := BitVec.ofInt k.bits x
  let b := BitVec.ofInt k.bits y
  match op with
  | .and => k.wrap (a &&& b).toNat
  | .or => k.wrap (a ||| b).toNat
  | .xor => k.wrap (a ^^^ b).toNat
  | _ => k.wrap (a &&& ~~~b).toNat

/-- What a number's operator gives, and on what terms. -/
def arith (k : IntKind) (op : BinOp) (x y : Int) : Option Int := match op with
  | .add => some (k.wrap (x + y))
  | .sub => some (k.wrap (x - y))
  | .mul => some (k.wrap (x * y))
  | .quo => some (k.wrap (x.tdiv y))
  | .rem => some (x.tmod y)
  | .and => some (bitop .and k x y)
  | .or => some (bitop .or k x y)
  | .xor => some (bitop .xor k x y)
  | .andNot => some (bitop .andNot k x y)
  | _ => none
def arithP (op : BinOp) (y : Int) : Prop := match op with
  | .quo | .rem => y ≠ 0
  | .shl | .shr => 0 ≤ y
  | _ => True
def shiftOp (k : IntKind) (op : BinOp) (x y : Int) : Option Int := match op with
  | .shl => some (k.wrap (x * 2 ^ (min y.toNat k.bits)))
  | .shr => some (x.fdiv (2 ^ (min y.toNat k.bits)))
  | _ => none
def cmpI (op : BinOp) (x y : Int) : Option Bool := match op with
  | .eql => some (decide (x = y))
  | .neq => some (!decide (x = y))
  | .lss => some (decide (x < y))
  | .leq => some (decide (x ≤ y))
  | .gtr => some (decide (y < x))
  | .geq => some (decide (y ≤ x))
  | _ => none

theorem between_inR {k : IntKind} {x z : Int} (hx : inR k x = true) (h1 : 0 ≤ x → 0 ≤ z ∧ z ≤ x) (h2 : x < 0 → x ≤ z ∧ z ≤ 0) : inR k z = true := by
  rcases Int.lt_or_le x 0 with h | h
  · have := h2 h; cases k <;> simp [inR] at hx ⊢ <;> omega
  · have := h1 h; cases k <;> simp [inR] at hx ⊢ <;> omega
theorem wrap_iff {k : IntKind} {x : Int} : k.wrap x = x ↔ inR k x = true := ⟨fun h => h ▸ wrap_inR k x, inR_wrap⟩

theorem tmod_inR {k : IntKind} {x y : Int} (hx : inR k x = true) : inR k (x.tmod y) = true := by
  refine between_inR hx (fun h => ⟨Int.tmod_nonneg y h, ?_⟩) (fun h => ⟨?_, ?_⟩)
  · obtain ⟨n, rfl⟩ := Int.eq_ofNat_of_zero_le h
    cases y with
    | ofNat m => exact Int.ofNat_le.2 (Nat.mod_le n m)
    | negSucc m => exact Int.ofNat_le.2 (Nat.mod_le n (m + 1))
  · obtain ⟨n, rfl⟩ : ∃ n : Nat, x = -(n : Int) := ⟨(-x).toNat, by omega⟩
    rw [Int.neg_tmod]
    have : ((n : Int)).tmod y ≤ n := by
      cases y with
      | ofNat m => exact Int.ofNat_le.2 (Nat.mod_le n m)
      | negSucc m => exact Int.ofNat_le.2 (Nat.mod_le n (m + 1))
    omega
  · obtain ⟨n, rfl⟩ : ∃ n : Nat, x = -(n : Int) := ⟨(-x).toNat, by omega⟩
    rw [Int.neg_tmod]
    have := Int.tmod_nonneg (a := (n : Int)) y (by omega)
    omega
theorem fdiv_inR {k : IntKind} {x : Int} (n : Nat) (hx : inR k x = true) : inR k (x.fdiv (2 ^ n)) = true := by
  have hp : (0 : Int) < 2 ^ n := Int.pow_pos (by omega)
  rw [Int.fdiv_eq_ediv_of_nonneg _ (by omega)]
  refine between_inR hx (fun h => ⟨Int.ediv_nonneg h (by omega), Int.ediv_le_self _ h⟩) (fun h => ⟨?_, ?_⟩)
  · have h1 : (1 : Int) ≤ 2 ^ n := hp
    have := Int.le_ediv_of_mul_le hp (a := x) (b := x) (by
      have : x * 2 ^ n ≤ x * 1 := Int.mul_le_mul_of_nonpos_left (by omega) h1
      omega)
    exact this
  · exact Int.le_of_lt (Int.ediv_neg_of_neg_of_pos h hp)

theorem arith_run {P : Program} {k op x y n} (h : arith k op x y = some n) (hp : arithP op y) (t : TypeId) (w : World) :
    (binOp op t (.int k x) (.int k y)).run P w = .ok (.int k n) w := by
  cases op <;> simp [arith] at h <;> subst h <;>
    simp [binOp, Op.intArith, Op.intDiv, Op.intBits, bitop, arithP] at hp ⊢ <;> simp [hp]
theorem arith_wrap {k op x y n} (hx : k.wrap x = x) (h : arith k op x y = some n) : k.wrap n = n := by
  cases op <;> simp [arith] at h <;> subst h <;> first
    | exact wrap_wrap _ _
    | exact inR_wrap (tmod_inR (wrap_iff.1 hx))
theorem shift_run {P : Program} {k k' op x y n} (h : shiftOp k op x y = some n) (hp : arithP op y) (t : TypeId) (w : World) :
    (binOp op t (.int k x) (.int k' y)).run P w = .ok (.int k n) w := by
  cases op <;> simp [shiftOp] at h <;> subst h <;> simp [arithP] at hp <;>
    simp [binOp, Op.shift, show ¬ y < 0 by omega]
theorem shift_wrap {k op x y n} (hx : k.wrap x = x) (h : shiftOp k op x y = some n) : k.wrap n = n := by
  cases op <;> simp [shiftOp] at h <;> subst h <;> first
    | exact wrap_wrap _ _
    | exact inR_wrap (fdiv_inR _ (wrap_iff.1 hx))
theorem cmp_run {P : Program} {k op x y b} (h : cmpI op x y = some b) (t : TypeId) (w : World) :
    (binOp op t (.int k x) (.int k y)).run P w = .ok (.bool b) w := by
  cases op <;> simp only [cmpI, Option.some.injEq, reduceCtorEq] at h <;> subst h <;> simp [binOp, Op.intCmp, bne] <;> rfl

/-! ### texts, bools -/

def cmpS (op : BinOp) (x y : List UInt8) : Option Bool := match op with
  | .eql => some (decide (x = y))
  | .neq => some (!decide (x = y))
  | .lss => some (Op.bytesLess x y)
  | .leq => some (Op.bytesLess x y || decide (x = y))
  | .gtr => some (!(Op.bytesLess x y || decide (x = y)))
  | .geq => some (!Op.bytesLess x y)
  | _ => none
theorem toList_mk (l : List UInt8) : ByteArray.toList ⟨⟨l⟩⟩ = l := by rw [ByteArray.toList_eq]
theorem cmpS_run {P : Program} {op x y b} (h : cmpS op x y = some b) (t : TypeId) (w : World) :
    (binOp op t (sv x) (sv y)).run P w = .ok (.bool b) w := by
  have hb : (x == y) = decide (x = y) := by rw [Bool.eq_iff_iff]; simp
  cases op <;> simp only [cmpS, Option.some.injEq, reduceCtorEq] at h <;> subst h <;> simp [binOp, sv, Op.stringOp, toList_mk, hb]
theorem addS_run {P : Program} {x y} (hl : ((x.length + y.length : Nat) : Int) ≤ maxI) (t : TypeId) (w : World) :
    (binOp .add t (sv x) (sv y)).run P w = .ok (sv (x ++ y)) w := by
  have hs : ∀ l : List UInt8, (⟨⟨l⟩⟩ : ByteArray).size = l.length := fun l => rfl
  have hm : IntKind.max .i64 = maxI := by decide
  have ha : (⟨⟨x⟩⟩ : ByteArray) ++ ⟨⟨y⟩⟩ = ⟨⟨x ++ y⟩⟩ := by
    apply ByteArray.ext; simp
  simp only [binOp, sv, Op.stringOp, hs, hm]
  rw [if_neg (by omega), ha]; rfl

end Go.Den
/- Trees in memory: the part at a path, a part put in its place; what the model's loads and stores do to them. -/
namespace Go.Den
open Go
set_option linter.unusedSectionVars false
set_option linter.unusedSimpArgs false
set_option linter.unusedVariables false

/-! ### parts -/

def tyAt (tb : Tab) : TypeId → List Nat → TypeId
  | t, [] => t
  | t, k :: rest => match td tb t with
    | .st fs => match fs[k]? with
      | some f => tyAt tb f.1 rest
      | none => 0
    | .arr _ u => tyAt tb u rest
    | _ => 0
def childE (k : Nat) : E → E
  | .agg xs => xs.getD k .nilp
  | _ => .nilp
def getE : List Nat → E → E
  | [], x => x
  | k :: rest, x => getE rest (childE k x)
def childT (k : Nat) : T → T
  | .e x => .e (childE k x)
  | .st xs => xs.getD k (.e .nilp)
  | _ => .e .nilp
def getT : List Nat → T → T
  | [], x => x
  | k :: rest, x => getT rest (childT k x)
def putChild (k : Nat) (y : T) : T → T
  | .e (.agg xs) => match y with
    | .e z => .e (.agg (xs.set k z))
    | y => .st ((xs.map .e).set k y)
  | .st xs => .st (xs.set k y)
  | x => x
def setT : List Nat → T → T → T
  | [], v, _ => v
  | k :: rest, v, x => putChild k (setT rest v (childT k x)) x

theorem tyAt_of {tb : Tab} : ∀ {p : List Nat} {t : TypeId} {o : Nat} {u : TypeId}, offT tb t p = some (o, u) → tyAt tb t p = u
  | [], t, o, u, h => by simp [offT] at h; exact h.2
  | k :: rest, t, o, u, h => by
    unfold offT at h; unfold tyAt
    split at h
    · rename_i fs ht
      try simp only [ht]
      split at h
      · rename_i f hf
        try simp only [hf]
        cases ho : offT tb f.1 rest with
        | none => simp [ho] at h
        | some r => simp [ho] at h; rw [← h.2]; exact tyAt_of (o := r.1) (u := r.2) ho
      · cases h
    · rename_i n v ht
      try simp only [ht]
      split at h
      · cases ho : offT tb v rest with
        | none => simp [ho] at h
        | some r => simp [ho] at h; rw [← h.2]; exact tyAt_of (o := r.1) (u := r.2) ho
      · cases h
    · cases h

theorem seg_seg {cs : List Value} {o n p m : Nat} (h : p + m ≤ n) : seg (seg cs o n) p m = seg cs (o + p) m := by
  apply List.ext_getElem?
  intro j
  rcases Nat.lt_or_ge j m with hj | hj
  · rw [seg_get hj, seg_get (show p + j < n by omega), seg_get hj, Nat.add_assoc]
  · rw [List.getElem?_eq_none (by simp [seg]; omega), List.getElem?_eq_none (by simp [seg]; omega)]
theorem seg_all {cs : List Value} : seg cs 0 cs.length = cs := by simp [seg]

variable {P : Program} {tb : Tab} (hT : TabOk P tb)

include hT in
theorem offT_le : ∀ {p : List Nat} {t : TypeId} {o : Nat} {u : TypeId}, offT tb t p = some (o, u) → o + sz tb u ≤ sz tb t
  | [], t, o, u, h => by simp [offT] at h; obtain ⟨rfl, rfl⟩ := h; omega
  | k :: rest, t, o, u, h => by
    unfold offT at h
    split at h
    · rename_i fs ht
      split at h
      · rename_i f hf
        cases ho : offT tb f.1 rest with
        | none => simp [ho] at h
        | some r =>
          simp [ho] at h; obtain ⟨rfl, rfl⟩ := h
          have h1 := offT_le (o := r.1) (u := r.2) ho
          have h2 := (fieldsEnd_spec (hT.sz_st ht)).2 k f hf
          omega
      · cases h
    · rename_i n v ht
      split at h
      · rename_i hk
        cases ho : offT tb v rest with
        | none => simp [ho] at h
        | some r =>
          simp [ho] at h; obtain ⟨rfl, rfl⟩ := h
          have h1 := offT_le (o := r.1) (u := r.2) ho
          have h2 := hT.sz_arr ht
          have h3 : (k + 1) * sz tb v ≤ n * sz tb v := Nat.mul_le_mul_right _ hk
          rw [Nat.add_mul] at h3
          omega
      · cases h
    · cases h

theorem Rd.child {H : Gh} {t cs x} (r : Rd tb H t cs x) :
    (∀ fs, td tb t = .st fs → ∀ (k : Nat) f, fs[k]? = some f → Rd tb H f.1 (seg cs f.2 (sz tb f.1)) (childE k x)) ∧
    (∀ n u, td tb t = .arr n u → ∀ k, k < n → Rd tb H u (seg cs (k * sz tb u) (sz tb u)) (childE k x)) := by
  cases r with
  | @st t fs cs xs a b c d =>
    refine ⟨fun gs hg k f hf => ?_, fun n u hg => ?_⟩
    · rw [a] at hg; cases hg
      have hk : k < xs.length := by rw [c]; exact (List.getElem?_eq_some_iff.1 hf).1
      have := d k f xs[k] hf (List.getElem?_eq_getElem hk)
      simpa [childE, hk] using this
    · rw [a] at hg; cases hg
  | @arr t n u cs xs a b c d =>
    refine ⟨fun gs hg => ?_, fun m v hg k hk => ?_⟩
    · rw [a] at hg; cases hg
    · rw [a] at hg; cases hg
      have hk' : k < xs.length := by rw [c]; exact hk
      have := d k xs[k] (List.getElem?_eq_getElem hk')
      simpa [childE, hk'] using this
  | _ a => exact ⟨fun gs hg => (by rw [a] at hg; cases hg), fun n u hg => (by rw [a] at hg; cases hg)⟩

theorem TRel.child {H : Gh} {β σ t cs x} (r : TRel tb H β σ t cs x) :
    (∀ fs, td tb t = .st fs → ∀ (k : Nat) f, fs[k]? = some f → TRel tb H β σ f.1 (seg cs f.2 (sz tb f.1)) (childT k x)) ∧
    (∀ n u, td tb t = .arr n u → ∀ k, k < n → TRel tb H β σ u (seg cs (k * sz tb u) (sz tb u)) (childT k x)) := by
  cases r with
  | e a => exact ⟨fun fs hg k f hf => .e (a.child.1 fs hg k f hf), fun n u hg k hk => .e (a.child.2 n u hg k hk)⟩
  | @st t fs cs xs a b c d =>
    refine ⟨fun gs hg k f hf => ?_, fun n u hg => ?_⟩
    · rw [a] at hg; cases hg
      have hk : k < xs.length := by rw [c]; exact (List.getElem?_eq_some_iff.1 hf).1
      have := d k f xs[k] hf (List.getElem?_eq_getElem hk)
      simpa [childT, hk] using this
    · rw [a] at hg; cases hg
  | @arr t n u cs xs a b c d =>
    refine ⟨fun gs hg => ?_, fun m v hg k hk => ?_⟩
    · rw [a] at hg; cases hg
    · rw [a] at hg; cases hg
      have hk' : k < xs.length := by rw [c]; exact hk
      have := d k xs[k] (List.getElem?_eq_getElem hk')
      simpa [childT, hk'] using this
  | _ a => exact ⟨fun gs hg => (by rw [a] at hg; cases hg), fun n u hg => (by rw [a] at hg; cases hg)⟩

include hT in
theorem TRel.part {H : Gh} {β σ} : ∀ {p : List Nat} {t cs x o u}, TRel tb H β σ t cs x → offT tb t p = some (o, u) → TRel tb H β σ u (seg cs o (sz tb u)) (getT p x)
  | [], t, cs, x, o, u, r, h => by
    simp [offT] at h; obtain ⟨rfl, rfl⟩ := h
    rw [← r.len hT, seg_all]; exact r
  | k :: rest, t, cs, x, o, u, r, h => by
    unfold offT at h
    split at h
    · rename_i fs ht
      split at h
      · rename_i f hf
        cases ho : offT tb f.1 rest with
        | none => simp [ho] at h
        | some q =>
          simp [ho] at h; obtain ⟨rfl, rfl⟩ := h
          have := TRel.part (r.child.1 fs ht k f hf) (o := q.1) (u := q.2) ho
          rwa [seg_seg (offT_le hT (o := q.1) (u := q.2) ho)] at this
      · cases h
    · rename_i n v ht
      split at h
      · rename_i hk
        cases ho : offT tb v rest with
        | none => simp [ho] at h
        | some q =>
          simp [ho] at h; obtain ⟨rfl, rfl⟩ := h
          have := TRel.part (r.child.2 n v ht k hk) (o := q.1) (u := q.2) ho
          rwa [seg_seg (offT_le hT (o := q.1) (u := q.2) ho)] at this
      · cases h
    · cases h
include hT in
theorem Rd.part {H : Gh} : ∀ {p : List Nat} {t cs x o u}, Rd tb H t cs x → offT tb t p = some (o, u) → Rd tb H u (seg cs o (sz tb u)) (getE p x)
  | [], t, cs, x, o, u, r, h => by
    simp [offT] at h; obtain ⟨rfl, rfl⟩ := h
    rw [← r.len hT, seg_all]; exact r
  | k :: rest, t, cs, x, o, u, r, h => by
    unfold offT at h
    split at h
    · rename_i fs ht
      split at h
      · rename_i f hf
        cases ho : offT tb f.1 rest with
        | none => simp [ho] at h
        | some q =>
          simp [ho] at h; obtain ⟨rfl, rfl⟩ := h
          have := Rd.part (r.child.1 fs ht k f hf) (o := q.1) (u := q.2) ho
          rwa [seg_seg (offT_le hT (o := q.1) (u := q.2) ho)] at this
      · cases h
    · rename_i n v ht
      split at h
      · rename_i hk
        cases ho : offT tb v rest with
        | none => simp [ho] at h
        | some q =>
          simp [ho] at h; obtain ⟨rfl, rfl⟩ := h
          have := Rd.part (r.child.2 n v ht k hk) (o := q.1) (u := q.2) ho
          rwa [seg_seg (offT_le hT (o := q.1) (u := q.2) ho)] at this
      · cases h
    · cases h

/-! ### a part put in its place -/

def splice (cs : List Value) (o : Nat) (vs : List Value) : List Value := cs.take o ++ vs ++ cs.drop (o + vs.length)
theorem splice_length {cs vs : List Value} {o : Nat} (h : o + vs.length ≤ cs.length) : (splice cs o vs).length = cs.length := by simp [splice]; omega
theorem splice_get {cs vs : List Value} {o j : Nat} (h : o + vs.length ≤ cs.length) :
    (splice cs o vs)[j]? = if j < o then cs[j]? else if j < o + vs.length then vs[j - o]? else cs[j]? := by
  unfold splice
  by_cases h1 : j < o
  · rw [if_pos h1, List.append_assoc, List.getElem?_append_left (by simp; omega), List.getElem?_take_of_lt h1]
  · rw [if_neg h1]
    by_cases h2 : j < o + vs.length
    · rw [if_pos h2, List.append_assoc, List.getElem?_append_right (by simp; omega), List.getElem?_append_left (by simp; omega)]
      congr 1; simp; omega
    · rw [if_neg h2, List.getElem?_append_right (by simp; omega), List.getElem?_drop]
      congr 1; simp; omega
theorem splice_all {cs vs : List Value} (h : vs.length = cs.length) : splice cs 0 vs = vs := by simp [splice, h]
theorem seg_splice_in {cs vs : List Value} {o n p : Nat} (h : p + vs.length ≤ n) (hn : o + n ≤ cs.length) : seg (splice cs (o + p) vs) o n = splice (seg cs o n) p vs := by
  apply List.ext_getElem?
  intro j
  rcases Nat.lt_or_ge j n with hj | hj
  · rw [seg_get hj, splice_get (by omega), splice_get (by rw [seg_length hn]; exact h)]
    by_cases h1 : j < p
    · rw [if_pos (by omega), if_pos h1, seg_get hj]
    · rw [if_neg (by omega), if_neg h1]
      by_cases h2 : j < p + vs.length
      · rw [if_pos (by omega), if_pos h2]; congr 1; omega
      · rw [if_neg (by omega), if_neg h2, seg_get hj]
  · rw [List.getElem?_eq_none (by simp [seg]; omega), List.getElem?_eq_none (by rw [splice_length (by rw [seg_length hn]; exact h), seg_length hn]; exact hj)]
theorem seg_splice_out {cs vs : List Value} {o n q : Nat} (h : o + n ≤ q ∨ q + vs.length ≤ o) (hq : q + vs.length ≤ cs.length) : seg (splice cs q vs) o n = seg cs o n := by
  apply List.ext_getElem?
  intro j
  rcases Nat.lt_or_ge j n with hj | hj
  · rw [seg_get hj, seg_get hj, splice_get hq]
    by_cases h1 : o + j < q
    · rw [if_pos h1]
    · rw [if_neg h1, if_neg (by omega)]
  · rw [List.getElem?_eq_none (by simp [seg]; omega), List.getElem?_eq_none (by simp [seg]; omega)]

theorem getD_set_self' {α : Type} {xs : List α} {k : Nat} {y d : α} (h : k < xs.length) : (xs.set k y)[k]? = some y := by simp [h]

theorem TRel.st_inv {H : Gh} {β σ t cs xs fs} (h : TRel tb H β σ t cs (.st xs)) (a : td tb t = .st fs) :
    cs.length = sz tb t ∧ xs.length = fs.length ∧ ∀ (i : Nat) (f : TypeId × Nat) (x : T), fs[i]? = some f → xs[i]? = some x → TRel tb H β σ f.1 (seg cs f.2 (sz tb f.1)) x := by
  cases h with
  | st a' b c d => rw [a] at a'; cases a'; exact ⟨b, c, d⟩
  | arr a' => rw [a] at a'; cases a'
theorem TRel.arr_inv {H : Gh} {β σ t cs xs n u} (h : TRel tb H β σ t cs (.st xs)) (a : td tb t = .arr n u) :
    cs.length = n * sz tb u ∧ xs.length = n ∧ ∀ (i : Nat) (x : T), xs[i]? = some x → TRel tb H β σ u (seg cs (i * sz tb u) (sz tb u)) x := by
  cases h with
  | arr a' b c d => rw [a] at a'; cases a'; exact ⟨b, c, d⟩
  | st a' => rw [a] at a'; cases a'

include hT in
theorem TRel.putChild {H : Gh} {β σ t cs x} (r : TRel tb H β σ t cs x) :
    (∀ fs, td tb t = .st fs → ∀ (k : Nat) f ws y, fs[k]? = some f → TRel tb H β σ f.1 ws y → TRel tb H β σ t (splice cs f.2 ws) (Den.putChild k y x)) ∧
    (∀ n u, td tb t = .arr n u → ∀ (k : Nat) ws y, k < n → TRel tb H β σ u ws y → TRel tb H β σ t (splice cs (k * sz tb u) ws) (Den.putChild k y x)) := by
  have hlen := r.len hT
  have stc : ∀ fs, td tb t = .st fs → ∀ (k : Nat) f ws y, fs[k]? = some f → TRel tb H β σ f.1 ws y → ∀ xs : List T, xs.length = fs.length →
      (∀ (i : Nat) f x, fs[i]? = some f → xs[i]? = some x → TRel tb H β σ f.1 (seg cs f.2 (sz tb f.1)) x) → TRel tb H β σ t (splice cs f.2 ws) (.st (xs.set k y)) := by
    intro fs ht k f ws y hf hy xs hx hr
    have hs := fieldsEnd_spec (hT.sz_st ht)
    have hk := hs.2 k f hf
    have hw := hy.len hT
    refine .st ht (by rw [splice_length (by omega)]; exact hlen) (by simpa using hx) fun i g z hg hz => ?_
    have hi := hs.2 i g hg
    by_cases hik : k = i
    · subst hik
      rw [hf] at hg; cases hg
      have hk' : k < xs.length := by rw [hx]; exact (List.getElem?_eq_some_iff.1 hf).1
      rw [getD_set_self' (d := y) hk'] at hz; cases hz
      have := seg_splice_in (cs := cs) (vs := ws) (o := f.2) (n := sz tb f.1) (p := 0) (by omega) (by omega)
      rw [Nat.add_zero] at this
      rw [this, splice_all (by rw [seg_length (by omega)]; exact hw)]
      exact hy
    · rw [List.getElem?_set_ne hik] at hz
      rw [seg_splice_out ?_ (by omega)]
      · exact hr i g z hg hz
      · rcases Nat.lt_or_ge i k with h | h
        · have := hi.2.2 k f h hf; omega
        · have := hk.2.2 i g (by omega) hg; omega
  have arc : ∀ n u, td tb t = .arr n u → ∀ (k : Nat) ws y, k < n → TRel tb H β σ u ws y → ∀ xs : List T, xs.length = n →
      (∀ (i : Nat) x, xs[i]? = some x → TRel tb H β σ u (seg cs (i * sz tb u) (sz tb u)) x) → TRel tb H β σ t (splice cs (k * sz tb u) ws) (.st (xs.set k y)) := by
    intro n u ht k ws y hk hy xs hx hr
    have hw := hy.len hT
    have hsz := hT.sz_arr ht
    have hle : ∀ i, i < n → i * sz tb u + sz tb u ≤ n * sz tb u := fun i hi => by
      have := Nat.mul_le_mul_right (sz tb u) (show i + 1 ≤ n from hi); rwa [Nat.add_mul, Nat.one_mul] at this
    have hk2 := hle k hk
    refine .arr ht (by rw [splice_length (by omega)]; omega) (by simpa using hx) fun i z hz => ?_
    have hin : i < n := by have := (List.getElem?_eq_some_iff.1 hz).1; simp at this; omega
    have hi2 := hle i hin
    by_cases hik : k = i
    · subst hik
      rw [getD_set_self' (d := y) (by omega)] at hz; cases hz
      have := seg_splice_in (cs := cs) (vs := ws) (o := k * sz tb u) (n := sz tb u) (p := 0) (by omega) (by omega)
      rw [Nat.add_zero] at this
      rw [this, splice_all (by rw [seg_length (by omega)]; exact hw)]
      exact hy
    · rw [List.getElem?_set_ne hik] at hz
      rw [seg_splice_out ?_ (by omega)]
      · exact hr i z hz
      · rcases Nat.lt_or_ge i k with h | h
        · have := Nat.mul_le_mul_right (sz tb u) (show i + 1 ≤ k from h); rw [Nat.add_mul, Nat.one_mul] at this; omega
        · have := Nat.mul_le_mul_right (sz tb u) (show k + 1 ≤ i by omega); rw [Nat.add_mul, Nat.one_mul] at this; omega
  have toE : ∀ t' cs' z, TRel tb H β σ t' cs' (.e z) → Rd tb H t' cs' z := fun t' cs' z h => h.rd
  cases r with
  | e a =>
    cases a with
    | @st t fs cs xs a b c d =>
      refine ⟨fun gs hg k f ws y hf hy => ?_, fun n u hg => (by rw [a] at hg; cases hg)⟩
      rw [a] at hg; cases hg
      have key := stc fs a k f ws y hf hy (xs.map .e) (by simpa using c) (fun i g z hg hz => by
        simp only [List.getElem?_map, Option.map_eq_some_iff] at hz
        obtain ⟨q, hq, rfl⟩ := hz
        exact .e (d i g q hg hq))
      cases y with
      | e z =>
        simp only [Den.putChild]
        obtain ⟨b', c', d'⟩ := key.st_inv a
        refine .e (.st a b' (by simpa using c) fun i g q hg hq => (d' i g (.e q) hg ?_).rd)
        rw [← List.map_set, List.getElem?_map, hq]; rfl
      | _ => exact key
    | @arr t n u cs xs a b c d =>
      refine ⟨fun gs hg => (by rw [a] at hg; cases hg), fun m v hg k ws y hk hy => ?_⟩
      rw [a] at hg; cases hg
      have key := arc n u a k ws y hk hy (xs.map .e) (by simpa using c) (fun i z hz => by
        simp only [List.getElem?_map, Option.map_eq_some_iff] at hz
        obtain ⟨q, hq, rfl⟩ := hz
        exact .e (d i q hq))
      cases y with
      | e z =>
        simp only [Den.putChild]
        obtain ⟨b', c', d'⟩ := key.arr_inv a
        refine .e (.arr a b' (by simpa using c) fun i q hq => (d' i (.e q) ?_).rd)
        rw [← List.map_set, List.getElem?_map, hq]; rfl
      | _ => exact key
    | _ a => exact ⟨fun gs hg => (by rw [a] at hg; cases hg), fun n u hg => (by rw [a] at hg; cases hg)⟩
  | @st t fs cs xs a b c d =>
    refine ⟨fun gs hg k f ws y hf hy => ?_, fun n u hg => (by rw [a] at hg; cases hg)⟩
    rw [a] at hg; cases hg
    exact stc fs a k f ws y hf hy xs c d
  | @arr t n u cs xs a b c d =>
    refine ⟨fun gs hg => (by rw [a] at hg; cases hg), fun m v hg k ws y hk hy => ?_⟩
    rw [a] at hg; cases hg
    exact arc n u a k ws y hk hy xs c d
  | _ a => exact ⟨fun gs hg => (by rw [a] at hg; cases hg), fun n u hg => (by rw [a] at hg; cases hg)⟩

include hT in
theorem TRel.put {H : Gh} {β σ} : ∀ {p : List Nat} {t cs x o u ws y}, TRel tb H β σ t cs x → offT tb t p = some (o, u) → TRel tb H β σ u ws y → TRel tb H β σ t (splice cs o ws) (setT p y x)
  | [], t, cs, x, o, u, ws, y, r, h, hy => by
    simp [offT] at h; obtain ⟨rfl, rfl⟩ := h
    rw [splice_all (by rw [r.len hT, hy.len hT])]; exact hy
  | k :: rest, t, cs, x, o, u, ws, y, r, h, hy => by
    unfold offT at h
    split at h
    · rename_i fs ht
      split at h
      · rename_i f hf
        cases ho : offT tb f.1 rest with
        | none => simp [ho] at h
        | some q =>
          simp [ho] at h; obtain ⟨rfl, rfl⟩ := h
          have hc := r.child.1 fs ht k f hf
          have hle := offT_le hT (o := q.1) (u := q.2) ho
          have hfs := (fieldsEnd_spec (hT.sz_st ht)).2 k f hf
          have hlen := r.len hT
          have hw := hy.len hT
          have h1 := TRel.put hc (o := q.1) (u := q.2) ho hy
          have h2 := (r.putChild hT).1 fs ht k f _ _ hf h1
          rw [← seg_splice_in (by omega) (by omega)] at h2
          have : splice cs f.2 (seg (splice cs (f.2 + q.1) ws) f.2 (sz tb f.1)) = splice cs (f.2 + q.1) ws := by
            apply List.ext_getElem?
            intro j
            have hsl : (seg (splice cs (f.2 + q.1) ws) f.2 (sz tb f.1)).length = sz tb f.1 := seg_length (by rw [splice_length (by omega)]; omega)
            rw [splice_get (by omega), hsl, splice_get (by omega)]
            by_cases h1 : j < f.2
            · rw [if_pos h1, if_pos (by omega)]
            · rw [if_neg h1]
              by_cases h2 : j < f.2 + sz tb f.1
              · rw [if_pos h2, seg_get (by omega), splice_get (by omega), show f.2 + (j - f.2) = j by omega]
              · rw [if_neg h2, if_neg (by omega), if_neg (by omega)]
          rw [this] at h2
          exact h2
      · cases h
    · rename_i n v ht
      split at h
      · rename_i hk
        cases ho : offT tb v rest with
        | none => simp [ho] at h
        | some q =>
          simp [ho] at h; obtain ⟨rfl, rfl⟩ := h
          have hc := r.child.2 n v ht k hk
          have hle := offT_le hT (o := q.1) (u := q.2) ho
          have hlen := r.len hT
          have hw := hy.len hT
          have hsz := hT.sz_arr ht
          have hfs : k * sz tb v + sz tb v ≤ n * sz tb v := by
            have := Nat.mul_le_mul_right (sz tb v) (show k + 1 ≤ n from hk); rwa [Nat.add_mul, Nat.one_mul] at this
          have h1 := TRel.put hc (o := q.1) (u := q.2) ho hy
          have h2 := (r.putChild hT).2 n v ht k _ _ hk h1
          rw [← seg_splice_in (by omega) (by omega)] at h2
          have : splice cs (k * sz tb v) (seg (splice cs (k * sz tb v + q.1) ws) (k * sz tb v) (sz tb v)) = splice cs (k * sz tb v + q.1) ws := by
            apply List.ext_getElem?
            intro j
            have hsl : (seg (splice cs (k * sz tb v + q.1) ws) (k * sz tb v) (sz tb v)).length = sz tb v := seg_length (by rw [splice_length (by omega)]; omega)
            rw [splice_get (by omega), hsl, splice_get (by omega)]
            by_cases h1 : j < k * sz tb v
            · rw [if_pos h1, if_pos (by omega)]
            · rw [if_neg h1]
              by_cases h2 : j < k * sz tb v + sz tb v
              · rw [if_pos h2, seg_get (by omega), splice_get (by omega), show k * sz tb v + (j - k * sz tb v) = j by omega]
              · rw [if_neg h2, if_neg (by omega), if_neg (by omega)]
          rw [this] at h2
          exact h2
      · cases h
    · cases h

end Go.Den
