import Derived.WalkKit
import Derived.Below
import Derived.Laws.CopyRow
import Derived.Laws.BytesArg
import Derived.OrdersHeld
import Derived.KernelRfl
set_option linter.all false
namespace Go.Proofs.YtfhphiedbdinmaaGreatDoor.Ab
open Go
noncomputable section
inductive Ty where
 | int (k : IntKind) | bool | str | nil | cons (a b : Ty) | sl (t : Ty)
def Ty.beq : Ty -> Ty -> Bool
 | .int j, .int k => match j, k with
   | .i64, .i64 | .u8, .u8 | .i8, .i8 | .i16, .i16 | .i32, .i32 | .u16, .u16 | .u32, .u32 | .u64, .u64 => true
   | _, _ => false
 | .bool, .bool => true
 | .str, .str => true
 | .nil, .nil => true
 | .cons a b, .cons c d => Ty.beq a c && Ty.beq b d
 | .sl a, .sl b => Ty.beq a b
 | _, _ => false
theorem Ty.eq_of_beq : ∀ {a b : Ty}, Ty.beq a b = true -> a = b
 | .int j, .int k, h => by cases j <;> cases k <;> first | rfl | (simp [Ty.beq] at h)
 | .bool, .bool, _ => rfl
 | .str, .str, _ => rfl
 | .nil, .nil, _ => rfl
 | .cons a b, .cons c d, h => by
   simp only [Ty.beq, Bool.and_eq_true] at h
   rw [Ty.eq_of_beq h.1, Ty.eq_of_beq h.2]
 | .sl a, .sl b, h => by simp only [Ty.beq] at h; rw [Ty.eq_of_beq h]
 | .int _, .bool, h | .int _, .str, h | .int _, .nil, h | .int _, .cons _ _, h | .int _, .sl _, h => by simp [Ty.beq] at h
 | .bool, .int _, h | .bool, .str, h | .bool, .nil, h | .bool, .cons _ _, h | .bool, .sl _, h => by simp [Ty.beq] at h
 | .str, .int _, h | .str, .bool, h | .str, .nil, h | .str, .cons _ _, h | .str, .sl _, h => by simp [Ty.beq] at h
 | .nil, .int _, h | .nil, .bool, h | .nil, .str, h | .nil, .cons _ _, h | .nil, .sl _, h => by simp [Ty.beq] at h
 | .cons _ _, .int _, h | .cons _ _, .bool, h | .cons _ _, .str, h | .cons _ _, .nil, h | .cons _ _, .sl _, h => by simp [Ty.beq] at h
 | .sl _, .int _, h | .sl _, .bool, h | .sl _, .str, h | .sl _, .nil, h | .sl _, .cons _ _, h => by simp [Ty.beq] at h
def Ty.den : Ty -> Type
 | .int _ => Int | .bool => Bool | .str => ByteArray | .nil => Unit | .cons a b => a.den × b.den | .sl t => List t.den
def Ty.width : Ty -> Nat
 | .nil => 0 | .cons a b => a.width + b.width | _ => 1
def Ty.zero : (t : Ty) -> t.den
 | .int _ => (0 : Int) | .bool => false | .str => ByteArray.empty | .nil => () | .cons a b => (a.zero, b.zero) | .sl _ => []
inductive CV where
 | val (v : Value)
 | sl (t : Ty) (l : List t.den)
 | ptr (b off : Nat)
 | row (b : Nat)
 | fn (f : FuncId) (caps : List (Nat × Nat))
 | rp (t : Ty) (x : t.den) (off : Nat)
 | vw (b n c : Nat)
 | mp (b w i off : Nat)
 | mv (b w lo hi : Nat)
 | mpr (b : Nat)
 | any
inductive AV where
 | one (c : CV) | agg (l : List CV) | tup (l : List (Bool × List CV))
inductive Blk where
 | cells (l : List CV) (t : TypeId) | row (e : TypeId) (t : Ty) (l : List t.den) | mrow (e : TypeId) (t : Ty) (l : List t.den) | fmap (l : List (Int × FuncId)) | dead
structure St where
 tm : List (Nat × AV)
 st : List (Nat × Blk)
 n : Nat
 nt : Nat
inductive AExit where
 | normal | exit (id : Nat) | ret
def look {α : Type} : List (Nat × α) -> Nat -> Option α
 | [], _ => none
 | (k, v) :: l, d => match Nat.beq k d with
   | true => some v
   | false => look l d
def ofVal : Value -> AV
 | .agg cs => match cs.toList.all (·.oneCell') with
   | true => .agg (cs.toList.map .val)
   | false => .one .any
 | v => .one (.val v)
def St.get (s : St) (d : Nat) : AV := match look s.tm d with | some v => v | none => .one .any
def aval (s : St) : Operand -> AV
 | .tmp t => s.get t | .const v => ofVal v | .global _ => .one .any | .func f => .one (.fn f [])
def soft : Ty -> Bool
 | .cons .str .nil => true
 | _ => false
def soft3 : Ty -> Bool
 | .cons (.int _) (.cons (.int _) (.cons (.int _) _)) => true
 | _ => false
def viewOf (w : Nat) : (t : Ty) -> List t.den -> Option ((u : Ty) × List u.den)
 | .cons .str .nil, l => match Nat.beq w 1 with
   | true => some ⟨.str, l.map fun x => x.1⟩
   | false => none
 | t, l => match Nat.beq w t.width with
   | true => some ⟨t, l⟩
   | false => none
def St.derefC (s : St) : CV -> CV
 | .row b => match look s.st b with
   | some (.row _ t l) => .sl t l
   | _ => .row b
 | .mv b w lo hi => match look s.st b with
   | some (.row _ t l) => match viewOf w t l with
     | some ⟨u, l⟩ => .sl u ((l.take hi).drop lo)
     | none => .mv b w lo hi
   | _ => .mv b w lo hi
 | c => c
def St.deref (s : St) : AV -> AV
 | .one c => .one (s.derefC c)
 | .agg l => .agg (l.map s.derefC)
 | .tup l => .tup (l.map fun p => (p.1, p.2.map s.derefC))
def avalR (s : St) (x : Operand) : AV := s.deref (aval s x)
def St.mrowOf (s : St) (b : Nat) : Option (TypeId × (t : Ty) × List t.den) := match look s.st b with
 | some (.mrow e t l) => some (e, ⟨t, l⟩)
 | _ => none
def St.frzC (s : St) : CV -> St
 | .row b => match look s.st b with
   | some (.mrow e t l) => { s with st := (b, .row e t l) :: s.st }
   | _ => s
 | .mv b _ _ _ => match look s.st b with
   | some (.mrow e t l) => { s with st := (b, .row e t l) :: s.st }
   | _ => s
 | _ => s
def St.frzL (s : St) (l : List CV) : St := l.foldl St.frzC s
def St.frz (s : St) : AV -> St
 | .one c => s.frzC c
 | .agg l => s.frzL l
 | .tup l => l.foldl (fun s p => s.frzL p.2) s
def frzArgs (s : St) (l : List Operand) : St := l.foldl (fun s x => s.frz (aval s x)) s
def AV.cells : AV -> Option (List CV)
 | .one .any => none
 | .one (.val (.agg _)) => none
 | .one (.val (.tuple _)) => none
 | .one c => some [c]
 | .agg l => some l
 | .tup _ => none
def runPure {α : Type} (P : Program) : Sem α -> Option α
 | .pure a => some a
 | .program k => runPure P (k P)
 | _ => none
def isAggB (P : Program) (t : TypeId) : Option Bool := match P.underlying t with
 | some (.struct _) | some (.array ..) => some true
 | some _ => some false
 | none => none
def szOf (P : Program) (t : TypeId) : Option Nat := match P.info? t with
 | some i => some i.size
 | none => none
def mkAV (P : Program) (t : TypeId) (l : List CV) : Option AV :=
 match isAggB P t with
 | some true => match szOf P t with
   | some n => match Nat.ble n l.length with
     | true => some (.agg (l.take n))
     | false => none
   | none => none
 | some false => match l with
   | c :: _ => some (.one c)
   | [] => none
 | none => none
def cellsCV : (t : Ty) -> t.den -> List CV
 | .int k, x => [.val (.int k x)]
 | .bool, x => [.val (.bool x)]
 | .str, x => [.val (.string x)]
 | .nil, _ => []
 | .cons a b, x => cellsCV a x.1 ++ cellsCV b x.2
 | .sl t, l => [.sl t l]
def toAV (t : Ty) (x : t.den) : AV := match t, x with
 | .nil, x => .agg (cellsCV .nil x)
 | .cons a b, x => .agg (cellsCV (.cons a b) x)
 | .int k, x => .one (.val (.int k x))
 | .bool, x => .one (.val (.bool x))
 | .str, x => .one (.val (.string x))
 | .sl t, x => .one (.sl t x)
def castL {a b : Ty} (h : Ty.beq a b = true) (l : List a.den) : List b.den := Ty.eq_of_beq h ▸ l
def unInt (k : IntKind) : CV -> Option Int
 | .val (.int j n) => match Ty.beq (.int j) (.int k) with | true => some n | false => none
 | _ => none
def unBool : CV -> Option Bool
 | .val (.bool b) => some b
 | _ => none
def unStr : CV -> Option ByteArray
 | .val (.string b) => some b
 | _ => none
def unSl (t : Ty) : CV -> Option (List t.den)
 | .sl u x => match h : Ty.beq u t with | true => some (castL h x) | false => none
 | .val (.slice none 0 0) => some []
 | _ => none
def unCV : (t : Ty) -> List CV -> Option (t.den × List CV)
 | .int k, l => match l with
   | c :: l => match unInt k c with
     | some x => some (x, l)
     | none => none
   | [] => none
 | .bool, l => match l with
   | c :: l => match unBool c with
     | some x => some (x, l)
     | none => none
   | [] => none
 | .str, l => match l with
   | c :: l => match unStr c with
     | some x => some (x, l)
     | none => none
   | [] => none
 | .nil, l => some ((), l)
 | .cons a b, l => match unCV a l with
   | some (x, l) => match unCV b l with
     | some (y, l) => some ((x, y), l)
     | none => none
   | none => none
 | .sl t, l => match l with
   | c :: l => match unSl t c with
     | some x => some (x, l)
     | none => none
   | [] => none
def isAggT : Ty -> Bool
 | .nil => true | .cons _ _ => true | _ => false
def unAV (t : Ty) (v : AV) : Option t.den := match isAggT t, v with
 | true, .agg l => match unCV t l with
   | some (x, []) => some x
   | _ => none
 | false, .one c => match unCV t [c] with
   | some (x, []) => some x
   | _ => none
 | _, _ => none
def unRow (t : Ty) : Nat -> List CV -> Option (List t.den)
 | 0, [] => some []
 | 0, _ :: _ => none
 | n + 1, l => match unCV t l with
   | some (x, l) => match unRow t n l with
     | some xs => some (x :: xs)
     | none => none
   | none => none
def Ty.app : Ty -> Ty -> Ty
 | .nil, b => b
 | .cons a c, b => .cons a (Ty.app c b)
 | a, b => .cons a b
def tyFs (e : TypeId -> Option Ty) : List Field -> Option Ty
 | [] => some .nil
 | f :: fs => match e f.type, tyFs e fs with
   | some a, some b => some (Ty.app a b)
   | _, _ => none
def tyOf (P : Program) : Nat -> TypeId -> Option Ty
 | 0, _ => none
 | d + 1, t => match P.underlying t with
   | some (.int k) => some (.int k)
   | some .bool => some .bool
   | some .string => some .str
   | some (.slice e) => match tyOf P d e with
     | some a => some (.sl a)
     | none => none
   | some (.struct fs) => tyFs (tyOf P d) fs.toList
   | some (.array n e) => match Nat.ble n 16, tyOf P d e with
     | true, some a => some (Nat.rec .nil (fun _ r => Ty.app a r) n)
     | _, _ => none
   | _ => none
structure Sig where
 args : List Ty
 res : List Ty
 den : (args.foldr Ty.cons .nil).den -> Option (res.foldr Ty.cons .nil).den
def argsOf : (ts : List Ty) -> List AV -> Option (ts.foldr Ty.cons .nil).den
 | [], [] => some ()
 | t :: ts, v :: vs => match unAV t v with
   | some x => match argsOf ts vs with
     | some y => some (x, y)
     | none => none
   | none => none
 | _, _ => none
def tupOf : (ts : List Ty) -> (ts.foldr Ty.cons .nil).den -> List (Bool × List CV)
 | [], _ => []
 | t :: ts, x => (isAggT t, cellsCV t x.1) :: tupOf ts x.2
def resOf : (ts : List Ty) -> (ts.foldr Ty.cons .nil).den -> AV
 | [t], x => toAV t x.1
 | ts, x => .tup (tupOf ts x)
def wideT (t : Ty) : Bool := Nat.ble 2 t.width || soft t
def share {α β : Type} (x : α) (f : α -> Option β) : Option β := f x
def both {β : Type} (x y : Option β) : Option β := @ite _ (x = y) (Classical.propDecidable _) x none
def both2 {β : Type} (x : Option β) : Option β := both x x
theorem both2_eq {β : Type} (x : Option β) : both2 x = x := by unfold both2 both; split <;> first | rfl | (rename_i h; exact (h rfl).elim)
def shareIf {α β : Type} (b : Bool) (x : α) (f : α -> Option β) : Option β := match b with
 | true => share x f
 | false => f x
def allWays {γ β : Type} (f : γ -> Option β) : List γ -> Option β
 | [] => none
 | [x] => f x
 | x :: y :: l => both (f x) (allWays f (y :: l))
section
variable {α : Type} (P : Program)
def St.put (s : St) (d : Option Nat) (v : AV) (K : St -> Option α) : Option α := match d with
 | none => K s
 | some d => match Nat.blt d s.nt with
   | true => K { s with tm := (d, v) :: s.tm }
   | false => none
def fillCV (place : Nat -> Option (Nat × Nat)) (l : List CV) : List (Nat × AV) -> Option (List CV)
 | [] => some l
 | (i, v) :: rest => match place i with
   | some (off, size) => match v.cells with
     | some c => match Nat.beq c.length size && Nat.ble (off + size) l.length with
       | true => fillCV place (l.take off ++ c ++ l.drop (off + size)) rest
       | false => none
     | none => none
   | none => none
def byteAt (s : ByteArray) (i : Int) : Int := (s.data.toList.getD i.toNat 0).toNat
def i64 (n : Int) : AV := .one (.val (.int .i64 n))
def aeqFs (P : Program) (e : TypeId -> AV -> AV -> Option Bool) (l m : List CV) : List Field -> Option Bool
 | [] => some true
 | f :: fs => match f.name == "_" with
   | true => aeqFs P e l m fs
   | false => match mkAV P f.type (l.drop f.offset), mkAV P f.type (m.drop f.offset) with
     | some p, some q => match e f.type p q with
       | some b => match aeqFs P e l m fs with
         | some c => some (b && c)
         | none => none
       | none => none
     | _, _ => none
def aeq (P : Program) : Nat -> TypeId -> AV -> AV -> Option Bool
 | 0, _, _, _ => none
 | d + 1, t, x, y => match P.underlying t with
   | some (.struct fs) => match P.stoodInHeld t with
     | true => none
     | false => match x, y with
       | .agg l, .agg m => aeqFs P (aeq P d) l m fs.toList
       | _, _ => none
   | some (.int _) => match x, y with
     | .one (.val (.int k a)), .one (.val (.int k' b)) => match Ty.beq (.int k) (.int k') with | true => some (a == b) | false => none
     | _, _ => none
   | some .string => match x, y with
     | .one (.val (.string a)), .one (.val (.string b)) => some (a.toList == b.toList)
     | _, _ => none
   | some .bool => match x, y with
     | .one (.val (.bool a)), .one (.val (.bool b)) => some (a == b)
     | _, _ => none
   | _ => none
def cutHigh (hi : Option AV) (n : Nat) (K : Int -> Nat -> Option α) : Option α := match hi with
 | none => K n n
 | some (.one (.val (.int _ h))) => cond (decide (0 <= h)) (cond (decide (h <= n)) (K h h.toNat) none) none
 | _ => none
def cutLow (lo : Option AV) (h : Int) (K : Nat -> Option α) : Option α := match lo with
 | none => K 0
 | some (.one (.val (.int _ l))) => cond (decide (0 <= l)) (cond (decide (l <= h)) (K l.toNat) none) none
 | _ => none
def zeroOf (P : Program) (t : TypeId) : Option Value := match P.info? t with
 | some i => i.zero
 | none => none
def placesOf (P : Program) : List Field -> Option (List (Nat × Nat))
 | [] => some []
 | f :: fs => match szOf P f.type with
   | some n => match placesOf P fs with
     | some l => some ((f.offset, n) :: l)
     | none => none
   | none => none
def evPick (c x y : Operand) (s : St) (K : AV -> St -> Option α) : Option α := match aval s c with
 | .one (.val (.bool v)) => cond v (K (aval s x) s) (K (aval s y) s)
 | _ => none
def newBlk (s : St) (l : List CV) (e : TypeId) : St := { s with st := (s.n, .cells l e) :: s.st, n := s.n + 1 }
def evBox (elem : TypeId) (x : Operand) (s : St) (K : AV -> St -> Option α) : Option α := match (aval s x).cells with
 | some l => K (.one (.ptr s.n 0)) (newBlk s l elem)
 | none => none
def evAlloc (elem : TypeId) (s : St) (K : AV -> St -> Option α) : Option α := match zeroOf P elem with
 | some z => match (ofVal z).cells with
   | some l => K (.one (.ptr s.n 0)) (newBlk s l elem)
   | none => none
 | none => none
def evFill (place : Nat -> Option (Nat × Nat)) (z : Array Value) (parts : Array (Nat × Operand)) (s : St) (K : AV -> St -> Option α) : Option α :=
 match fillCV place (z.toList.map .val) (parts.toList.map fun p => (p.1, aval s p.2)) with
 | some l => K (.agg l) s
 | none => none
def evBuild (t : TypeId) (parts : Array (Nat × Operand)) (s : St) (K : AV -> St -> Option α) : Option α := match zeroOf P t with
 | some (.agg z) => match z.toList.all (·.oneCell') with
   | true => match P.underlying t with
     | some (.struct fs) => match placesOf P fs.toList with
       | some pl => evFill (fun i => pl[i]?) z parts s K
       | none => none
     | some (.array _ e) => match szOf P e with
       | some n => evFill (fun i => some (i * n, n)) z parts s K
       | none => none
     | _ => none
   | false => none
 | _ => none
def evLoad (t : TypeId) (x : Operand) (s : St) (K : AV -> St -> Option α) : Option α := match aval s x with
 | .one (.ptr b off) => match look s.st b with
   | some (.cells l _) => match mkAV P t (l.drop off) with
     | some v => K v s
     | none => none
   | _ => none
 | .one (.rp ty x off) => match mkAV P t ((cellsCV ty x).drop off) with
   | some v => K v s
   | none => none
 | .one (.mp b w i off) => match s.mrowOf b with
   | some (_, ⟨ty, l⟩) => match Nat.beq w ty.width, mkAV P t ((cellsCV ty (l.getD i ty.zero)).drop off) with
     | true, some v => cond (decide (i < l.length)) (K v s) none
     | _, _ => none
   | none => none
 | _ => none
def evStore (t : TypeId) (x y : Operand) (s : St) (K : AV -> St -> Option α) : Option α := match aval s x with
 | .one (.ptr b off) => match look s.st b with
   | some (.cells l e) => match (aval s y).cells with
     | some c => match szOf P t with
       | some n => match Nat.beq c.length n && Nat.ble (off + c.length) l.length with
         | true => K (.one (.val undef)) { s with st := (b, .cells (l.take off ++ c ++ l.drop (off + c.length)) e) :: s.st }
         | false => none
       | none => none
     | none => none
   | _ => none
 | .one (.mp b w i off) => match s.mrowOf b with
   | some (e, ⟨ty, l⟩) => match (aval s y).cells, szOf P t with
     | some c, some n => match Nat.beq w ty.width && Nat.beq c.length n && Nat.ble (off + c.length) w with
       | true => match unCV ty (((cellsCV ty (l.getD i ty.zero)).take off ++ c ++ (cellsCV ty (l.getD i ty.zero)).drop (off + c.length)).map s.derefC) with
         | some (x, []) => cond (decide (i < l.length)) (share (l.set i x) fun l' => K (.one (.val undef)) { s with st := (b, .mrow e ty l') :: s.st }) none
         | _ => none
       | false => none
     | _, _ => none
   | none => none
 | _ => none
def evNil (x : Operand) (s : St) (K : AV -> St -> Option α) : Option α := match aval s x with
 | .one (.ptr b o) => K (.one (.ptr b o)) s
 | .one (.fn f c) => K (.one (.fn f c)) s
 | .one (.rp t x o) => K (.one (.rp t x o)) s
 | .one (.mp b w i o) => K (.one (.mp b w i o)) s
 | _ => none
def evVal (v : Option Value) (s : St) (K : AV -> St -> Option α) : Option α := match v with
 | some v => K (.one (.val v)) s
 | none => none
def evInt (op : BinOp) (t : TypeId) (k : IntKind) (a : Int) (k' : IntKind) (b : Int) (s : St) (K : AV -> St -> Option α) : Option α := match op with
 | .quo => match Ty.beq (.int k) (.int k') with
   | true => cond (b == 0) none (K (.one (.val (.int k (k.wrap (a.tdiv b))))) s)
   | false => none
 | .rem => match Ty.beq (.int k) (.int k') with
   | true => cond (b == 0) none (K (.one (.val (.int k (a.tmod b)))) s)
   | false => none
 | op => evVal (runPure P (do eqGuard op t (.const undef) (.const undef) (.int k a) (.int k' b); binOp op t (.int k a) (.int k' b))) s K
def evText (op : BinOp) (t : TypeId) (a b : ByteArray) (s : St) (K : AV -> St -> Option α) : Option α := match op with
 | .add => cond (decide (a.size + b.size <= 9223372036854775807)) (K (.one (.val (.string (a ++ b)))) s) none
 | op => evVal (runPure P (do eqGuard op t (.const undef) (.const undef) (.string a) (.string b); binOp op t (.string a) (.string b))) s K
def evBool (op : BinOp) (b : Bool) (s : St) (K : AV -> St -> Option α) : Option α := match op with
 | .eql => K (.one (.val (.bool b))) s
 | .neq => K (.one (.val (.bool (!b)))) s
 | _ => none
def evBin (op : BinOp) (t : TypeId) (x y : Operand) (s : St) (K : AV -> St -> Option α) : Option α := match aval s x, aval s y with
 | .one (.val (.string a)), .one (.val (.string b)) => evText P op t a b s K
 | .one (.val (.int k a)), .one (.val (.int k' b)) => evInt P op t k a k' b s K
 | .one (.val (.bool a)), .one (.val (.bool b)) => match P.underlying t with
   | some .bool => evBool op (a == b) s K
   | _ => none
 | .agg l, .agg m => match P.eqGuardType P.depth t with
   | true => none
   | false => match aeq P 20 t (.agg l) (.agg m) with
     | some b => evBool op b s K
     | none => none
 | _, _ => none
def evUn (op : UnOp) (x : Operand) (s : St) (K : AV -> St -> Option α) : Option α := match aval s x with
 | .one (.val v) => evVal (runPure P (Op.unary op v)) s K
 | _ => none
def evConv (src dst : TypeId) (x : Operand) (s : St) (K : AV -> St -> Option α) : Option α := match avalR s x with
 | .one (.val v) => evVal (runPure P (convert src dst v)) s K
 | .one (.sl (.int .u8) l) => match P.underlying src, P.underlying dst with
   | some (.slice e), some .string => match P.underlying e with
     | some (.int .u8) => K (.one (.val (.string (strOfNums l)))) s
     | _ => none
   | _, _ => none
 | _ => none
def ptrsOf (s : St) : List Operand -> Option (List (Nat × Nat))
 | [] => some []
 | c :: l => match aval s c with
   | .one (.ptr b o) => match ptrsOf s l with
     | some l => some ((b, o) :: l)
     | none => none
   | _ => none
def evFn (fn : Fn) (first caps : Array Operand) (s : St) (K : AV -> St -> Option α) : Option α := match fn, first.toList with
 | .func f, [] => match ptrsOf s caps.toList with
   | some l => K (.one (.fn f l)) s
   | none => none
 | _, _ => none
def evSlice (t : TypeId) (x : Operand) (lo hi mx : Option Operand) (s : St) (K : AV -> St -> Option α) : Option α := match mx with
 | some _ => none
 | none => match P.underlying t, avalR s x with
   | some .string, .one (.val (.string v)) => cutHigh (hi.map (aval s)) v.size fun h hn => cutLow (lo.map (aval s)) h fun l => K (.one (.val (.string (v.extract l hn)))) s
   | some (.slice e), .one (.sl t l) => match szOf P e with
     | some n => match Nat.beq n t.width with
       | true => cutHigh (hi.map (aval s)) l.length fun h hn => cutLow (lo.map (aval s)) h fun lo => shareIf (wideT t) ((l.take hn).drop lo) fun l => K (.one (.sl t l)) s
       | false => none
     | none => none
   | some (.slice e), .one (.vw b n c) => match szOf P e, lo with
     | some _, none => cutHigh (hi.map (aval s)) n fun _ hn => K (.one (.vw b hn c)) s
     | _, _ => none
   | some (.slice e), .one (.val (.slice none 0 0)) => match szOf P e with
     | some _ => cutHigh (hi.map (aval s)) 0 fun h _ => cutLow (lo.map (aval s)) h fun _ => K (.one (.val (.slice none 0 0))) s
     | none => none
   | _, _ => none
def evFieldAddr (t : TypeId) (x : Operand) (f : Nat) (s : St) (K : AV -> St -> Option α) : Option α := match P.underlying t with
 | some (.struct fs) => match fs[f]? with
   | some fd => match szOf P fd.type with
     | some (_ + 1) => match aval s x with
       | .one (.ptr b off) => K (.one (.ptr b (off + fd.offset))) s
       | .one (.rp ty x off) => K (.one (.rp ty x (off + fd.offset))) s
       | .one (.mp b w i off) => K (.one (.mp b w i (off + fd.offset))) s
       | _ => none
     | _ => none
   | none => none
 | _ => none
def evField (t : TypeId) (x : Operand) (f : Nat) (s : St) (K : AV -> St -> Option α) : Option α := match P.underlying t, aval s x with
 | some (.struct fs), .agg l => match fs[f]? with
   | some fd => match mkAV P fd.type (l.drop fd.offset) with
     | some v => K v s
     | none => none
   | none => none
 | _, _ => none
def evCase (i : Int) (pick : Nat -> Option AV) (s : St) (K : AV -> St -> Option α) : Nat -> Nat -> Option α
 | 0, _ => none
 | r + 1, j => match pick j with
   | some v => cond (i == (j : Int)) (K v s) (evCase i pick s K r (j + 1))
   | none => none
def evIndexAddr (t : TypeId) (x i : Operand) (s : St) (K : AV -> St -> Option α) : Option α := match P.underlying t with
 | some (.slice e) => match szOf P e with
   | some n => match avalR s x, aval s i with
     | .one (.sl t l), .one (.val (.int _ i)) => match Nat.beq n t.width with
       | true => cond (decide (0 <= i)) (cond (decide (i < l.length)) (K (.one (.rp t (l.getD i.toNat t.zero) 0)) s) none) none
       | false => none
     | .one (.row b), .one (.val (.int _ i)) => match s.mrowOf b with
       | some (_, ⟨t, l⟩) => match Nat.beq n t.width with
         | true => cond (decide (0 <= i)) (cond (decide (i < l.length)) (K (.one (.mp b n i.toNat 0)) s) none) none
         | false => none
       | none => none
     | .one (.mv b w lo hi), .one (.val (.int _ i)) => match s.mrowOf b with
       | some (_, ⟨t, _⟩) => match Nat.beq n t.width && Nat.beq w n with
         | true => cond (decide (0 <= i)) (cond (decide (i < ((hi - lo : Nat) : Int))) (K (.one (.mp b n (lo + i.toNat) 0)) s) none) none
         | false => none
       | none => none
     | .one (.vw b m c), .one (.val (.int _ i)) => cond (decide (0 <= i)) (cond (decide (i < m)) (evCase i (fun j => some (.one (.ptr b (j * n)))) s K c 0) none) none
     | _, _ => none
   | none => none
 | some (.array len e) => match szOf P e, Nat.ble len 16 with
   | some n, true => match aval s x, aval s i with
     | .one (.ptr b off), .one (.val (.int _ i)) => evCase i (fun j => some (.one (.ptr b (off + j * n)))) s K len 0
     | _, _ => none
   | _, _ => none
 | _ => none
def evIndex (t : TypeId) (x i : Operand) (s : St) (K : AV -> St -> Option α) : Option α := match P.underlying t with
 | some .string => match aval s x, aval s i with
   | .one (.val (.string v)), .one (.val (.int _ i)) => cond (decide (0 <= i)) (cond (decide (i < v.size)) (K (.one (.val (.int .u8 (byteAt v i)))) s) none) none
   | _, _ => none
 | some (.array len e) => match szOf P e, Nat.ble len 16 with
   | some n, true => match aval s x, aval s i with
     | .agg l, .one (.val (.int _ i)) => evCase i (fun j => mkAV P e (l.drop (j * n))) s K len 0
     | _, _ => none
   | _, _ => none
 | _ => none
def evExtract (t : Operand) (ix : Nat) (s : St) (K : AV -> St -> Option α) : Option α := match aval s t with
 | .tup l => match l[ix]? with
   | some (true, cs) => K (.agg cs) s
   | some (false, [c]) => K (.one c) s
   | _ => none
 | _ => none
def rowBlk (s : St) (e : TypeId) (t : Ty) (l : List t.den) : St := { s with st := (s.n, .row e t l) :: s.st, n := s.n + 1 }
def mrowBlk (s : St) (e : TypeId) (t : Ty) (l : List t.den) : St := { s with st := (s.n, .mrow e t l) :: s.st, n := s.n + 1 }
def blkM (m : Bool) (s : St) (e : TypeId) (t : Ty) (l : List t.den) : St := match m with
 | true => mrowBlk s e t l
 | false => rowBlk s e t l
def anyBlk (s : St) (e : TypeId) (t : Ty) (l : List t.den) : St := blkM (wideT t) s e t l
def evMake (t : TypeId) (x y : Operand) (s : St) (K : AV -> St -> Option α) : Option α := match P.underlying t, x, y with
 | some (.slice e), .tmp a, .tmp b => match Nat.beq a b, s.get a, P.info? e, tyOf P 10 e with
   | true, .one (.val (.int k n)), some i, some ty => match i.zero with
     | some z => match unCV ty (z.cells.toList.map .val), Nat.beq ty.width i.size && Nat.beq z.cells.size i.size && Nat.blt 0 i.bytes && z.cells.toList.all (·.oneCell') with
       | some (x0, []), true => cond (decide (0 <= n)) (cond (decide (n.toNat * i.bytes <= 140737488355328)) (share (List.replicate n.toNat x0) fun l => K (.one (.row s.n)) (mrowBlk s e ty l)) none) none
       | _, _ => none
     | none => none
   | _, _, _, _ => none
 | _, _, _ => none
def evCopy (t : TypeId) (x y : Operand) (s : St) (K : AV -> St -> Option α) : Option α := match P.underlying t with
 | some (.slice e) => match aval s x, avalR s y with
   | .one (.row b), .one (.sl ty ys) => match s.mrowOf b, szOf P e with
     | some (e', ⟨ty', l⟩), some n => match Nat.beq n ty.width, h : Ty.beq ty ty' with
       | true, true => share ((castL h ys).take l.length ++ l.drop ys.length) fun l' => K (i64 (Nat.min ys.length l.length)) { s with st := (b, .mrow e' ty' l') :: s.st }
       | _, _ => none
     | _, _ => none
   | _, _ => none
 | _ => none
def evBuildSlice (t : TypeId) (len : Nat) (parts : Array (Nat × Operand)) (s : St) (K : AV -> St -> Option α) : Option α := match P.underlying t with
 | some (.slice e) => match szOf P e, zeroOf P e, tyOf P 10 e with
   | some (n + 1), some z, some ty => match Nat.beq ty.width (n + 1) && Nat.beq z.cells.size (n + 1) && Nat.ble (len * (n + 1)) 16777216 && z.cells.toList.all (·.oneCell') with
     | true => match fillCV (fun i => some (i * (n + 1), n + 1)) (List.replicate (len * (n + 1)) .any) (parts.toList.map fun p => (p.1, avalR s p.2)) with
       | some c => match unRow ty len c with
         | some l => K (.one (.row s.n)) (rowBlk s e ty l)
         | none => none
       | none => none
     | false => none
   | some 1, some z, none => match Nat.beq z.cells.size 1 && Nat.ble len 16 && z.cells.toList.all (·.oneCell') with
     | true => match fillCV (fun i => some (i, 1)) (List.replicate len .any) (parts.toList.map fun p => (p.1, avalR s p.2)) with
       | some c => K (.one (.vw s.n len len)) (newBlk s c e)
       | none => none
     | false => none
   | _, _, _ => none
 | _ => none
def softRow (s : St) (x : Operand) : Option (Nat × Nat) := match aval s x with
 | .one (.row b) => match s.mrowOf b with
   | some (_, ⟨t, l⟩) => match soft t with
     | true => some (b, l.length)
     | false => none
   | none => none
 | _ => none
def viewRow (s : St) (x : Operand) : Option (Nat × Nat × Nat × Nat) := match aval s x with
 | .one (.row b) => match s.mrowOf b with
   | some (_, ⟨t, l⟩) => match soft3 t with
     | true => some (b, t.width, l.length, l.length)
     | false => none
   | none => none
 | .one (.mv b w 0 hi) => match s.mrowOf b with
   | some (_, ⟨t, l⟩) => match soft3 t, Nat.beq w t.width with
     | true, true => some (b, w, hi, l.length)
     | _, _ => none
   | none => none
 | _ => none
def softArg (s : St) (x : Operand) (v : AV) : AV := match softRow s x with
 | some _ => match v with
   | .one (.sl .str ys) => .one (.sl (.cons .str .nil) (List.map (fun z => (z, ())) ys))
   | v => v
 | none => v
def evAppend (t : TypeId) (x y : Operand) (s : St) (K : AV -> St -> Option α) : Option α := match P.underlying t with
 | some (.slice e) => match P.info? e with
   | some i => match i.zero with
     | some z => match softArg s x (avalR s y) with
       | .one (.sl ty ys) => match Nat.beq ty.width i.size && Nat.beq z.cells.size i.size && Nat.blt 0 i.size && Nat.blt 0 i.bytes with
         | true => match aval s x with
           | .one (.val (.slice none 0 0)) => cond (Nat.beq ys.length 0) (K (.one (.val (.slice none 0 0))) s) (cond (decide (ys.length * i.bytes <= 140737488355328)) (K (.one (.row s.n)) (anyBlk s e ty ys)) none)
           | .one (.row b) => match look s.st b with
             | some (.row e' ty' l) => match Nat.beq e e' with
               | true => match h : Ty.beq ty ty' with
                 | true => cond (Nat.beq ys.length 0) (K (.one (.row b)) s) (cond (decide ((l.length + ys.length) * i.bytes <= 140737488355328)) (K (.one (.row s.n)) (rowBlk { s with st := (b, .dead) :: s.st } e ty' (l ++ castL h ys))) none)
                 | false => none
               | false => none
             | some (.mrow e' ty' l) => match Nat.beq e e' with
               | true => match h : Ty.beq ty ty' with
                 | true => cond (Nat.beq ys.length 0) (K (.one (.row b)) s) (cond (decide ((l.length + ys.length) * i.bytes <= 140737488355328)) (K (.one (.row s.n)) (mrowBlk { s with st := (b, .dead) :: s.st } e ty' (l ++ castL h ys))) none)
                 | false => none
               | false => none
             | _ => none
           | _ => none
         | false => none
       | _ => none
     | none => none
   | none => none
 | _ => none
def evApp (t : TypeId) (b w i m : Nat) (y : AV) (s : St) (K : AV -> St -> Option α) : Option α := match y, P.underlying t with
 | .one (.mv b' w' j n), some (.slice e) => match s.mrowOf b, szOf P e with
   | some (e', ⟨ty, l⟩), some z => match Nat.beq b b' && Nat.beq w w' && Nat.beq z w && Nat.beq e e' with
     | true => cond (Nat.ble i j) (cond (Nat.ble n m) (share (l.take i ++ ((l.take n).drop j ++ l.drop (i + (n - j)))) fun l' => K (.one (.mv b w 0 (i + (n - j)))) { s with st := (b, .mrow e' ty l') :: s.st }) none) none
     | false => none
   | _, _ => none
 | _, _ => none
def backK (v : AV) (s : St) (K : AV -> St -> Option α) : Option α := match v with
 | .one (.mv b w 0 h) => match s.mrowOf b with
   | some (e, ⟨t, l⟩) => match soft3 t && Nat.beq w t.width with
     | true => share (l.take h) fun l' => K (.one (.row s.n)) (mrowBlk { s with st := (b, .dead) :: s.st } e t l')
     | false => K v s
   | none => K v s
 | _ => K v s
def evAppMake (t u : TypeId) (x y : AV) (s : St) (K : AV -> St -> Option α) : Option α := match x, y, P.underlying t, P.underlying u with
 | .one (.val (.slice none 0 0)), .one (.val (.int _ n)), some (.slice e), some (.int _) => match P.info? e, tyOf P 10 e with
   | some i, some ty => match i.zero with
     | some z => match unCV ty (z.cells.toList.map .val), Nat.beq ty.width i.size && Nat.beq z.cells.size i.size && Nat.blt 0 i.size && Nat.blt 0 i.bytes && z.cells.toList.all (·.oneCell') with
       | some (x0, []), true => cond (decide (0 < n)) (cond (decide (n.toNat * i.bytes <= 140737488355328)) (share (List.replicate n.toNat x0) fun l => K (.one (.row s.n)) (mrowBlk s e ty l)) none) none
       | _, _ => none
     | none => none
   | _, _ => none
 | _, _, _, _ => none
def evClear (t : TypeId) (v : AV) (s : St) (K : AV -> St -> Option α) : Option α := match v, P.underlying t with
 | .one (.mv b w lo hi), some (.slice e) => match s.mrowOf b, szOf P e, zeroOf P e with
   | some (e', ⟨ty, l⟩), some n, some z => match unCV ty (z.cells.toList.map .val), Nat.beq w ty.width && Nat.beq n ty.width && Nat.beq z.cells.size ty.width && z.cells.toList.all (·.oneCell') && Nat.beq e e' with
     | some (x0, []), true => share (l.take lo ++ (List.replicate (hi - lo) x0 ++ l.drop hi)) fun l' => K (.tup []) { s with st := (b, .mrow e' ty l') :: s.st }
     | _, _ => none
   | _, _, _ => none
 | _, _ => none
def mapKey (t : TypeId) : Option TypeId := match P.underlying t with
 | some (.map kt vt) => match P.underlying kt with
   | some (.int .i64) => some vt
   | _ => none
 | _ => none
def evMakeMap (t : TypeId) (r : Option Operand) (s : St) (K : AV -> St -> Option α) : Option α := match r, mapKey P t with
 | none, some _ => K (.one (.mpr s.n)) { s with st := (s.n, .fmap []) :: s.st, n := s.n + 1 }
 | _, _ => none
def mapOf (s : St) (x : Operand) : Option (Nat × List (Int × FuncId)) := match aval s x with
 | .one (.mpr b) => match look s.st b with
   | some (.fmap l) => some (b, l)
   | _ => none
 | _ => none
def evInsert (t : TypeId) (m k v : Operand) (s : St) (K : AV -> St -> Option α) : Option α := match mapKey P t, mapOf s m, aval s k, aval s v with
 | some _, some (b, l), .one (.val (.int .i64 n)), .one (.fn f []) => match l.all (fun p => !(n == p.1)) with
   | true => K (.one (.val undef)) { s with st := (b, .fmap (l ++ [(n, f)])) :: s.st }
   | false => none
 | _, _, _, _ => none
def okAV (ok : Bool) (c : CV) (b : Bool) : AV := match ok with
 | true => .tup [(false, [c]), (false, [.val (.bool b)])]
 | false => .one c
def pickF (n : Int) (z : Value) (ok : Bool) (s : St) (K : AV -> St -> Option α) : List (Int × FuncId) -> Option α
 | [] => K (okAV ok (.val z) false) s
 | p :: l => cond (n == p.1) (K (okAV ok (.fn p.2 []) true) s) (pickF n z ok s K l)
def evLookup (t : TypeId) (x i : Operand) (ok : Bool) (s : St) (K : AV -> St -> Option α) : Option α := match mapKey P t, mapOf s x, aval s i with
 | some vt, some (_, l), .one (.val (.int .i64 n)) => match zeroOf P vt with
   | some z => match z.oneCell' with
     | true => pickF n z ok s K l
     | false => none
   | none => none
 | _, _, _ => none
def evIface (t : TypeId) (x : Operand) (s : St) (K : AV -> St -> Option α) : Option α := match P.underlying t with
 | some (.interface _) => none
 | some _ => match aval s x with
   | .one (.val v) => match v with
     | .string b => K (.one (.val (.iface t (.string b)))) s
     | .int k n => K (.one (.val (.iface t (.int k n)))) s
     | .bool b => K (.one (.val (.iface t (.bool b)))) s
     | _ => none
   | _ => none
 | none => none
def evAssert (x : Operand) (u : TypeId) (ok : Bool) (s : St) (K : AV -> St -> Option α) : Option α := match P.underlying u with
 | some (.interface _) => none
 | some _ => match aval s x with
   | .one (.val (.iface t v)) => match Nat.beq t u, v.oneCell' with
     | true, true => K (okAV ok (.val v) true) s
     | false, true => match ok, zeroOf P u with
       | true, some z => match z.oneCell' with
         | true => K (okAV true (.val z) false) s
         | false => none
       | _, _ => none
     | _, _ => none
   | _ => none
 | none => none
def evOp (o : Op) (s : St) (K : AV -> St -> Option α) : Option α := match o with
 | .move x => K (aval s x) s
 | .assign x => K (aval s x) s
 | .pick c x y => evPick c x y s K
 | .box elem x => evBox elem x s K
 | .alloc elem => evAlloc P elem s K
 | .build t parts => evBuild P t parts s K
 | .buildSlice t len parts => evBuildSlice P t len parts s K
 | .load t x => evLoad P t x s K
 | .store t x y => evStore P t x y s K
 | .nilCheck x => evNil x s K
 | .binOp op t x y _ => evBin P op t x y s K
 | .unOp op _ x => evUn P op x s K
 | .convert src dst x => evConv P src dst x s K
 | .makeSlice t x y => evMake P t x y s K
 | .makeFunc fn first caps => evFn fn first caps s K
 | .slice t x lo hi mx => evSlice P t x lo hi mx s K
 | .fieldAddr t x f => evFieldAddr P t x f s K
 | .field t x f => evField P t x f s K
 | .indexAddr t x i => evIndexAddr P t x i s K
 | .index t x i => evIndex P t x i s K
 | .extract t ix => evExtract t ix s K
 | .makeMap t r => evMakeMap P t r s K
 | .insert t m k v => evInsert P t m k v s K
 | .lookup t x i ok => evLookup P t x i ok s K
 | .makeInterface t x => evIface P t x s K
 | .typeAssert x _ u ok => evAssert P x u ok s K
 | _ => none
def imin (a b : Int) : Int := cond (decide (b < a)) b a
def imax (a b : Int) : Int := cond (decide (b > a)) b a
def evBuiltin (b : Builtin) (ts : List TypeId) (xs : List Operand) (s : St) (K : AV -> St -> Option α) : Option α := match b, ts, xs with
 | .len, [t], [x] => match P.underlying t, avalR s x with
   | some .string, .one (.val (.string v)) => K (i64 v.size) s
   | some (.slice _), .one (.sl _ l) => K (i64 l.length) s
   | some (.slice _), .one (.vw _ n _) => K (i64 n) s
   | some (.slice _), .one (.row b) => match s.mrowOf b with
     | some (_, ⟨_, l⟩) => K (i64 l.length) s
     | none => none
   | some (.slice _), .one (.val (.slice none 0 0)) => K (i64 0) s
   | some (.slice _), .one (.mv _ _ lo hi) => K (i64 ((hi - lo : Nat) : Int)) s
   | _, _ => none
 | .cap, [t], [x] => match P.underlying t, aval s x with
   | some (.slice _), .one (.val (.slice none 0 0)) => K (i64 0) s
   | _, _ => none
 | .min, _, [x, y] => match aval s x, aval s y with
   | .one (.val (.int .i64 a)), .one (.val (.int .i64 b)) => K (i64 (imin a b)) s
   | _, _ => none
 | .max, _, [x, y] => match aval s x, aval s y with
   | .one (.val (.int .i64 a)), .one (.val (.int .i64 b)) => K (i64 (imax a b)) s
   | _, _ => none
 | .append, [t, u], [x, y] => match Nat.beq t u with
   | true => match viewRow s x, aval s y with
     | some (b, w, i, m), .one (.mv ..) => evApp P t b w i m (aval s y) s K
     | _, _ => evAppend P t x y s K
   | false => evAppMake P t u (aval s x) (aval s y) s K
 | .copy, [t, u], [x, y] => match Nat.beq t u with
   | true => evCopy P t x y s K
   | false => none
 | .clear, [t], [x] => evClear P t (aval s x) s K
 | _, _, _ => none
def evCall (Γ : FuncId -> Option Sig) (inl : FuncId -> List AV -> St -> (AV -> St -> Option α) -> Option α) (c : Call) (s : St) (K : AV -> St -> Option α) : Option α :=
 match c.callee with
 | .builtin b => evBuiltin P b c.argTypes.toList c.args.toList s K
 | .value f => match aval s f with
   | .one (.fn f caps) => match Γ f with
     | some g => match caps with
       | [] => match argsOf g.args (c.args.toList.map (avalR s)) with
         | some x => (g.den x).bind fun r => K (resOf g.res r) s
         | none => inl f (c.args.toList.map (aval s)) s K
       | _ :: _ => none
     | none => inl f (c.args.toList.map (aval s) ++ caps.map fun p => .one (.ptr p.1 p.2)) s K
   | _ => none
 | _ => none
def softCut (op : Op) (s : St) : Option (Nat × Nat × Option Operand × Option Operand) := match op with
 | .slice t x lo hi none => match softRow s x, P.underlying t with
   | some (b, n), some (.slice e) => match szOf P e with
     | some 1 => some (b, n, lo, hi)
     | _ => none
   | _, _ => none
 | _ => none
def viewCut (op : Op) (s : St) : Option (Nat × Nat × Nat × Nat × Option Operand × Option Operand × Option Operand) := match op with
 | .slice t x lo hi mx => match viewRow s x, P.underlying t with
   | some (b, w, n, m), some (.slice e) => match szOf P e with
     | some z => match Nat.beq z w with
       | true => some (b, w, n, m, lo, hi, mx)
       | false => none
     | none => none
   | _, _ => none
 | _ => none
def evCut (op : Op) (s : St) (K : AV -> St -> Option α) : Option α := match viewCut P op s with
 | some (b, w, n, _, lo, none, none) => cutHigh none n fun h hn => cutLow (lo.map (aval s)) h fun lo => K (.one (.mv b w lo hn)) s
 | some (b, w, _, m, lo, some hi, none) => cutHigh (some (aval s hi)) m fun h hn => cutLow (lo.map (aval s)) h fun lo => K (.one (.mv b w lo hn)) s
 | some (_, _, _, m, some lo, some hi, some mx) => match aval s lo, aval s hi, aval s mx with
   | .one (.val (.int _ i)), .one (.val (.int _ j)), .one (.val (.int _ k)) => cond (decide (0 <= i)) (cond (decide (i <= j)) (cond (decide (j <= k)) (cond (decide (k <= m)) (K (.one .any) s) none) none) none) none
   | _, _, _ => none
 | some _ => none
 | none => evOp P op s K
def evOpS (sf : Bool) (op : Op) (s : St) (K : AV -> St -> Option α) : Option α := match sf with
 | false => evOp P op s K
 | true => match softCut P op s with
   | some (b, n, some lo, hi) => cutHigh (hi.map (aval s)) n fun h hn => cutLow (some (aval s lo)) h fun lo => K (.one (.mv b 1 lo hn)) s
   | some (b, n, none, hi) => cutHigh (hi.map (aval s)) n fun _ hn => match s.mrowOf b with
     | some (e, ⟨t, l⟩) => K (.one (.row s.n)) (mrowBlk { s with st := (b, .dead) :: s.st } e t (l.take hn))
     | none => none
   | none => evCut P op s K
def frzOp (Γ : FuncId -> Option Sig) (o : Op) (s : St) : St := match o with
 | .slice _ x _ _ _ => match softRow s x with
   | some _ => s
   | none => match viewRow s x with
     | some _ => s
     | none => s.frz (aval s x)
 | .call c => match c.callee with
   | .builtin .append => match c.args.toList with
     | [x, y] => match viewRow s x with
       | some _ => match aval s y with
         | .one (.mv ..) => s
         | v => s.frz v
       | none => s.frz (aval s y)
     | _ => s
   | .builtin .copy => match c.args.toList with
     | [_, y] => s.frz (aval s y)
     | _ => s
   | .value f => match aval s f with
     | .one (.fn f []) => match Γ f with
       | some _ => frzArgs s c.args.toList
       | none => s
     | _ => s
   | _ => s
 | _ => s
def noFz (_ : Op) (s : St) : St := s
def evOps (Γ : FuncId -> Option Sig) (inl : FuncId -> List AV -> St -> (AV -> St -> Option α) -> Option α) (sf : Bool) (fz : Op -> St -> St) (ops : Array Oper) : List Oper -> St -> (St -> Option α) -> Option α
 | [], s, K => K s
 | o :: rest, s, K =>
   let go (s : St) : Option α := match o.op with
    | .call c => evCall P Γ inl c (fz o.op s) fun v s => s.put o.dst v fun s => evOps Γ inl sf fz ops rest s K
    | op => evOpS P sf op (fz op s) fun v s => s.put o.dst v fun s => evOps Γ inl sf fz ops rest s K
   let no (s : St) : Option α := s.put o.dst (.one (.val undef)) fun s => evOps Γ inl sf fz ops rest s K
   match o.guard with
   | none => go s
   | some (j, want) => match (ops[j]?).bind (·.dst) with
     | some d => match s.get d with
       | .one (.val (.bool b)) => match want with
         | true => cond b (s.put (some d) (.one (.val (.bool true))) go) (s.put (some d) (.one (.val (.bool false))) no)
         | false => cond b (s.put (some d) (.one (.val (.bool true))) no) (s.put (some d) (.one (.val (.bool false))) go)
       | .one (.val (.tuple _)) => no s
       | _ => none
     | none => none
inductive Part where
 | dat (t : Ty) | row (e : TypeId) (t : Ty)
inductive Place where
 | tmp (d : Nat) (t : Ty) | row (d : Nat) (e : TypeId) (t : Ty) | box (d : Nat) (t : Ty) | boxRow (d : Nat) (e : TypeId) (t : Ty)
 | mixT (d : Nat) (ps : List Part) | mixB (d : Nat) (ps : List Part)
 | outT (d : Nat) (t : Ty) (ps : List Part) | outB (d : Nat) (t : Ty) (ps : List Part)
def Part.ty : Part -> Ty
 | .dat t => t | .row _ t => .sl t
def Part.width : Part -> Nat
 | .dat t => t.width | .row _ _ => 1
def partsTy (ps : List Part) : Ty := ps.foldr (fun p t => .cons p.ty t) .nil
structure Hint where
 places : List Place
 mask : List Nat
 keep : Bool
def Place.ty : Place -> Ty
 | .tmp _ t => t | .row _ _ t => .sl t | .box _ t => t | .boxRow _ _ t => .sl t | .mixT _ ps => partsTy ps | .mixB _ ps => partsTy ps | .outT _ t _ => t | .outB _ t _ => t
def Hint.ty (h : Hint) : Ty := h.places.foldr (fun p t => .cons p.ty t) .nil
def projAV (s : St) (t : Ty) (v : AV) : Option t.den := unAV t (s.deref v)
def boxOf (s : St) (d : Nat) : Option Nat := match Nat.div d 1000000, s.get (Nat.mod d 1000000) with
 | 0, .one (.ptr b 0) => some b
 | i + 1, .one (.fn _ caps) => match caps[i]? with
   | some (b, 0) => some b
   | _ => none
 | _, _ => none
def boxCells (s : St) (d : Nat) : Option (List CV) := match boxOf s d with
 | some b => match look s.st b with
   | some (.cells l _) => some l
   | _ => none
 | none => none
def rowData (s : St) (e : TypeId) (t : Ty) : CV -> Option (List t.den)
 | .val (.slice none 0 0) => some []
 | .row b => match look s.st b with
   | some (.row e' u l) => match Nat.beq e e', h : Ty.beq u t, wideT t with
     | true, true, false => some (castL h l)
     | _, _, _ => none
   | some (.mrow e' u l) => match Nat.beq e e', h : Ty.beq u t, wideT t with
     | true, true, true => some (castL h l)
     | _, _, _ => none
   | _ => none
 | _ => none
def projParts (s : St) : (ps : List Part) -> List CV -> Option (partsTy ps).den
 | [], [] => some ()
 | [], _ :: _ => none
 | .dat t :: ps, l => match unCV t ((l.take t.width).map s.derefC) with
   | some (x, []) => match projParts s ps (l.drop t.width) with
     | some y => some (x, y)
     | none => none
   | _ => none
 | .row e t :: ps, l => match l with
   | c :: l => match rowData s e t c with
     | some x => match projParts s ps l with
       | some y => some (x, y)
       | none => none
     | none => none
   | [] => none
def rowsIn : List Part -> List CV -> List Nat
 | [], _ => []
 | .dat t :: ps, l => rowsIn ps (l.drop t.width)
 | .row _ _ :: ps, l => match l with
   | .row b :: l => b :: rowsIn ps l
   | _ :: l => rowsIn ps l
   | [] => []
def tellParts : (s : St) -> (ps : List Part) -> (partsTy ps).den -> St × List CV
 | s, [], _ => (s, [])
 | s, .dat t :: ps, x => match tellParts s ps x.2 with
   | (s, l) => (s, cellsCV t x.1 ++ l)
 | s, .row e t :: ps, x => match tellParts (anyBlk s e t x.1) ps x.2 with
   | (s', l) => (s', .row s.n :: l)
def partsWidth (ps : List Part) : Nat := ps.foldr (fun p n => p.width + n) 0
def projP (s : St) : (p : Place) -> Option p.ty.den
 | .tmp d t => projAV s t (s.get d)
 | .row d e t => match s.get d with
   | .one c => rowData s e t c
   | _ => none
 | .box d t => match boxCells s d with
   | some l => match unCV t (l.map s.derefC) with
     | some (x, []) => some x
     | _ => none
   | none => none
 | .boxRow d e t => match boxCells s d with
   | some [c] => rowData s e t c
   | _ => none
 | .mixT d ps => match s.get d with
   | .agg l => projParts s ps l
   | _ => none
 | .mixB d ps => match boxCells s d with
   | some l => projParts s ps l
   | none => none
 | .outT d t _ => projAV s t (s.get d)
 | .outB d t _ => match boxCells s d with
   | some l => match unCV t (l.map s.derefC) with
     | some (x, []) => some x
     | _ => none
   | none => none
def projL (s : St) : (l : List Place) -> Option (l.foldr (fun p t => Ty.cons p.ty t) .nil).den
 | [] => some ()
 | p :: l => match projP s p with
   | some x => match projL s l with
     | some y => some (x, y)
     | none => none
   | none => none
def rowAt (s : St) : Place -> List Nat
 | .row d _ _ => match s.get d with
   | .one (.row b) => [b]
   | _ => []
 | .boxRow d _ _ => match boxCells s d with
   | some [.row b] => [b]
   | _ => []
 | .mixT d ps => match s.get d with
   | .agg l => rowsIn ps l
   | _ => []
 | .mixB d ps => match boxCells s d with
   | some l => rowsIn ps l
   | none => []
 | .outT d _ ps => match s.get d with
   | .agg l => rowsIn ps l
   | .one (.row b) => [b]
   | _ => []
 | .outB d _ ps => match boxCells s d with
   | some l => rowsIn ps l
   | none => []
 | _ => []
def distinct : List Nat -> Bool
 | [] => true
 | a :: l => !(l.any (Nat.beq a)) && distinct l
def tellP (s0 s : St) : (p : Place) -> p.ty.den -> Option St
 | .tmp d t, x => some { s with tm := (d, toAV t x) :: s.tm }
 | .row d e t, x => match anyBlk s e t x with
   | s' => some { s' with tm := (d, .one (.row s.n)) :: s'.tm }
 | .box d t, x => match boxOf s0 d with
   | some b => match look s0.st b with
     | some (.cells l e) => match Nat.beq l.length t.width with
       | true => some { s with st := (b, .cells (cellsCV t x) e) :: s.st }
       | false => none
     | _ => none
   | none => none
 | .boxRow d e t, x => match boxOf s0 d with
   | some b => match look s0.st b with
     | some (.cells [_] e') => match anyBlk s e t x with
       | s' => some { s' with st := (b, .cells [.row s.n] e') :: s'.st }
     | _ => none
   | none => none
 | .mixT d ps, x => match tellParts s ps x with
   | (s', l) => some { s' with tm := (d, .agg l) :: s'.tm }
 | .mixB d ps, x => match boxOf s0 d with
   | some b => match look s0.st b with
     | some (.cells l e) => match Nat.beq l.length (partsWidth ps), tellParts s ps x with
       | true, (s', l') => some { s' with st := (b, .cells l' e) :: s'.st }
       | _, _ => none
     | _ => none
   | none => none
 | .outT d t _, x => some { s with tm := (d, toAV t x) :: s.tm }
 | .outB d t _, x => match boxOf s0 d with
   | some b => match look s0.st b with
     | some (.cells l e) => match Nat.beq l.length t.width with
       | true => some { s with st := (b, .cells (cellsCV t x) e) :: s.st }
       | false => none
     | _ => none
   | none => none
def tellL (s0 : St) : (s : St) -> (l : List Place) -> (l.foldr (fun p t => Ty.cons p.ty t) .nil).den -> Option St
 | s, [], _ => some s
 | s, p :: l, x => match tellP s0 s p x.1 with
   | some s => tellL s0 s l x.2
   | none => none
def Place.frz (s : St) : Place -> St
 | .tmp d _ => s.frz (s.get d)
 | .box d _ => match boxCells s d with
   | some l => s.frzL l
   | none => s
 | .outT d _ _ => s.frz (s.get d)
 | .outB d _ _ => match boxCells s d with
   | some l => s.frzL l
   | none => s
 | _ => s
def frzPl : St -> List Place -> St
 | s, [] => s
 | s, p :: l => frzPl (p.frz s) l
def Hint.kills (h : Hint) (s : St) : List Nat := h.places.flatMap (rowAt s)
def Hint.mask0 (h : Hint) (s : St) : St := { s with tm := h.mask.map (fun d => (d, .one .any)) ++ s.tm, st := (h.kills s).map (fun b => (b, .dead)) ++ s.st }
def Hint.head (h : Hint) (s : St) (x : h.ty.den) : Option St := tellL s (h.mask0 s) h.places x
def Place.tmpOf : Place -> List Nat
 | .tmp d _ => [d] | .row d _ _ => [d] | .mixT d _ => [d] | .outT d _ _ => [d] | _ => []
def Place.boxIn (s : St) : Place -> List Nat
 | .box d _ => (boxOf s d).toList | .boxRow d _ _ => (boxOf s d).toList | .mixB d _ => (boxOf s d).toList | .outB d _ _ => (boxOf s d).toList | _ => []
def sameBox (s0 s : St) (d : Nat) : Bool := match boxOf s0 d, boxOf s d with
 | some b, some b' => match Nat.beq b b', look s0.st b, look s.st b with
   | true, some (.cells _ e), some (.cells _ e') => Nat.beq e e'
   | _, _, _ => false
 | _, _ => false
def Place.same (s0 s : St) : Place -> Bool
 | .box d _ => sameBox s0 s d | .boxRow d _ _ => sameBox s0 s d | .mixB d _ => sameBox s0 s d | .outB d _ _ => sameBox s0 s d | _ => true
def inL (l : List Nat) (a : Nat) : Bool := l.any (Nat.beq a)
def Hint.within (h : Hint) (s0 s : St) : Bool :=
 (s.tm.take (s.tm.length - s0.tm.length)).all (fun p => inL h.mask p.1 || inL (h.places.flatMap Place.tmpOf) p.1) &&
 (s.st.take (s.st.length - s0.st.length)).all (fun p => Nat.ble s0.n p.1 || inL (h.places.flatMap (Place.boxIn s0)) p.1 || inL (h.kills s0) p.1) &&
 (h.places.flatMap (Place.boxIn s0)).all (fun b => !(inL (h.kills s0) b)) && h.mask.all (fun d => Nat.blt d s0.nt) && h.places.all (Place.same s0 s) && distinct (h.kills s) && (h.kills s).all (fun b => Nat.ble s0.n b || inL (h.kills s0) b)
def Part.wide : Part -> Bool
 | .dat _ => false | .row _ t => wideT t
def Place.out : Place -> Place
 | .row d e t => match wideT t with | true => .outT d (.sl t) [] | false => .row d e t
 | .boxRow d e t => match wideT t with | true => .outB d (.sl t) [.row e t] | false => .boxRow d e t
 | .mixT d ps => match ps.any Part.wide with | true => .outT d (partsTy ps) ps | false => .mixT d ps
 | .mixB d ps => match ps.any Part.wide with | true => .outB d (partsTy ps) ps | false => .mixB d ps
 | p => p
def Hint.out (h : Hint) : Hint := ⟨h.places.map Place.out, h.mask, h.keep⟩
def projOP (s : St) : (p : Place) -> Option p.ty.den
 | .row d e t => match wideT t with | true => projP s (.outT d (.sl t) []) | false => projP s (.row d e t)
 | .boxRow d e t => match wideT t with | true => projP s (.outB d (.sl t) [.row e t]) | false => projP s (.boxRow d e t)
 | .mixT d ps => match ps.any Part.wide with | true => projP s (.outT d (partsTy ps) ps) | false => projP s (.mixT d ps)
 | .mixB d ps => match ps.any Part.wide with | true => projP s (.outB d (partsTy ps) ps) | false => projP s (.mixB d ps)
 | .tmp d t => projP s (.tmp d t) | .box d t => projP s (.box d t) | .outT d t ps => projP s (.outT d t ps) | .outB d t ps => projP s (.outB d t ps)
def projOL (s : St) : (l : List Place) -> Option (l.foldr (fun p t => Ty.cons p.ty t) .nil).den
 | [] => some ()
 | p :: l => match projOP s p with
   | some x => match projOL s l with
     | some y => some (x, y)
     | none => none
   | none => none
def tellOP (s0 s : St) : (p : Place) -> p.ty.den -> Option St
 | .row d e t, x => match wideT t with | true => tellP s0 s (.outT d (.sl t) []) x | false => tellP s0 s (.row d e t) x
 | .boxRow d e t, x => match wideT t with | true => tellP s0 s (.outB d (.sl t) [.row e t]) x | false => tellP s0 s (.boxRow d e t) x
 | .mixT d ps, x => match ps.any Part.wide with | true => tellP s0 s (.outT d (partsTy ps) ps) x | false => tellP s0 s (.mixT d ps) x
 | .mixB d ps, x => match ps.any Part.wide with | true => tellP s0 s (.outB d (partsTy ps) ps) x | false => tellP s0 s (.mixB d ps) x
 | .tmp d t, x => tellP s0 s (.tmp d t) x | .box d t, x => tellP s0 s (.box d t) x | .outT d t ps, x => tellP s0 s (.outT d t ps) x | .outB d t ps, x => tellP s0 s (.outB d t ps) x
def tellOL (s0 : St) : (s : St) -> (l : List Place) -> (l.foldr (fun p t => Ty.cons p.ty t) .nil).den -> Option St
 | s, [], _ => some s
 | s, p :: l, x => match tellOP s0 s p x.1 with
   | some s => tellOL s0 s l x.2
   | none => none
def Hint.headO (h : Hint) (s : St) (x : h.ty.den) : Option St := tellOL s (h.out.mask0 s) h.places x
def Hint.headX (h : Hint) (s : St) (x : h.ty.den) : Option St := match h.keep with
 | true => h.head s x
 | false => h.headO s x
def evRound (h : Hint) (body : St -> (AExit -> St -> Nat -> Option (AExit × h.ty.den)) -> Option (AExit × h.ty.den)) (s0 : St) (x : h.ty.den) (again : h.ty.den -> Option (AExit × h.ty.den)) : Option (AExit × h.ty.den) :=
 match h.head s0 x with
 | some s => body s fun e s' _ => match e with
   | .normal => match h.within s0 s' with
     | true => match projL s' h.places with
       | some x' => again x'
       | none => none
     | false => none
   | e => match h.keep with
     | true => match h.within s0 s' with
       | true => match projL s' h.places with
         | some x' => some (e, x')
         | none => none
       | false => none
     | false => match frzPl s' h.out.places with
       | s' => match h.out.within s0 s' with
         | true => match projOL s' h.places with
           | some x' => some (e, x')
           | none => none
         | false => none
 | none => none
def rec1 {α β : Type} (step : Nat -> (α -> Option β) -> α -> Option β) (k : Nat) : α -> Option β := Nat.rec (motive := fun _ => α -> Option β) (fun _ => none) (fun k ih => step k ih) k
theorem rec1_succ {α β : Type} (step : Nat -> (α -> Option β) -> α -> Option β) (k : Nat) (x : α) : rec1 step (k + 1) x = step k (rec1 step k) x := rfl
def evLoop (h : Hint) (body : Nat -> St -> (AExit -> St -> Nat -> Option (AExit × h.ty.den)) -> Option (AExit × h.ty.den)) (s0 : St) : Nat -> h.ty.den -> Option (AExit × h.ty.den) :=
 rec1 fun k again x => evRound h (body k) s0 x again
def regId : Code -> Nat
 | .region id _ _ => id
 | .seq x _ => regId x
 | .cond _ x _ => regId x
 | .block _ x => regId x
 | .loop x => regId x
 | _ => 0
def calm : Op -> Nat
 | .move _ | .assign _ | .pick .. | .build .. | .fieldAddr .. | .field .. | .unOp .. | .binOp .. | .index .. | .extract .. | .nilCheck _ => 0
 | .load .. | .slice .. | .indexAddr .. | .convert .. => 1
 | .call c => match c.callee with
   | .builtin .append => 3
   | .builtin .copy => 3
   | .builtin .clear => 3
   | _ => 1
 | .store .. => 2
 | .alloc _ => 2
 | .buildSlice .. => 2
 | .box .. => 2
 | _ => 3
def isAl : Op -> Bool
 | .alloc _ => true
 | _ => false
def isRd : Op -> Bool
 | .slice .. => true | .convert .. => true
 | _ => false
def isBS : Op -> Bool
 | .buildSlice .. => true
 | _ => false
def isLd : Op -> Bool
 | .load .. => true
 | _ => false
def isSt : Op -> Bool
 | .store .. => true
 | _ => false
def freeOp (nb ns : Bool) (op : Op) : Bool := nb && isRd op || ns && isLd op
def waits (o : Oper) (j : Nat) : Bool := o.after.any fun e => Region.binds .any e && Nat.beq e.on j
def tmpsOf (o : Oper) : List Nat := o.op.operands.toList.filterMap fun | .tmp t => some t | _ => none
def opOk (ops : Array Oper) (i : Nat) (o : Oper) : Bool :=
 Nat.blt (calm o.op) 3 && o.after.all (fun e => !(Region.binds .any e) || Nat.blt e.on i) &&
 (match o.guard with
  | none => true
  | some (j, _) => waits o j && match (ops[j]?).bind (·.dst) with
    | some _ => true
    | none => false) &&
 (!(isAl o.op) || o.after.all fun e => !(Region.binds .any e)) &&
 (List.range ops.size).all fun j => match ops[j]? with
  | none => true
  | some o' =>
    (match o'.dst with
     | none => true
     | some d => !(inL (tmpsOf o) d) || waits o j) &&
    (Nat.beq i j || match o.dst, o'.dst with
     | some d, some d' => !(Nat.beq d d')
     | _, _ => true)
def allOk (ops : Array Oper) : Nat -> List Oper -> Bool
 | _, [] => true
 | i, o :: l => opOk ops i o && allOk ops (i + 1) l
def maskOf (ms : List Nat) (o : Oper) : Nat := o.after.toList.foldl (fun m e => match Region.binds .any e with
 | true => Nat.lor (Nat.lor m (Nat.pow 2 e.on)) (ms.getD e.on 0)
 | false => m) 0
def forceN {α : Type} (m : Nat) (f : Nat -> α) : α := Nat.casesOn (motive := fun _ => α) m (f 0) fun n => f (n + 1)
def ordAt (fr : Op -> Bool) (m : Nat) (o : Oper) : List Oper -> Nat -> Bool
 | [], _ => true
 | o' :: l, j => (!(Nat.beq (calm o.op) 2) && !(Nat.beq (calm o'.op) 2) || Nat.beq (calm o.op) 0 || Nat.beq (calm o'.op) 0 || Nat.testBit m j || isAl o.op && Nat.beq (calm o'.op) 1 || fr o.op || fr o'.op) && ordAt fr m o l (j + 1)
def ordOk (fr : Op -> Bool) : List Oper -> List Oper -> List Nat -> Bool
 | [], _, _ => true
 | o :: l, pre, ms => forceN (maskOf ms o) fun m => ordAt fr m o pre 0 && ordOk fr l (pre ++ [o]) (ms ++ [m])
def noBS (ops : Array Oper) : Bool := ops.toList.all fun o => !(isBS o.op)
def noSt (ops : Array Oper) : Bool := ops.toList.all fun o => !(isSt o.op)
def drawOk (ops : Array Oper) : Bool := allOk ops 0 ops.toList && ordOk (freeOp (noBS ops) (noSt ops)) ops.toList [] []
structure Fact where
 t : TypeId
 b : Nat
 off : Nat
 v : CV
def capsEq : List (Nat × Nat) -> List (Nat × Nat) -> Bool
 | [], [] => true
 | p :: l, q :: m => Nat.beq p.1 q.1 && Nat.beq p.2 q.2 && capsEq l m
 | _, _ => false
def cvEq : CV -> CV -> Bool
 | .ptr b o, .ptr b' o' => Nat.beq b b' && Nat.beq o o'
 | .fn f l, .fn f' l' => Nat.beq f f' && capsEq l l'
 | _, _ => false
def factAt (s : St) (t : TypeId) (b off : Nat) : Option CV := match look s.st b with
 | some (.cells l _) => match mkAV P t (l.drop off) with
   | some (.one (.ptr b2 o2)) => some (.ptr b2 o2)
   | some (.one (.fn f l)) => some (.fn f l)
   | _ => none
 | _ => none
def factsOf (s : St) : List Oper -> List Fact
 | [] => []
 | o :: l => match o.op with
   | .load t x => match aval s x with
     | .one (.ptr b off) => match factAt P s t b off with
       | some v => ⟨t, b, off, v⟩ :: factsOf s l
       | none => factsOf s l
     | _ => factsOf s l
   | _ => factsOf s l
def factsOk (s : St) : List Fact -> Bool
 | [] => true
 | f :: l => match factAt P s f.t f.b f.off with
   | some v => cvEq v f.v && factsOk s l
   | none => false
def findFact (t : TypeId) (b off : Nat) : List Fact -> Option CV
 | [] => none
 | f :: l => match Nat.beq f.t t && Nat.beq f.b b && Nat.beq f.off off with
   | true => some f.v
   | false => findFact t b off l
inductive DStep where
 | done | first (i : Nat) (o : Oper) | many (l : List (Nat × Oper))
def isFirst (F : List Fact) (ph : Bool) (s : St) (op : Op) : Bool := match op with
 | .load t x => match aval s x with
   | .one (.ptr b off) => match findFact t b off F with
     | some _ => true
     | none => false
   | .one (.rp ..) => ph
   | _ => false
 | .indexAddr t x i => match avalR s x with
   | .one (.sl ..) => true
   | _ => false
 | .move _ => true | .assign _ => true | .extract .. => true | .fieldAddr .. => true
 | _ => false
def noGuard (o : Oper) : Bool := match o.guard with
 | none => true
 | some _ => false
def waysOf (ops : Array Oper) : List Nat -> Option (List (Nat × Oper))
 | [] => some []
 | i :: r => match ops[i]?, waysOf ops r with
   | some o, some l => match noGuard o with
     | true => some ((i, o) :: l)
     | false => none
   | _, _ => none
def nextD (fs : Op -> Bool) (ops : Array Oper) (listed : Array Bool) : Option DStep := match Region.ready .any ops listed with
 | [] => some .done
 | i :: r => match (i :: r).find? (fun i => Region.free .any ops listed i && match ops[i]? with | some o => noGuard o && fs o.op | none => false) with
   | some j => match ops[j]? with
     | some o => some (.first j o)
     | none => none
   | none => match waysOf ops (i :: r) with
     | some l => match Nat.ble l.length 4 with
       | true => some (.many l)
       | false => none
     | none => none
def evD (Γ : FuncId -> Option Sig) (inl : FuncId -> List AV -> St -> (AV -> St -> Option α) -> Option α) (F : List Fact) (ops : Array Oper) : Nat -> Bool -> Array Bool -> St -> (St -> Option α) -> Option α
 | 0, _, listed, s, K => match Region.ready .any ops listed with
   | [] => K s
   | _ => none
 | fuel + 1, ph, listed, s, K =>
   let only (i : Nat) (o : Oper) : Option α :=
    let K' (v : AV) (s : St) : Option α := match factsOk P s F with
     | true => s.put o.dst v fun s => evD Γ inl F ops fuel false (listed.setIfInBounds i true) s K
     | false => none
    match o.op with
    | .call c => evCall P Γ inl c s K'
    | op => evCut P op s K'
   match nextD (isFirst F ph s) ops listed with
   | some .done => K s
   | some (.first i o) => match o.op with
     | .load t x => match aval s x with
       | .one (.ptr b off) => match findFact t b off F with
         | some v => s.put o.dst (.one v) fun s => evD Γ inl F ops fuel ph (listed.setIfInBounds i true) s K
         | none => none
       | .one (.rp ty x off) => match ph with
         | true => match mkAV P t ((cellsCV ty x).drop off) with
           | some v => s.put o.dst v fun s => evD Γ inl F ops fuel true (listed.setIfInBounds i true) s K
           | none => none
         | false => none
       | _ => none
     | .indexAddr t x ix => match P.underlying t with
       | some (.slice e) => match szOf P e with
         | some n => match avalR s x, aval s ix with
           | .one (.sl t l), .one (.val (.int _ j)) => match Nat.beq n t.width with
             | true => cond (decide (0 <= j)) (cond (decide (j < l.length)) (s.put o.dst (.one (.rp t (l.getD j.toNat t.zero) 0)) fun s => evD Γ inl F ops fuel ph (listed.setIfInBounds i true) s K) none) none
             | false => none
           | _, _ => none
         | none => none
       | _ => none
     | .move x => s.put o.dst (aval s x) fun s => evD Γ inl F ops fuel ph (listed.setIfInBounds i true) s K
     | .assign x => s.put o.dst (aval s x) fun s => evD Γ inl F ops fuel ph (listed.setIfInBounds i true) s K
     | .extract x ix => evExtract x ix s fun v s => s.put o.dst v fun s => evD Γ inl F ops fuel ph (listed.setIfInBounds i true) s K
     | .fieldAddr t x f => evFieldAddr P t x f s fun v s => s.put o.dst v fun s => evD Γ inl F ops fuel ph (listed.setIfInBounds i true) s K
     | _ => none
   | some (.many l) => allWays (fun p => only p.1 p.2) l
   | none => none
def needsInl (Γ : FuncId -> Option Sig) (ops : Array Oper) : Bool := ops.toList.any fun o => match o.op with
 | .call c => match c.callee with
   | .value (.func f) => (Γ f).isNone
   | .value _ => true
   | _ => false
 | _ => false
def isInl (Γ : FuncId -> Option Sig) (o : Oper) : Bool := match o.op with
 | .call c => match c.callee with
   | .value (.func f) => (Γ f).isNone
   | .value _ => true
   | _ => false
 | _ => false
def preLen (Γ : FuncId -> Option Sig) : List Oper -> Nat
 | [] => 0
 | o :: l => match isInl Γ o with
   | true => 0
   | false => preLen Γ l + 1
def preArr (ops : Array Oper) (m : Nat) : Array Oper := (ops.toList.take m).toArray
def lateOk (m : Nat) : List Oper -> Nat -> List Nat -> Bool
 | [], _, _ => true
 | o :: l, i, ms => forceN (maskOf ms o) fun k => (Nat.blt i m || (List.range m).all (Nat.testBit k)) && lateOk m l (i + 1) (ms ++ [k])
def padL (n m : Nat) : Array Bool := (List.replicate m true ++ List.replicate (n - m) false).toArray
def preOk (m : Nat) (ops : Array Oper) : Bool := Nat.blt 0 m && Nat.ble m ops.size && drawOk (preArr ops m) && lateOk m ops.toList 0 []
def evRep (body : St -> (AExit -> St -> Nat -> Option α) -> Option α) (K : AExit -> St -> Nat -> Option α) : Nat -> St -> Option α
 | 0, _ => none
 | m + 1, s => body s fun e s k => match e with
   | .normal => evRep body K m s
   | .exit i => K (.exit i) s k
   | .ret => K .ret s k
def condKey : Operand -> Nat
 | .tmp t => 3000000 + t
 | _ => 2999999
def joinN (h : Hint) (s0 s' : St) : Option h.ty.den := match h.within s0 s' with
 | true => projL s' h.places
 | false => none
def endB : AExit -> Option Bool
 | .normal => some true
 | .ret => some false
 | .exit _ => none
def exitB : Bool -> AExit
 | true => .normal
 | false => .ret
def joinK (h : Hint) (s0 : St) (e : AExit) (s' : St) (_ : Nat) : Option (Bool × h.ty.den) := match endB e with
 | some b => match joinN h s0 s' with
   | some x => some (b, x)
   | none => none
 | none => none
abbrev Inl : Type 1 := (β : Type) -> Nat -> (Value -> St -> Option β) -> FuncId -> List AV -> St -> (AV -> St -> Option β) -> Option β
def noT {β : Type} (_ : Value) (_ : St) : Option β := none
def throwsOf (nt : Nat) (ops : Array Oper) : Option Value := match ops.toList with
 | [a, b] => match a.op, a.dst, a.guard, b.op, b.guard with
   | .makeInterface t (.const v), some d, none, .panic (.tmp d'), none => match Nat.beq d d', Nat.blt d nt, P.underlying t with
     | true, true, some (.interface _) => none
     | true, true, some _ => some (.iface t v)
     | _, _, _ => none
   | _, _, _, _, _ => none
 | _ => none
def throws (draw : Bool) (nt : Nat) (ops : Array Oper) : Option Value := match draw with
 | true => none
 | false => throwsOf P nt ops
def evReg (Γ : FuncId -> Option Sig) (inlT inl : FuncId -> List AV -> St -> (AV -> St -> Option α) -> Option α) (draw : Bool) (ops : Array Oper) (s : St) (K : St -> Option α) : Option α := match !draw || drawOk ops && !(needsInl Γ ops) with
 | true => evOps P Γ (match draw with | true => fun _ _ _ _ => none | false => inlT) (!draw) (match draw with | true => noFz | false => frzOp Γ) ops ops.toList s K
 | false => match Region.noSelect ops with
   | true => match preOk (preLen Γ ops.toList) ops with
     | true => evOps P Γ (fun _ _ _ _ => none) false noFz (preArr ops (preLen Γ ops.toList)) (preArr ops (preLen Γ ops.toList)).toList s fun s =>
       evD P Γ inl (factsOf P s ops.toList) ops ops.size true (padL ops.size (preLen Γ ops.toList)) s K
     | false => evD P Γ inl (factsOf P s ops.toList) ops ops.size true (Array.replicate ops.size false) s K
   | false => none
def noRet : Code -> Bool
 | .skip => true | .region .. => true | .label _ => true | .exit _ => true
 | .seq a b => noRet a && noRet b
 | .cond _ a b => noRet a && noRet b
 | .block _ c => noRet c | .loop c => noRet c | .scope c => noRet c
 | _ => false
def ev (Γ : Nat -> FuncId -> Option Sig) (H : Nat -> Option Hint) (inl : Inl) : Code -> (α : Type) -> Nat -> (Value -> St -> Option α) -> St -> (AExit -> St -> Nat -> Option α) -> Option α
 | .skip, _, k, _, s, K => K .normal s k
 | .region id ops draw, α, k, T, s, K => match throws P draw s.nt ops with
   | some v => T v s
   | none => match H (4000000 + id) with
     | some h => (evReg P (Γ k) (inl h.ty.den k noT) (inl h.ty.den k noT) draw ops s fun s' => joinN h s s').bind fun x => match h.head s x with
       | some s' => K .normal s' k
       | none => none
     | none => evReg P (Γ k) (inl α k T) (inl α k noT) draw ops s fun s => K .normal s k
 | .seq a b, α, k, T, s, K => ev Γ H inl a α k T s fun e s k => match e with
   | .normal => ev Γ H inl b α k T s K
   | e => K e s k
 | .cond c x y, α, k, T, s, K => match aval s c with
   | .one (.val (.bool b)) => match H (condKey c) with
     | none => cond b (ev Γ H inl x α k T s K) (ev Γ H inl y α k T s K)
     | some h => (cond b (ev Γ H inl x (Bool × h.ty.den) k noT s (joinK h s)) (ev Γ H inl y (Bool × h.ty.den) k noT s (joinK h s))).bind fun r => match h.head s r.2 with
       | some s' => cond r.1 (K .normal s' k) (K .ret s' k)
       | none => none
   | _ => none
 | .block id c, α, k, T, s, K => ev Γ H inl c α k T s fun e s k => match e with
   | .exit i => match Nat.beq i id with
     | true => K .normal s k
     | false => K (.exit i) s k
   | e => K e s k
 | .loop c, α, k, T, s, K => match H (regId c) with
   | some h => match frzPl s h.places with
     | s => match h.within s s with
       | true => match projL s h.places with
         | some x => (evLoop h (fun k => ev Γ H inl c (AExit × h.ty.den) k noT) s k x).bind fun r => match h.headX s r.2 with
           | some s' => match r.1 with
             | .normal => none
             | .exit i => K (.exit i) s' k
             | .ret => match noRet c with
               | true => none
               | false => K .ret s' k
           | none => none
         | none => none
       | false => none
   | none => evRep (fun s K => ev Γ H inl c α k T s K) K 9 s
 | .scope c, α, k, T, s, K => ev Γ H inl c α k T s K
 | .label _, _, k, _, s, K => K .normal s k
 | .exit id, _, k, _, s, K => K (.exit id) s k
 | .ret, _, k, _, s, K => K .ret s k
 | _, _, _, _, _, _ => none
def resAV (s : St) : ResultVar -> Option AV
 | .tmp t => some (s.get t)
 | .cell a t => match s.get a with
   | .one (.ptr b off) => match look s.st b with
     | some (.cells l _) => mkAV P t (l.drop off)
     | _ => none
   | _ => none
def tupAV : AV -> Option (Bool × List CV)
 | .one c => match (AV.one c).cells with
   | some _ => some (false, [c])
   | none => none
 | .agg l => some (true, l) | .tup _ => none
def resultsAV (s : St) : List ResultVar -> Option (List (Bool × List CV))
 | [] => some []
 | r :: l => match resAV P s r with
   | some v => match tupAV v, resultsAV s l with
     | some p, some q => some (p :: q)
     | _, _ => none
   | none => none
def resultAV (s : St) (l : List ResultVar) : Option AV := match l with
 | [r] => resAV P s r
 | l => match resultsAV P s l with
   | some l => some (.tup l)
   | none => none
def enumF {α : Type} : Nat -> List α -> List (Nat × α)
 | _, [] => []
 | i, a :: l => (i, a) :: enumF (i + 1) l
inductive GX where
 | alloc (t : TypeId) | mk (g : FuncId) (a b : Tmp) | defer (d : Tmp) | move (d : Tmp) | assign (d : Tmp) | call (d : Tmp) | recov
 | store (t : TypeId) (p v : Tmp) | store0 (t : TypeId) (p : Tmp) | assert (x : Tmp) (a b : TypeId) | extract (x : Tmp) (i : Nat) | load (t : TypeId) (x : Tmp)
def GX.op : GX -> Array TypeId -> Op
 | .alloc t, _ => .alloc t
 | .mk g a b, _ => .makeFunc (.func g) #[] #[.tmp a, .tmp b]
 | .defer d, ts => .defer ⟨.value (.tmp d), #[], ts⟩
 | .move d, _ => .move (.tmp d)
 | .assign d, _ => .assign (.tmp d)
 | .call d, ts => .call ⟨.value (.tmp d), #[], ts⟩
 | .recov, ts => .call ⟨.builtin .recover, #[], ts⟩
 | .store t p v, _ => .store t (.tmp p) (.tmp v)
 | .store0 t p, _ => .store t (.tmp p) (.const (.int .i64 0))
 | .assert x a b, _ => .typeAssert (.tmp x) a b true
 | .extract x i, _ => .extract (.tmp x) i
 | .load t x, _ => .load t (.tmp x)
def isTmp (d : Tmp) : Operand -> Bool
 | .tmp e => Nat.beq e d
 | _ => false
def noArgs (c : Call) : Bool := match c.args.toList with | [] => true | _ => false
def calls (d : Tmp) (c : Call) : Bool := noArgs c && match c.callee with | .value x => isTmp d x | _ => false
def GX.is : GX -> Op -> Bool
 | .alloc t, .alloc t' => Nat.beq t' t
 | .mk g a b, .makeFunc (.func g') f c => Nat.beq g' g && match f.toList, c.toList with
   | [], [x, y] => isTmp a x && isTmp b y
   | _, _ => false
 | .defer d, .defer c => calls d c
 | .move d, .move x => isTmp d x
 | .assign d, .assign x => isTmp d x
 | .call d, .call c => calls d c
 | .recov, .call c => noArgs c && match c.callee with | .builtin .recover => true | _ => false
 | .store t p v, .store t' x y => Nat.beq t' t && isTmp p x && isTmp v y
 | .store0 t p, .store t' x y => Nat.beq t' t && isTmp p x && match y with | .const (.int .i64 n) => decide (n = 0) | _ => false
 | .assert x a b, .typeAssert y a' b' ok => isTmp x y && Nat.beq a' a && Nat.beq b' b && ok
 | .extract x i, .extract y j => isTmp x y && Nat.beq j i
 | .load t x, .load t' y => Nat.beq t' t && isTmp x y
 | _, _ => false
def isDst : Option Nat -> Option Nat -> Bool
 | none, none => true
 | some a, some b => Nat.beq b a
 | _, _ => false
def operIs (p : Option Nat × GX) (o : Oper) : Bool := noGuard o && isDst p.1 o.dst && p.2.is o.op
def opersAre : List (Option Nat × GX) -> List Oper -> Bool
 | [], [] => true
 | p :: l, o :: m => operIs p o && opersAre l m
 | _, _ => false
def isReg (l : List (Option Nat × GX)) : Code -> Bool
 | .region _ ops false => opersAre l ops.toList
 | _ => false
structure GotI where
 T : TypeId
 E : TypeId
 A : TypeId
 d : FuncId
def GotI.r0 (i : GotI) : List (Option Nat × GX) := [(some 2, .alloc i.T), (some 3, .alloc i.E)]
def GotI.r1 (i : GotI) : List (Option Nat × GX) := [(some 4, .mk i.d 2 3), (none, .defer 4)]
def GotI.r2 (i : GotI) : List (Option Nat × GX) := [(some 5, .move 0), (some 6, .call 5), (none, .store i.T 2 6), (none, .store0 i.E 3)]
def GotI.d0 (i : GotI) : List (Option Nat × GX) := [(some 6, .recov), (some 7, .assert 6 i.A i.E), (some 5, .move 7), (some 8, .extract 5 0), (some 9, .extract 5 1), (some 2, .assign 8), (some 3, .assign 9)]
def GotI.d1 (_ : GotI) : List (Option Nat × GX) := [(some 10, .move 3)]
def GotI.d2 (i : GotI) : List (Option Nat × GX) := [(some 4, .alloc i.T)]
def GotI.d3 (i : GotI) : List (Option Nat × GX) := [(some 11, .load i.T 4), (some 12, .move 2), (none, .store i.T 0 11), (none, .store i.E 1 12)]
def GotI.body (i : GotI) : Code -> Bool
 | .seq a (.seq b (.seq c .ret)) => isReg i.r0 a && isReg i.r1 b && isReg i.r2 c
 | _ => false
def GotI.late (i : GotI) : Code -> Bool
 | .seq a (.seq b (.cond x (.seq c d) .skip)) => isReg i.d0 a && isReg i.d1 b && isTmp 10 x && isReg i.d2 c && isReg i.d3 d
 | _ => false
def gotRead (c : Code) : Option (TypeId × TypeId × FuncId) := match c with
 | .seq (.region _ r0 false) (.seq (.region _ r1 false) _) => match r0.toList, r1.toList with
   | [a, b], [m, _] => match a.op, b.op, m.op with
     | .alloc t, .alloc e, .makeFunc (.func d) _ _ => some (t, e, d)
     | _, _, _ => none
   | _, _ => none
 | _ => none
def gotReadA (c : Code) : Option TypeId := match c with
 | .seq (.region _ r0 _) _ => match r0.toList with
   | _ :: b :: _ => match b.op with
     | .typeAssert _ a _ _ => some a
     | _ => none
   | _ => none
 | _ => none
def isI64 (t : TypeId) : Bool := match P.underlying t with
 | some (.int .i64) => true
 | _ => false
def gotRes (i : GotI) : List ResultVar -> Bool
 | [.cell a t, .cell b e] => Nat.beq a 2 && Nat.beq t i.T && Nat.beq b 3 && Nat.beq e i.E
 | _ => false
def plainF (fn : Func) : Bool := !(fn.name == "runtime.NumGoroutine")
def gotB (i : GotI) (fn dn : Func) : Bool := match fn.body, dn.body, dn.results.toList with
 | some c, some d, [] => i.body c && i.late d && gotRes i fn.results.toList && plainF fn && plainF dn && Nat.beq fn.ntmps 7 && Nat.beq dn.ntmps 13 && isI64 P i.E
 | _, _, _ => false
def gotOf (f : FuncId) : Option GotI := match P.funcs[f]? with
 | none => none
 | some fn => match fn.body with
   | none => none
   | some c => match gotRead c with
     | none => none
     | some (t, e, d) => match P.funcs[d]? with
       | none => none
       | some dn => match dn.body with
         | none => none
         | some c' => match gotReadA c' with
           | none => none
           | some a => match gotB P ⟨t, e, a, d⟩ fn dn with
             | true => some ⟨t, e, a, d⟩
             | false => none
def gotEnd (i : GotI) (s : St) (lc : List CV) (n : Int) (K : AV -> St -> Option α) (t : St) : Option α := match look t.st s.n, look t.st (s.n + 1) with
 | some (.cells l1 e1), some (.cells l2 e2) => match Nat.beq lc.length l1.length, Nat.beq l2.length 1, szOf P i.T, szOf P i.E, mkAV P i.T lc, mkAV P i.E [.val (.int .i64 n)] with
   | true, true, some m1, some m2, some v, some (.one (.val (.int .i64 n'))) => match Nat.beq m1 lc.length, Nat.beq m2 1, decide (n' = n), tupAV v with
     | true, true, true, some p => K (.tup [p, (false, [.val (.int .i64 n)])]) { s with st := (s.n + 1, .cells [.val (.int .i64 n)] e2) :: (s.n, .cells lc e1) :: t.st, n := t.n }
     | _, _, _, _ => none
   | _, _, _, _, _, _ => none
 | _, _ => none
def evGot (i : GotI) (inl : (Value -> St -> Option α) -> FuncId -> List AV -> St -> (AV -> St -> Option α) -> Option α) (args : List AV) (s : St) (K : AV -> St -> Option α) : Option α := match args with
 | [.one (.fn g caps)] => match zeroOf P i.T, zeroOf P i.E with
   | some z, some (.int .i64 n0) => match (ofVal z).cells, decide (n0 = 0) with
     | some lz, true => match mkAV P i.T lz with
       | some v0 => match v0.cells with
         | some l0 => inl (fun v t => match v with
          | .iface e (.int .i64 n) => match Nat.beq e i.E with
            | true => gotEnd P i s l0 n K (newBlk t lz i.T)
            | false => none
          | _ => none) g (caps.map fun p => .one (.ptr p.1 p.2)) (newBlk (newBlk s lz i.T) [.val (.int .i64 0)] i.E) fun v t => match v.cells with
          | some lc => gotEnd P i s lc 0 K t
          | none => none
         | none => none
       | none => none
     | _, _ => none
   | _, _ => none
 | _ => none
inductive Special where
 | lend (g : Sig)
 | seqs (v c : FuncId) (e : TypeId) (g : Sig)
def scalarT : Ty -> Bool
 | .int _ => true | .bool => true | .str => true | _ => false
def frzAll (s : St) (args : List AV) : St := args.foldl St.frz s
def evLend (g : Sig) (args : List AV) (s : St) (K : AV -> St -> Option α) : Option α := match g.res.all scalarT with
 | true => match argsOf g.args (args.map (frzAll s args).deref) with
   | some x => (g.den x).bind fun r => K (resOf g.res r) s
   | none => none
 | false => none
def ownRes : (ts : List Ty) -> (ts.foldr Ty.cons .nil).den -> Option ((t : Ty) × List t.den)
 | [.sl t], y => some ⟨t, y.1⟩
 | _, _ => none
def evOwn (e : TypeId) (g : Sig) (args : List AV) (s : St) (K : AV -> St -> Option α) : Option α := match argsOf g.args (args.map (frzAll s args).deref) with
 | some x => (g.den x).bind fun r => match ownRes g.res r with
   | some ⟨t, l⟩ => K (.one (.row (frzAll s args).n)) (mrowBlk (frzAll s args) e t l)
   | none => none
 | none => none
def evSeqs (v c : FuncId) (e : TypeId) (g : Sig) (args : List AV) (s : St) (K : AV -> St -> Option α) : Option α := match args with
 | [.one (.fn v' [(b, o)]), .one (.fn c' [])] => match Nat.beq v' v, Nat.beq c' c, Nat.beq o 0, look s.st b with
   | true, true, true, some (.cells [x] _) => evOwn e g [.one x] s K
   | _, _, _, _ => none
 | _ => none
def evF (Γ : Nat -> FuncId -> Option Sig) (Φ : Nat -> FuncId -> Option Special) (H : FuncId -> Nat -> Option Hint) : Nat -> Inl
 | 0, _, _, _, _, _, _, _ => none
 | D + 1, α, k, T, f, args, s, K => match gotOf P f with
   | some i => evGot P i (fun T => evF Γ Φ H D α k T) args s K
   | none => match Φ k f with
     | some (.lend g) => evLend g args s K
     | some (.seqs v c e g) => evSeqs v c e g args s K
     | none => match P.funcs[f]? with
       | some fn => match fn.body, fn.name == "runtime.NumGoroutine", Nat.ble args.length fn.ntmps with
         | some c, false, true => ev P Γ (H f) (evF Γ Φ H D) c α k T { tm := enumF 0 args, st := s.st, n := s.n, nt := fn.ntmps } fun e s' _ => match e with
           | .exit _ => none
           | _ => match resultAV P s' fn.results.toList with
             | some v => backK v { s with st := s'.st, n := s'.n } K
             | none => none
         | _, _, _ => none
       | none => none
def argAVs : (ts : List Ty) -> (ts.foldr Ty.cons .nil).den -> List AV
 | [], _ => []
 | t :: ts, x => toAV t x.1 :: argAVs ts x.2
def evTop (Γ : Nat -> FuncId -> Option Sig) (Φ : Nat -> FuncId -> Option Special) (H : FuncId -> Nat -> Option Hint) (D : Nat) (k : Nat) (f : FuncId) (args : List AV) (ts : List Ty) : Option (ts.foldr Ty.cons .nil).den :=
 evF P Γ Φ H D _ k noT f args { tm := [], st := [], n := 0, nt := 0 } fun v s => match ts, (s.frz v).deref v with
  | [t], v => match unAV t v with
    | some x => some (x, ())
    | none => none
  | ts, .tup l => argsOf ts (l.map fun p => match p with | (true, l) => .agg l | (false, [c]) => .one c | _ => .one .any)
  | _, _ => none
end
end
end Go.Proofs.YtfhphiedbdinmaaGreatDoor.Ab
