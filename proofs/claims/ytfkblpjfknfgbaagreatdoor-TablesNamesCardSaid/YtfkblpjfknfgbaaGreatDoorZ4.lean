/-
  Parts of the proof: AS0, Kept, Rows2, AS1, AS2, AS3, AS4, AS5, AF1, AW1, AF2, AF3, AF4, AF5.
-/
import Derived.Test.YtfkblpjfknfgbaaGreatDoorRows
import Derived.Test.YtfkblpjfknfgbaaGreatDoorZ3
import Derived.Test.YtfkblpjfknfgbaaGreatDoorZ1
import Derived.Maps.AppendAt
import Derived.Maps.Own
import Derived.Maps.OwnSet
import Derived.Maps.Views
import Derived.Deep.RegionWith
set_option linter.unusedVariables false
set_option linter.unusedSimpArgs false
namespace Go.Proofs.YtfkblpjfknfgbaaGreatDoor
open Go.RowKit
instance lawfulBA : LawfulBEq ByteArray where
  eq_of_beq {a b} h := by
    obtain ⟨a⟩ := a
    obtain ⟨b⟩ := b
    have : (a == b) = true := h
    rw [eq_of_beq this]
  rfl {a} := by
    obtain ⟨a⟩ := a
    show (a == a) = true
    exact beq_self_eq_true a
def wgo : List UInt8 → List UInt8 → List UInt8 × List UInt8 × Bool × Int
  | acc, [] => (acc, [], false, 0)
  | acc, b :: l =>
    if b.toNat = 47 then (acc, l, true, 0)
    else if b.toNat = 92 then match l with
      | [] => ([], [], false, 20)
      | c :: l' => if c.toNat = 92 ∨ c.toNat = 47 ∨ c.toNat = 35 then wgo (acc ++ [c]) l' else ([], [], false, 20)
    else wgo (acc ++ [b]) l
  termination_by _ l => l.length
theorem wgo_nil (acc : List UInt8) : wgo acc [] = (acc, [], false, 0) := by rw [wgo]
theorem wgo_slash (acc : List UInt8) (b : UInt8) (l : List UInt8) (h : b.toNat = 47) : wgo acc (b :: l) = (acc, l, true, 0) := by rw [wgo.eq_def]; simp [h]
theorem wgo_end (acc : List UInt8) (b : UInt8) (h : b.toNat = 92) : wgo acc [b] = ([], [], false, 20) := by rw [wgo.eq_def]; simp [h]
theorem wgo_esc (acc : List UInt8) (b c : UInt8) (l : List UInt8) (h : b.toNat = 92) (hc : c.toNat = 92 ∨ c.toNat = 47 ∨ c.toNat = 35) : wgo acc (b :: c :: l) = wgo (acc ++ [c]) l := by rw [wgo.eq_def]; simp only [h]; rw [if_neg (by decide), if_pos (by decide), if_pos hc]
theorem wgo_bad (acc : List UInt8) (b c : UInt8) (l : List UInt8) (h : b.toNat = 92) (hc : ¬ (c.toNat = 92 ∨ c.toNat = 47 ∨ c.toNat = 35)) : wgo acc (b :: c :: l) = ([], [], false, 20) := by rw [wgo.eq_def]; simp only [h]; rw [if_neg (by decide), if_pos (by decide), if_neg hc]
theorem wgo_more (acc : List UInt8) (b : UInt8) (l : List UInt8) (h : b.toNat ≠ 47) (h' : b.toNat ≠ 92) : wgo acc (b :: l) = wgo (acc ++ [b]) l := by rw [wgo.eq_def]; simp only []; rw [if_neg h, if_neg h']
def wordR (l : List UInt8) : List UInt8 × List UInt8 × Bool × Int := wgo [] l
structure Cl where
  flag : Int
  kind : Int
  cross : Bool
  first : Int
  count : Int
structure Rl where
  kind : Int
  flag : Int
  cross : Bool
  strip : ByteArray
  add : ByteArray
  cond : ByteArray
  next : List Int
  line : Int
structure Fl where
  kind : Int
  charset : ByteArray
  tryT : ByteArray
  s0 : Int
  s1 : Int
  s2 : Int
  s3 : Int
  s4 : Int
  least : Int
  reps : List (ByteArray × ByteArray)
  als : List (List Int)
  cls : List Cl
  rls : List Rl
def fl0 : Fl := ⟨1, ⟨#[]⟩, ⟨#[]⟩, 0, 0, 0, 0, 0, 3, [], [], [], []⟩
def noCl : Cl := ⟨0, 0, false, 0, 0⟩
def clsIx (cls : List Cl) (f : Int) : Option Nat := cls.findIdx? (fun c => c.flag == f)
def findC (F : Fl) (f : Int) : Option Cl := F.cls.find? (fun c => c.flag == f)
def definedB (F : Fl) (f : Int) : Bool := F.s0 == f || F.s1 == f || F.s2 == f || F.s3 == f || F.s4 == f || (findC F f).isSome
def fitE (s : ByteArray) : Int := if s.size = 0 ∨ fitAll s = false then 21 else if 32 < s.size then 22 else 0
def zeroS : ByteArray := ⟨#[48]⟩
def pieceR (none_ : Bool) (s : ByteArray) : Except Int ByteArray :=
  if none_ = true ∧ s = zeroS then .ok ⟨#[]⟩ else match wordR s.data.toList with
    | (w, _, cut, e) => if e ≠ 0 then .error e else if cut = true then .error 114 else if fitE (mkS w) ≠ 0 then .error (fitE (mkS w)) else .ok (mkS w)
def flagsR (F : Fl) (s : ByteArray) : List Int × Int :=
  if F.als.length = 0 then readF F.kind s.data.toList
  else if numErr s.data.toList F.als.length ≠ 0 ∨ numVal s.data.toList F.als.length = 0 then ([], 13)
  else (F.als.getD (numVal s.data.toList F.als.length - 1).toNat [], 0)
def freshR (F : Fl) (s : ByteArray) : Except Int Int :=
  if (oneF F.kind s.data.toList).2 ≠ 0 then .error (oneF F.kind s.data.toList).2
  else if definedB F (oneF F.kind s.data.toList).1 = true then .error 115 else .ok (oneF F.kind s.data.toList).1
abbrev kFLAG : ByteArray := ⟨#[70, 76, 65, 71]⟩
abbrev kSET : ByteArray := ⟨#[83, 69, 84]⟩
abbrev kTRY : ByteArray := ⟨#[84, 82, 89]⟩
abbrev kNEED : ByteArray := ⟨#[78, 69, 69, 68, 65, 70, 70, 73, 88]⟩
abbrev kFORBID : ByteArray := ⟨#[70, 79, 82, 66, 73, 68, 68, 69, 78, 87, 79, 82, 68]⟩
abbrev kKEEP : ByteArray := ⟨#[75, 69, 69, 80, 67, 65, 83, 69]⟩
abbrev kPART : ByteArray := ⟨#[67, 79, 77, 80, 79, 85, 78, 68, 70, 76, 65, 71]⟩
abbrev kQUIET : ByteArray := ⟨#[78, 79, 83, 85, 71, 71, 69, 83, 84]⟩
abbrev kMIN : ByteArray := ⟨#[67, 79, 77, 80, 79, 85, 78, 68, 77, 73, 78]⟩
abbrev kREP : ByteArray := ⟨#[82, 69, 80]⟩
abbrev kAF : ByteArray := ⟨#[65, 70]⟩
abbrev kPFX : ByteArray := ⟨#[80, 70, 88]⟩
abbrev kSFX : ByteArray := ⟨#[83, 70, 88]⟩
def keyL : List ByteArray := [kFLAG, kSET, kTRY, kNEED, kFORBID, kKEEP, kPART, kQUIET, kMIN, kREP, kAF, kPFX, kSFX]
def keyN (s : ByteArray) : Nat := keyL.findIdx (fun k => decide (k = s))
def keyS (n : Nat) : ByteArray := keyL.getD n kSFX
def widthN (k : Nat) : Nat := if k < 11 then 2 else 4
def lateN (k : Nat) : Bool := (decide (3 ≤ k) && decide (k ≤ 7)) || (decide (10 ≤ k) && decide (k ≤ 12))
abbrev Row := Int × List ByteArray
structure Sx where
  fl : Fl
  rows : List Row
  heads : List ByteArray
  line : Int
abbrev RX := Except (Int × Int) Sx
def groupR (end_ : Int) (ok : List ByteArray → Bool) (inn : Fl → Int → List ByteArray → Except Int Fl) : Nat → Sx → RX
  | 0, S => .ok S
  | n + 1, S => match S.rows with
    | [] => .error (end_, 116)
    | (l, row) :: rest => if ok row = true then match inn S.fl l row with
        | .error c => .error (l, c)
        | .ok F => groupR end_ ok inn n { fl := F, rows := rest, heads := S.heads, line := l }
      else .error (l, 116)
def fieldAt (row : List ByteArray) (i : Nat) : ByteArray := row.getD i ⟨#[]⟩
def repR_ (F : Fl) (_ : Int) (row : List ByteArray) : Except Int Fl :=
  if row.length ≠ 3 then .error 111 else match pieceR false (fieldAt row 1) with
    | .error c => .error c
    | .ok a => match pieceR true (fieldAt row 2) with
      | .error c => .error c
      | .ok b => .ok { F with reps := F.reps ++ [(a, b)] }
def aliasR (F : Fl) (_ : Int) (row : List ByteArray) : Except Int Fl :=
  if row.length ≠ 2 then .error 111 else if (readF F.kind (fieldAt row 1).data.toList).2 ≠ 0 then .error (readF F.kind (fieldAt row 1).data.toList).2
  else .ok { F with als := F.als ++ [(readF F.kind (fieldAt row 1).data.toList).1] }
def addR (w : List UInt8) : Except Int ByteArray := if mkS w = zeroS then .ok ⟨#[]⟩ else if fitE (mkS w) ≠ 0 then .error (fitE (mkS w)) else .ok (mkS w)
def nextR (F : Fl) (kind : Int) (rest : List UInt8) (cut : Bool) : Except Int (List Int) :=
  if cut = true then (if kind ≠ 2 then .error 118 else if (flagsR F (mkS rest)).2 ≠ 0 then .error (flagsR F (mkS rest)).2 else .ok (flagsR F (mkS rest)).1) else .ok []
def condOf (row : List ByteArray) : Except Int ByteArray :=
  if row.length = 5 then (if fitAll (fieldAt row 4) = false then .error 21 else match condR (fieldAt row 4).data.toList with
    | .error c => .error c
    | .ok ts => .ok (mkS (condShow ts)))
  else .ok ⟨#[46]⟩
def ruleR (F : Fl) (c : Cl) (line : Int) (row : List ByteArray) : Except Int Rl :=
  if row.length ≠ 4 ∧ row.length ≠ 5 then .error 111 else match pieceR true (fieldAt row 2) with
    | .error e => .error e
    | .ok strip => match wordR (fieldAt row 3).data.toList with
      | (w, rest, cut, e) => if e ≠ 0 then .error e else match addR w with
        | .error e => .error e
        | .ok add => match nextR F c.kind rest cut with
          | .error e => .error e
          | .ok next => match condOf row with
            | .error e => .error e
            | .ok cond => .ok ⟨c.kind, c.flag, c.cross, strip, add, cond, next, line⟩
def ruleIn (c : Cl) (F : Fl) (line : Int) (row : List ByteArray) : Except Int Fl := match ruleR F c line row with
  | .error e => .error e
  | .ok r => .ok { F with rls := F.rls ++ [r] }
def classR (end_ : Int) (S : Sx) (row : List ByteArray) : RX := match freshR S.fl (fieldAt row 1) with
  | .error e => .error (S.line, e)
  | .ok f => if fieldAt row 2 ≠ ⟨#[89]⟩ ∧ fieldAt row 2 ≠ ⟨#[78]⟩ then .error (S.line, 114)
    else if numErr (fieldAt row 3).data.toList 1024 ≠ 0 then .error (S.line, 13)
    else if 1024 < (S.fl.rls.length : Int) + numVal (fieldAt row 3).data.toList 1024 then .error (S.line, 117)
    else groupR end_ (fun r => decide (r.take 2 = [fieldAt row 0, fieldAt row 1])) (ruleIn ⟨f, if fieldAt row 0 = kSFX then 2 else 1, decide (fieldAt row 2 = ⟨#[89]⟩), S.fl.rls.length, numVal (fieldAt row 3).data.toList 1024⟩)
      (numVal (fieldAt row 3).data.toList 1024).toNat { S with fl := { S.fl with cls := S.fl.cls ++ [⟨f, if fieldAt row 0 = kSFX then 2 else 1, decide (fieldAt row 2 = ⟨#[89]⟩), S.fl.rls.length, numVal (fieldAt row 3).data.toList 1024⟩] } }
abbrev tSHORT : ByteArray := ⟨#[115, 104, 111, 114, 116]⟩
abbrev tLONG : ByteArray := ⟨#[108, 111, 110, 103]⟩
abbrev tNUM : ByteArray := ⟨#[110, 117, 109]⟩
def kindOf (s : ByteArray) : Int := if s = tSHORT then 1 else if s = tLONG then 2 else if s = tNUM then 3 else 0
def setSp (F : Fl) (i : Nat) (f : Int) : Fl := match i with
  | 0 => { F with s0 := f }
  | 1 => { F with s1 := f }
  | 2 => { F with s2 := f }
  | 3 => { F with s3 := f }
  | _ => { F with s4 := f }
def onFl (line : Int) (S : Sx) : Except Int Fl → RX
  | .error e => .error (line, e)
  | .ok F => .ok { S with fl := F }
def kindR (S : Sx) (s : ByteArray) : Except Int Fl := if S.heads.any (fun h => lateN (keyN h)) = true then .error 113 else if kindOf s = 0 then .error 114 else .ok { S.fl with kind := kindOf s }
def setR (F : Fl) (s : ByteArray) : Except Int Fl := if fitAll s = false then .error 21 else .ok { F with charset := s }
def tryR (F : Fl) (s : ByteArray) : Except Int Fl := if (lettersS s).2 ≠ 0 then .error (lettersS s).2 else .ok { F with tryT := (lettersS s).1 }
def specialR (F : Fl) (i : Nat) (s : ByteArray) : Except Int Fl := match freshR F s with
  | .error e => .error e
  | .ok f => .ok (setSp F i f)
def leastR (F : Fl) (s : ByteArray) : Except Int Fl := if numErr s.data.toList 64 ≠ 0 ∨ numVal s.data.toList 64 = 0 then .error 13 else .ok { F with least := numVal s.data.toList 64 }
def repsG (end_ : Int) (S : Sx) (s : ByteArray) : RX := if numErr s.data.toList 256 ≠ 0 then .error (S.line, 13) else groupR end_ (fun r => decide (r.take 1 = [kREP])) repR_ (numVal s.data.toList 256).toNat S
def aliasG (end_ : Int) (S : Sx) (s : ByteArray) : RX := if S.heads.contains kPFX = true ∨ S.heads.contains kSFX = true then .error (S.line, 113)
  else if numErr s.data.toList 1024 ≠ 0 then .error (S.line, 13) else groupR end_ (fun r => decide (r.take 1 = [kAF])) aliasR (numVal s.data.toList 1024).toNat S
def headR (end_ : Int) (S : Sx) (row : List ByteArray) (k : Nat) : RX :=
  if k = 0 then onFl S.line S (kindR S (fieldAt row 1))
  else if k = 1 then onFl S.line S (setR S.fl (fieldAt row 1))
  else if k = 2 then onFl S.line S (tryR S.fl (fieldAt row 1))
  else if k < 8 then onFl S.line S (specialR S.fl (k - 3) (fieldAt row 1))
  else if k = 8 then onFl S.line S (leastR S.fl (fieldAt row 1))
  else if k = 9 then repsG end_ S (fieldAt row 1)
  else if k = 10 then aliasG end_ S (fieldAt row 1)
  else classR end_ S row
def stepR (end_ : Int) (S : Sx) (l : Int) (row : List ByteArray) (rest : List Row) : RX :=
  if keyN (fieldAt row 0) = 13 then .error (l, 110)
  else if row.length ≠ widthN (keyN (fieldAt row 0)) then .error (l, 111)
  else if widthN (keyN (fieldAt row 0)) = 2 ∧ S.heads.contains (fieldAt row 0) = true then .error (l, 112)
  else match headR end_ { S with rows := rest, line := l } row (keyN (fieldAt row 0)) with
    | .error e => .error e
    | .ok S' => .ok { S' with heads := S'.heads ++ [fieldAt row 0] }
def readGo (end_ : Int) : Nat → Sx → RX
  | 0, S => .ok S
  | n + 1, S => match S.rows with
    | [] => .ok S
    | (l, row) :: rest => match stepR end_ S l row rest with
      | .error e => .error e
      | .ok S' => readGo end_ n S'
def goesB (F : Fl) (f : Int) : Bool := f == F.s0 || (match findC F f with | some c => c.kind == 2 | none => false)
def checkE (F : Fl) : Option Int := (F.rls.find? (fun r => !(r.next.all (goesB F)))).map (·.line)
def affR (l : List UInt8) : Except (Int × Int) Fl :=
  if 65536 < l.length then .error (0, 10) else match readGo ((linesOf l).length + 1) (rowsOf (eachOf l)).length ⟨fl0, rowsOf (eachOf l), [], 0⟩ with
    | .error e => .error e
    | .ok S => match checkE S.fl with
      | some line => .error (line, 118)
      | none => .ok S.fl
end Go.Proofs.YtfkblpjfknfgbaaGreatDoor
namespace Go.Proofs.YtfkblpjfknfgbaaGreatDoor
open Go.RowKit
structure Kept (E : List Nat) (w w' : World) : Prop where
  os : w'.os = w.os
  tape : w'.tape = w.tape
  output : w'.output = w.output
  size : w.heap.size ≤ w'.heap.size
  block : ∀ k, k < w.heap.size → k ∉ E → w'.heap[k]? = w.heap[k]?
theorem Kept.refl (E : List Nat) (w : World) : Kept E w w := ⟨rfl, rfl, rfl, Nat.le_refl _, fun _ _ _ => rfl⟩
theorem Kept.trans' {E F : List Nat} {a b c : World} (h : Kept E a b) (k : Kept F b c) (hF : ∀ x ∈ F, x ∈ E ∨ a.heap.size ≤ x) : Kept E a c :=
  ⟨k.os.trans h.os, k.tape.trans h.tape, k.output.trans h.output, Nat.le_trans h.size k.size, fun i hi he =>
    (k.block i (Nat.lt_of_lt_of_le hi h.size) (fun hm => by rcases hF i hm with h1 | h1; exact he h1; omega)).trans (h.block i hi he)⟩
theorem Kept.trans {E : List Nat} {a b c : World} (h : Kept E a b) (k : Kept E b c) : Kept E a c := h.trans' k (fun _ hx => .inl hx)
theorem Kept.mono {E F : List Nat} {a b : World} (h : Kept E a b) (hF : ∀ x ∈ E, x ∈ F) : Kept F a b := ⟨h.os, h.tape, h.output, h.size, fun i hi he => h.block i hi (fun hm => he (hF i hm))⟩
theorem Kept.of_below {E : List Nat} {w w' : World} (h : Below w.heap.size w w') : Kept E w w' := ⟨h.os, h.tape, h.output, h.size, fun k hk _ => h.block k hk⟩
theorem Kept.below {E : List Nat} {w w' : World} {B : Nat} (h : Kept E w w') (hB : B ≤ w.heap.size) (hE : ∀ x ∈ E, B ≤ x) : Below B w w' :=
  ⟨h.os, h.tape, h.output, h.size, fun k hk => h.block k (by omega) (fun hm => by have := hE k hm; omega)⟩
theorem Kept.grown {w w' : World} {r : Option Nat} {E : List Nat} (h : w.grownBy w' r) (hr : ∀ k, r = some k → k ∈ E) : Kept E w w' :=
  ⟨h.os, h.tape, h.output, h.size, fun k hk he => h.block k hk (fun e => he (hr k e.symm))⟩
theorem Kept.drew {E : List Nat} {w w' : World} (h : Kept E w w') : Kept E w w'.drew := ⟨h.os, h.tape, h.output, h.size, h.block⟩
theorem Kept.alloc {E : List Nat} {w w' : World} (h : Kept E w w') (o : Obj) : Kept E w (w'.alloc o) :=
  h.trans' (F := []) (Kept.of_below ((Below.refl _ _).alloc (Nat.le_refl _) _)) (fun _ hx => by cases hx)
theorem Kept.set {E : List Nat} {w w' : World} (h : Kept E w w') (b i : Nat) (v : Value) (hb : b ∈ E ∨ w.heap.size ≤ b) : Kept E w (w'.setCell ⟨b, i, none⟩ v) :=
  h.trans' (F := [b]) ⟨rfl, rfl, rfl, by simp [World.setCell], fun k _ he => heap_setCell_other w' ⟨b, i, none⟩ k v (fun e => he (by simp [e]))⟩ (fun x hx => by simp at hx; subst hx; exact hb)
theorem Kept.cell {E : List Nat} {w w' : World} (h : Kept E w w') {p : Addr} (hp : p.block < w.heap.size) (he : p.block ∉ E) : w'.cell? p = w.cell? p := World.cell?_of_block (h.block _ hp he)
theorem Kept.own {E : List Nat} {w w' : World} {B e size n : Nat} {v : Value} {xs : List Value} (h : Kept E w w') (ho : w.ownsRow B e size v n xs) (hne : ∀ g, v.ownBlock = some g → g ∉ E) : w'.ownsRow B e size v n xs := by
  refine ⟨ho.1, ?_⟩
  rcases ho.2 with hn | ⟨g, cap, cur, rfl, hb, hgg, rest⟩
  · exact .inl hn
  refine .inr ⟨g, cap, cur, rfl, hb, ?_, rest⟩
  rw [h.block g (Array.getElem?_eq_some_iff.1 hgg).1 (hne g rfl)]
  exact hgg
theorem Kept.at {E : List Nat} {w w' : World} (h : Kept E w w') {k : Nat} {o : Obj} (hk : w.heap[k]? = some o) (he : k ∉ E) : w'.heap[k]? = some o := (h.block k (block_lt hk) he).trans hk
end Go.Proofs.YtfkblpjfknfgbaaGreatDoor
namespace Go.Proofs.YtfkblpjfknfgbaaGreatDoor
open Go.RowKit Go.Shelf
attribute [local go_sem] Oper.semAt_some
theorem row_info : (Tryz.prog.info? 133).map (fun i => (i.zero, i.size, i.bytes)) = some (some (.agg #[.int .i64 0, .slice none 0 0]), 2, 32) := by kernel_rfl
theorem own_slice {w : World} {B e size n : Nat} {v : Value} {xs : List Value} (h : w.ownsRow B e size v n xs) : ∃ A cap, v = .slice A n cap := by
  rcases h.2 with ⟨rfl, rfl⟩ | ⟨g, cap, cur, rfl, _⟩
  · exact ⟨_, _, rfl⟩
  exact ⟨_, _, rfl⟩
theorem own_some {w : World} {B e size n : Nat} {v : Value} {xs : List Value} (h : w.ownsRow B e size v n xs) (hn : n ≠ 0) : ∃ g cap, v = .slice (some ⟨g, 0, none⟩) n cap ∧ n ≤ cap := by
  rcases h.2 with ⟨_, h0⟩ | ⟨g, cap, cur, rfl, _, _, hc, _⟩
  · exact absurd h0 hn
  exact ⟨_, _, rfl, hc⟩
set_option maxRecDepth 100000 in
set_option maxHeartbeats 4000000 in
theorem Rows_any (s : ByteArray) (m : Int) (w : World) (h0 : 0 < w.heap.size) (hm : w.cell? ⟨0, 0, none⟩ = some (.int .i64 m)) :
    Calls Tryz.prog 41 #[.string s] w fun e W' => ∃ v rs, e = .returned (.tuple #[v, .int .i64 (codeS s)]) ∧
      W'.ownsRow w.heap.size 133 2 v rs.length (rowCells rs) ∧ rowsRead W' rs ∧ rowAbs rs = rowsOf (eachOf s.data.toList) ∧ Below w.heap.size w W' := by
  by_cases hbig : 65536 < s.size
  · have HE : Hid (eachOf s.data.toList = []) := Lib.hid (by rw [eachOf, if_pos (by rw [len_toList]; omega)])
    have HC : Hid (codeS s = 10) := Lib.hid (if_pos hbig)
    go_enter Tryz.func41, Tryz.ntmps41
    go_wp2_with fail
    refine bodyPost_ret (results_tmp2 rfl _ _ _) rfl ?_
    exact ⟨.slice none 0 0, [], by rw [HC.out]; rfl, World.ownsRow_nil _ _ _ _, (by intro r hr; cases hr), by rw [HE.out]; rfl, Below.refl _ _⟩
  have hlen := eachOf_len s.data.toList
  have HC : Hid (codeS s = 0) := Lib.hid (if_neg hbig)
  refine (callsIn_wide (n := 5)).1 ?_
  obtain ⟨i0, hi, hz0, hz1, hz2⟩ := info_parts row_info
  refine callsIn_of_wp_marks Tryz.func41 rfl trivial ?_ rfl
  simp only [Tryz.ntmps41, List.size_toArray, List.length_cons, List.length_nil, Nat.reduceAdd, Nat.reduceSub, Array.replicate_succ, Array.replicate_zero, List.push_toArray, List.append_toArray, List.nil_append, List.cons_append]
  gi_wp2_with (refine ⟨trivial, ?_⟩; gi_at_call 73; refine (Each_in _ _ _).mono ?_; rintro e w' ⟨rfl, rfl⟩)
  have bO := Boxed.new w 107 (.slice none 0 0)
  have bN := Boxed.new (w.alloc (.cells #[.slice none 0 0] 107)) 9 (.string s)
  rw [World.size_alloc] at bN
  have hB0 : Below w.heap.size w ((w.alloc (.cells #[.slice none 0 0] 107)).alloc (.cells #[.string s] 9)) := ((Below.refl _ w).alloc (Nat.le_refl _) _).alloc (by simp) _
  refine wpIn_rangeFunc_ownG rfl (by omega) (gf := 105) (lb := #[.pointer (some ⟨w.heap.size + 1, 0, none⟩)]) rfl trivial (enters_of Tryz.func105 (by kernel_rfl) rfl)
    (eachc_stops (5 - 1) (by omega) (w.heap.size + 1) w.heap.size s h0 m _ (by simp) bN.cell ((hB0.cell (p := ⟨0, 0, none⟩) h0).trans hm)) belowK_t (belowK_b (by simp; omega)) (Below.refl _ _) (fun _ => rfl)
    (fun pre W => RowsBox w.heap.size w.heap.size 107 133 W (rowsOf pre) ∧ Below w.heap.size w W)
    (fun _ _ _ => False)
    (OwnFrom.and (_root_.Go.Own.from (rowsBox_own w.heap.size w.heap.size 107 133 rowsOf) _) (ownFrom_below (Nat.le_refl _) (by simp; omega)))
    (fun _ _ _ _ _ hs _ _ => hs)
    ⟨⟨[], _, bO.alloc _, World.ownsRow_nil _ _ _ _, (by intro r hr; cases hr), rfl⟩, hB0⟩
    (fun x => { tmps := #[.string s, undef, .slice none 0 0, .int .i64 0, .pointer (some ⟨w.heap.size, 0, none⟩), .int .i64 x.1, .string (clamp x.2), undef, undef, undef, .string s, .int .i64 s.size, .bool (decide (65536 < (s.size : Int))), .string s, .func (.func 105) #[] #[.pointer (some ⟨w.heap.size + 1, 0, none⟩)], .int .i64 x.1, .string (clamp x.2), undef, undef, undef, undef, undef, undef, undef, undef, undef, undef, undef, undef, undef, undef, undef, undef, undef, undef, undef, undef, undef, undef, undef, undef, undef, undef, undef], defers := [] }) ?assign ?body ?done ?stop
  case assign =>
    intro l x W K hK
    gi_wp2
    exact hK
  case body =>
    rintro l pre x W ⟨hbox, hB⟩ hlt
    have HBox := Lib.hid hbox
    obtain ⟨rs, v, hv, hrow, hrd, habs⟩ := hbox
    have hrl : rs.length ≤ 65536 := by
      have h1 : rs.length = (rowsOf pre).length := by rw [← habs]; simp [rowAbs]
      have h2 := rowsOf_len pre
      omega
    have HV := Lib.hid hv
    have hc := hv.cell
    have hcl := clamp_le x.2
    have hn1 : 1 ≤ 5 - 1 - 1 := by omega
    obtain ⟨sl, hsl⟩ : ∃ sl, clamp x.2 = sl := ⟨_, rfl⟩
    rw [hsl] at hcl ⊢
    have HRow := Lib.hid hrow
    have HRd := Lib.hid hrd
    have HAbs := Lib.hid habs
    have HRO : Hid (rowsOf (pre ++ [x]) = rowsOf pre ++ rowOf x.1 sl) := Lib.hid (by rw [rowsOf_snoc, hsl])
    have hlp := rowsOf_len pre
    clear hrow hrd habs hsl hv
    have hfl := fields_len sl
    by_cases hn0 : (fieldsS sl).length = 0
    · have HRO2 : Hid (rowsOf (pre ++ [x]) = rowsOf pre) := Lib.hid (by rw [HRO.out, rowOf, List.eq_nil_of_length_eq_zero hn0]; simp [keptS])
      gi_wp2_with (refine ⟨trivial, ?_⟩; gi_at_call 74; refine (CallsIn.inRound l (callsIn_wide.2 (Fields_any sl _ (by omega)))).mono ?_; rintro e w1 ⟨vf, rfl, of⟩; have OF := Lib.hid of; obtain ⟨Ag, cg, rfl⟩ := own_slice of.own; rw [hn0] at *; have HB1 := Lib.hid of.below; clear of)
      gi_loopw [7, 21] (fun fv i wr => wr = w1 ∧ fv = .slice Ag 0 cg ∧ i = .int .i64 0) (fun _ _ _ => 1)
      case atStart => exact ⟨rfl, rfl, rfl⟩
      case round =>
      obtain ⟨rfl, rfl, rfl⟩ := hrel
      gi_wp2
      exact ⟨keepsFrom_below HB1.out, HB1.out.mono hB.size, by rw [HRO2.out]; exact HBox.out.keep HB1.out, hB.trans (HB1.out.mono hB.size)⟩
    gi_wp2_with (refine ⟨trivial, ?_⟩; gi_at_call 74; refine (CallsIn.inRound l (callsIn_wide.2 (Fields_any sl _ (by omega)))).mono ?_; rintro e w1 ⟨vf, rfl, of⟩; have OF := Lib.hid of; obtain ⟨g, cg, rfl, hcg⟩ := own_some of.own hn0; have HB1 := Lib.hid of.below; clear of)
    gi_loopw [7, 21] (fun fv i wr => wr = w1 ∧ fv = .slice (some ⟨g, 0, none⟩) (fieldsS sl).length cg ∧ ∃ k : Nat, k ≤ (fieldsS sl).length ∧ i = .int .i64 k ∧ ∀ f ∈ (fieldsS sl).take k, sharp f = false) (fun _ i _ => (fieldsS sl).length - (intOf i).toNat)
    case atStart => exact ⟨rfl, rfl, 0, Nat.zero_le _, rfl, by simp⟩
    case round =>
    obtain ⟨rfl, rfl, k, hk, rfl, hsh⟩ := hrel
    have HSh := Lib.hid hsh
    have hv1 : Boxed wr w.heap.size 107 v := (HB1.out.block _ HV.out.lt).trans HV.out
    have HV1 := Lib.hid hv1
    have hcw := hv1.cell
    have HRow1 := Lib.hid (own_below HRow.out HB1.out)
    have HRd1 : Hid (rowsRead wr rs) := Lib.hid fun r hr => (HRd.out r hr).keep HB1.out
    have hB1s : w.heap.size ≤ wr.heap.size := Nat.le_trans hB.size HB1.out.size
    clear hsh hv1
    by_cases hkn : k < (fieldsS sl).length
    · have hfp := fields_pos sl (fieldsS sl)[k] (List.getElem_mem _)
      have hcf : wr.cell? ⟨g, k, none⟩ = some (.string (fieldsS sl)[k]) := by
        have := OF.out.own.cells (g := g) rfl k (.string (fieldsS sl)[k]) (strV_get _ _ hkn)
        rw [row_addr] at this; exact this
      have hq0 := sharp_at (fieldsS sl)[k] hfp
      cases hq : sharp (fieldsS sl)[k]
      · have q : ((((fieldsS sl)[k])[0].toNat : Int) == 35) = false := by rw [← hq0]; exact hq
        have HN : Hid (∀ f ∈ (fieldsS sl).take (k + 1), sharp f = false) := Lib.hid fun f hf => by
          rw [List.take_succ_eq_append_getElem hkn] at hf
          rcases List.mem_append.1 hf with h | h
          · exact HSh.out f h
          rw [List.mem_singleton.1 h]; exact hq
        clear hq hq0
        gi_wp2
        go_roundw
        case rel => exact ⟨trivial, rfl, k + 1, by omega, by go_num, HN.out⟩
        case measure => simp [intOf] <;> omega
      have q : ((((fieldsS sl)[k])[0].toNat : Int) == 35) = true := by rw [← hq0]; exact hq
      have HK : Hid (keptS (fieldsS sl) = (fieldsS sl).take k) := Lib.hid (kept_stop _ k hkn HSh.out hq)
      have hkc : k ≤ cg := by omega
      clear hq hq0
      by_cases hk0 : 0 < k
      · have hlk : ((fieldsS sl).take k).length = k := by rw [List.length_take]; omega
        have HRO2 : Hid (rowsOf (pre ++ [x]) = rowsOf pre ++ [(x.1, (fieldsS sl).take k)]) := Lib.hid (by
          rw [HRO.out, rowOf, HK.out, if_neg (by intro h; rw [h] at hlk; simp at hlk; omega)])
        have HR : Hid (RdT wr 9 (.slice (some ⟨g, 0, none⟩) k k) ((fieldsS sl).take k).length (strV ((fieldsS sl).take k))) := Lib.hid (by
          rw [hlk]
          have := (RdT.of_own OF.out.own).front hk
          simpa [strV, List.map_take] using this)
        clear hlk
        gi_wp2_with (gi_at_builtin; refine wpListIn_append_own _ rfl _ _ 107 rfl w.heap.size 133 i0 (.agg #[.int .i64 0, .slice none 0 0]) 2 32 Tryz.underlying107 hi hz0 hz1 hz2 rfl (by decide) _ _ _ rfl (HRow1.out.alloc _) ⟨wr.heap.size, 0, none⟩ 1 1 [.int .i64 x.1, .slice (some ⟨g, 0, none⟩) k k] rfl rfl (cell_news _ #[.int .i64 x.1, .slice (some ⟨g, 0, none⟩) k k] _) (by simp [Value.oneCell']) (by unfold maxLen; omega) (by omega) (by have := hB1s; simp; omega) ?_; intro v' w2 hown' hgrow _; obtain ⟨g', cap', rfl⟩ := ownsRow_succ hown'; have HP := Lib.hid (rows_push (r := (x.1, .slice (some ⟨g, 0, none⟩) k k, (fieldsS sl).take k)) (by decide) (by decide) (by decide) HV1.out HRow1.out HRd1.out HAbs.out HR.out hB1s (Nat.le_refl _) hown' hgrow); obtain ⟨hv1, _, _, _, _⟩ := HV1.out.appended (by decide) HRow1.out hB1s (Nat.le_refl _) hown' hgrow; have hc1 := hv1.cell; have hf1 := hv1.frozen; clear hown' hgrow hv1)
        exact ⟨(keepsFrom_below HB1.out).trans (HP.out.1.from _), (HB1.out.mono hB.size).trans HP.out.2.1, by rw [HRO2.out]; exact HP.out.2.2, (hB.trans (HB1.out.mono hB.size)).trans HP.out.2.1⟩
      have HRO2 : Hid (rowsOf (pre ++ [x]) = rowsOf pre) := Lib.hid (by rw [HRO.out, rowOf, HK.out, show k = 0 by omega]; simp)
      gi_wp2
      exact ⟨keepsFrom_below HB1.out, HB1.out.mono hB.size, by rw [HRO2.out]; exact HBox.out.keep HB1.out, hB.trans (HB1.out.mono hB.size)⟩
    obtain rfl : k = (fieldsS sl).length := by omega
    have HK : Hid (keptS (fieldsS sl) = fieldsS sl) := Lib.hid (kept_all _ (by intro f hf; exact HSh.out f (by rw [List.take_length]; exact hf)))
    have HRO2 : Hid (rowsOf (pre ++ [x]) = rowsOf pre ++ [(x.1, fieldsS sl)]) := Lib.hid (by
      rw [HRO.out, rowOf, HK.out, if_neg (by intro h; rw [h] at hn0; exact hn0 rfl)])
    have HR : Hid (RdT wr 9 (.slice (some ⟨g, 0, none⟩) (fieldsS sl).length cg) (fieldsS sl).length (strV (fieldsS sl))) := Lib.hid (RdT.of_own OF.out.own)
    gi_wp2_with (gi_at_builtin; refine wpListIn_append_own _ rfl _ _ 107 rfl w.heap.size 133 i0 (.agg #[.int .i64 0, .slice none 0 0]) 2 32 Tryz.underlying107 hi hz0 hz1 hz2 rfl (by decide) _ _ _ rfl (HRow1.out.alloc _) ⟨wr.heap.size, 0, none⟩ 1 1 [.int .i64 x.1, .slice (some ⟨g, 0, none⟩) (fieldsS sl).length cg] rfl rfl (cell_news _ #[.int .i64 x.1, .slice (some ⟨g, 0, none⟩) (fieldsS sl).length cg] _) (by simp [Value.oneCell']) (by unfold maxLen; omega) (by omega) (by have := hB1s; simp; omega) ?_; intro v' w2 hown' hgrow _; obtain ⟨g', cap', rfl⟩ := ownsRow_succ hown'; have HP := Lib.hid (rows_push (r := (x.1, .slice (some ⟨g, 0, none⟩) (fieldsS sl).length cg, fieldsS sl)) (by decide) (by decide) (by decide) HV1.out HRow1.out HRd1.out HAbs.out HR.out hB1s (Nat.le_refl _) hown' hgrow); obtain ⟨hv1, _, _, _, _⟩ := HV1.out.appended (by decide) HRow1.out hB1s (Nat.le_refl _) hown' hgrow; have hc1 := hv1.cell; have hf1 := hv1.frozen; clear hown' hgrow hv1)
    exact ⟨(keepsFrom_below HB1.out).trans (HP.out.1.from _), (HB1.out.mono hB.size).trans HP.out.2.1, by rw [HRO2.out]; exact HP.out.2.2, (hB.trans (HB1.out.mono hB.size)).trans HP.out.2.1⟩
  case done =>
    rintro D ys W hD rfl ⟨⟨rs, v, hv, hrow, hrd, habs⟩, hB⟩ hK
    have hc := hv.cell
    have HRd := Lib.hid hrd
    have HAbs := Lib.hid habs
    clear hrd habs
    gi_wp2
    refine ⟨by simp, .inl ⟨_, _, rfl, run_takeDeferred hK, ?_⟩⟩
    exact ⟨_, results_tmp2 rfl _ _ _, v, rs, by rw [HC.out]; rfl, ownsRow_putObj hrow _ hK rfl, fun r hr => (HRd.out r hr).kept (grownBy_putObj' W D _) (fun q e => by cases e; exact ⟨_, hK, not_cells rfl _⟩), HAbs.out, hB.trans (belowK_b (w := w) (Nat.le_refl _) W D _ _ (by simp at hD; omega) hK rfl rfl)⟩
  case stop =>
  rintro D c pre W _ _ h _
  exact h.elim
end Go.Proofs.YtfkblpjfknfgbaaGreatDoor
namespace Go.Proofs.YtfkblpjfknfgbaaGreatDoor
open Go.RowKit Go.Maps Go.WideMaps
def Go2 (L : List Nat) (w : World) (L' : List Nat) (w' : World) : Prop := Kept L w w' ∧ ∀ x ∈ L', x ∈ L ∨ w.heap.size ≤ x
theorem Go2.refl (L : List Nat) (w : World) : Go2 L w L w := ⟨Kept.refl _ _, fun _ h => .inl h⟩
theorem Go2.trans {L L' L'' : List Nat} {w w' w'' : World} (h : Go2 L w L' w') (k : Go2 L' w' L'' w'') : Go2 L w L'' w'' :=
  ⟨h.1.trans' k.1 h.2, fun x hx => by
    rcases k.2 x hx with h1 | h1
    · exact h.2 x h1
    · exact .inr (Nat.le_trans h.1.size h1)⟩
theorem Go2.of_below {L : List Nat} {w w' : World} (h : Below w.heap.size w w') : Go2 L w L w' := ⟨Kept.of_below h, fun _ h => .inl h⟩
def FO (w : World) (L : List Nat) (v : Value) (zs : List Int) : Prop :=
  ∃ (p : Option Addr) (c : Nat), v = .slice p zs.length c ∧ zs.length ≤ c ∧ (zs.length = 0 ∨ ∃ b off, p = some ⟨b, off, none⟩ ∧ b ∉ L ∧ ∀ j, j < zs.length → w.cell? ⟨b, off + j, none⟩ = some (.int .u16 (zs.getD j 0)))
theorem FO.fs {w : World} {L : List Nat} {v : Value} {zs : List Int} (h : FO w L v zs) : FS w v zs := by
  obtain ⟨p, c, hv, hc, h⟩ := h
  exact ⟨p, c, hv, hc, h.imp id (fun ⟨b, off, hp, _, h2⟩ => ⟨b, off, hp, h2⟩)⟩
theorem FO.keep {w w' : World} {L L' : List Nat} {v : Value} {zs : List Int} (h : FO w L v zs) (hg : Go2 L w L' w') : FO w' L' v zs := by
  obtain ⟨p, c, hv, hc, h⟩ := h
  rcases Nat.eq_zero_or_pos zs.length with h0 | h0
  · exact ⟨p, c, hv, hc, .inl h0⟩
  obtain ⟨b, off, hp, hb, h2⟩ := h.resolve_left (by omega)
  have hlt := World.block_lt_of_cell? w _ (h2 0 h0)
  exact ⟨p, c, hv, hc, .inr ⟨b, off, hp, fun hm => by
    rcases hg.2 b hm with h3 | h3
    · exact hb h3
    exact absurd hlt (by simpa using h3), fun j hj => (hg.1.cell (p := ⟨b, off + j, none⟩) hlt hb).trans (h2 j hj)⟩⟩
theorem FO.of_fn {w w' : World} {L : List Nat} {v : Value} {zs : List Int} (h : FN w.heap.size w' v zs) (hL : ∀ x ∈ L, x < w.heap.size) : FO w' L v zs := by
  obtain ⟨p, c, hv, hc, h⟩ := h
  refine ⟨p, c, hv, hc, h.imp id ?_⟩
  rintro ⟨b, off, hp, hb, h2⟩
  refine ⟨b, off, hp, fun hm => by have := hL b hm; omega, fun j hj => ?_⟩
  have h3 := (h2 j (by simpa using hj)).1
  simpa [List.getD, hj] using h3
def OwnL (w : World) (L : List Nat) (e size : Nat) (v : Value) (n : Nat) (xs : List Value) : Prop := w.ownsRow 0 e size v n xs ∧ ∀ g, v.ownBlock = some g → g ∈ L
theorem OwnL.nil_ (w : World) (L : List Nat) (e size : Nat) : OwnL w L e size (.slice none 0 0) 0 [] := ⟨World.ownsRow_nil _ _ _ _, fun g h => by simp [Value.ownBlock] at h⟩
theorem OwnL.keep {w w' : World} {L L' E : List Nat} {e size n : Nat} {v : Value} {xs : List Value} (h : OwnL w L e size v n xs) (hk : Kept E w w') (hne : ∀ g, v.ownBlock = some g → g ∉ E) (hL : ∀ x ∈ L, x ∈ L') : OwnL w' L' e size v n xs :=
  ⟨hk.own h.1 hne, fun g hg => hL g (h.2 g hg)⟩
theorem OwnL.ty {w : World} {L : List Nat} {e size n : Nat} {v : Value} {xs : List Value} (h : OwnL w L e size v n xs) (g : Nat) (hg : v.ownBlock = some g) : ∃ cur fr, w.heap[g]? = some (.cells cur e fr) := by
  rcases h.1.2 with ⟨rfl, _⟩ | ⟨g', cap, cur, rfl, _, hb, _⟩
  · simp [Value.ownBlock] at hg
  obtain rfl : g' = g := by simpa [Value.ownBlock] using hg
  exact ⟨cur, _, hb⟩
abbrev litS (s : ByteArray) : Lit := .string s.data.toList
abbrev litF (f : Int) : Lit := .int .u16 f
theorem law_string : Keyed Tryz.prog 9 := string_keyed Tryz.underlying9
theorem law_flag : Keyed Tryz.prog 28 := int_keyed Tryz.underlying28
theorem zero_int (w : World) : (zeroValue 3).run Tryz.prog w = .ok (.int .i64 0) w := by kernel_rfl
def CntS (w : World) (b n : Nat) (f : ByteArray → Int) : Prop := ∃ D : DataW Unit, w.ownsMap Tryz.prog 9 (plainElem Tryz.prog 3) b n D ∧ ∀ s : ByteArray, D.atKey (litS s) (.lit (.int .i64 0)) = .lit (.int .i64 (f s))
def CntF (w : World) (b n : Nat) (f : Int → Int) : Prop := ∃ D : DataW Unit, w.ownsMap Tryz.prog 28 (plainElem Tryz.prog 3) b n D ∧ ∀ x : Int, D.atKey (litF x) (.lit (.int .i64 0)) = .lit (.int .i64 (f x))
def PlF (w : World) (b n : Nat) (f : Int → Option Nat) : Prop := ∃ D : DataW Unit, w.ownsMap Tryz.prog 28 (plainElem Tryz.prog 3) b n D ∧ ∀ x : Int, Maps.has D (litF x) = (f x).isSome ∧ D.atKey (litF x) (.lit (.int .i64 0)) = .lit (.int .i64 ((f x).getD 0 : Nat))
theorem lit_inj {a b : Int} (h : (DataW.lit (.int .i64 a) : DataW Unit) = .lit (.int .i64 b)) : a = b := by
  cases h; rfl
theorem CntS.keep {w w' : World} {E : List Nat} {b n : Nat} {f : ByteArray → Int} (h : CntS w b n f) (hk : Kept E w w') (hb : b ∉ E) : CntS w' b n f := by
  obtain ⟨D, ⟨es, clock, hm, F, hs, hD⟩, h2⟩ := h
  exact ⟨D, ⟨es, clock, hk.at hm hb, F, hs, hD⟩, h2⟩
theorem CntF.keep {w w' : World} {E : List Nat} {b n : Nat} {f : Int → Int} (h : CntF w b n f) (hk : Kept E w w') (hb : b ∉ E) : CntF w' b n f := by
  obtain ⟨D, ⟨es, clock, hm, F, hs, hD⟩, h2⟩ := h
  exact ⟨D, ⟨es, clock, hk.at hm hb, F, hs, hD⟩, h2⟩
theorem PlF.keep {w w' : World} {E : List Nat} {b n : Nat} {f : Int → Option Nat} (h : PlF w b n f) (hk : Kept E w w') (hb : b ∉ E) : PlF w' b n f := by
  obtain ⟨D, ⟨es, clock, hm, F, hs, hD⟩, h2⟩ := h
  exact ⟨D, ⟨es, clock, hk.at hm hb, F, hs, hD⟩, h2⟩
theorem CntS.is {w : World} {b n : Nat} {f : ByteArray → Int} (h : CntS w b n f) : ∃ es c, w.heap[b]? = some (.map es c) := by
  obtain ⟨D, ⟨es, clock, hm, _⟩, _⟩ := h
  exact ⟨es, clock, hm⟩
theorem CntF.is {w : World} {b n : Nat} {f : Int → Int} (h : CntF w b n f) : ∃ es c, w.heap[b]? = some (.map es c) := by
  obtain ⟨D, ⟨es, clock, hm, _⟩, _⟩ := h
  exact ⟨es, clock, hm⟩
theorem PlF.is {w : World} {b n : Nat} {f : Int → Option Nat} (h : PlF w b n f) : ∃ es c, w.heap[b]? = some (.map es c) := by
  obtain ⟨D, ⟨es, clock, hm, _⟩, _⟩ := h
  exact ⟨es, clock, hm⟩
theorem not_in_map {w : World} {b g e : Nat} {es : Array MapEntry} {c : Nat} {cur : Array Value} {fr : Nat × Nat} (h : w.heap[b]? = some (.map es c)) (h2 : w.heap[g]? = some (.cells cur e fr)) : b ≠ g := by
  rintro rfl; rw [h] at h2; cases h2
theorem not_in_ty {w : World} {b g e e' : Nat} {cur cur' : Array Value} {fr fr' : Nat × Nat} (h : w.heap[b]? = some (.cells cur e fr)) (h2 : w.heap[g]? = some (.cells cur' e' fr')) (hne : e ≠ e') : b ≠ g := by
  rintro rfl; rw [h] at h2; cases h2; exact hne rfl
theorem CntS.look {w : World} {b n : Nat} {f : ByteArray → Int} (h : CntS w b n f) (s : ByteArray) (hs : s.size ≤ maxLen) : (Instr.lookup 117 (.map (some b)) (.string s) false).run Tryz.prog w = .ok (.int .i64 (f s)) w := by
  obtain ⟨D, hD, h2⟩ := h
  obtain ⟨c, hrun, hat, _⟩ := hD.lookup_int law_string Tryz.underlying117 Tryz.underlying3 (zero_int w) (keyOf_string_mk Tryz.underlying9 hs)
  have e := lit_inj ((h2 s).symm.trans hat)
  rw [hrun, ← e]
theorem CntF.look {w : World} {b n : Nat} {f : Int → Int} (h : CntF w b n f) (x : Int) (hx : 0 ≤ x ∧ x ≤ 65535) : (Instr.lookup 114 (.map (some b)) (.int .u16 x) false).run Tryz.prog w = .ok (.int .i64 (f x)) w := by
  obtain ⟨D, hD, h2⟩ := h
  obtain ⟨c, hrun, hat, _⟩ := hD.lookup_int law_flag Tryz.underlying114 Tryz.underlying3 (zero_int w) (keyOf_int_mk Tryz.underlying28 (by simp [Lit.wf, IntKind.min, IntKind.max, IntKind.signed, IntKind.bits]; omega))
  have e := lit_inj ((h2 x).symm.trans hat)
  rw [hrun, ← e]
theorem PlF.look {w : World} {b n : Nat} {f : Int → Option Nat} (h : PlF w b n f) (x : Int) (hx : 0 ≤ x ∧ x ≤ 65535) : (Instr.lookup 114 (.map (some b)) (.int .u16 x) true).run Tryz.prog w = .ok (.tuple #[.int .i64 ((f x).getD 0 : Nat), .bool (f x).isSome]) w := by
  obtain ⟨D, hD, h2⟩ := h
  obtain ⟨h3, h4⟩ := h2 x
  obtain ⟨v, ps, hrun, hv⟩ := hD.look_ok law_flag Tryz.underlying114 (zero_int w) (plainElem_int Tryz.underlying3 (by decide)) (keyOf_int_mk Tryz.underlying28 (a := x) (by simp [Lit.wf, IntKind.min, IntKind.max, IntKind.signed, IntKind.bits]; omega))
  obtain ⟨c, rfl, hc, _⟩ := plainElem_int_inv Tryz.underlying3 hv
  have e := lit_inj (h4.symm.trans (congrArg Prod.fst hc))
  rw [hrun, h3, e]
theorem turned_kept {w w' : World} {b : Nat} (h : w.grownBy w' (some b)) : Kept [b] w w' := Kept.grown h (fun k hk => by simpa using hk.symm)
theorem CntS.store {w : World} {b n : Nat} {f : ByteArray → Int} (h : CntS w b n f) (s : ByteArray) (hs : s.size ≤ maxLen) (c : Int) (hc : 0 ≤ c ∧ c ≤ 65536) (hn : n < 65536) :
    ∃ w', (Instr.mapUpdate 117 (.map (some b)) (.string s) (.int .i64 c)).run Tryz.prog w = .ok () w' ∧ CntS w' b (n + 1) (fun t => if t = s then c else f t) ∧ Kept [b] w w' := by
  obtain ⟨D, hD, h2⟩ := h
  obtain ⟨w', hrun, hD', hg⟩ := hD.update law_string Tryz.underlying117 (by unfold maxLen; omega) (keyOf_string_mk Tryz.underlying9 hs) (plainElem_int Tryz.underlying3 (a := c) (by simp [Lit.wf, IntKind.min, IntKind.max, IntKind.signed, IntKind.bits]; omega))
  refine ⟨w', hrun, ⟨_, hD', fun t => ?_⟩, turned_kept hg⟩
  show _ = DataW.lit (.int .i64 (if t = s then c else f t))
  by_cases ht : t = s
  · subst ht
    rw [if_pos rfl]
    exact Maps.atKey_put_same hD.isMap (by trivial) _ _
  rw [if_neg ht, Maps.atKey_put_other (by
    intro e; injection e with e
    exact ht (by obtain ⟨⟨a⟩⟩ := t; obtain ⟨⟨b⟩⟩ := s; simp at e; rw [e])), h2 t]
theorem CntF.store {w : World} {b n : Nat} {f : Int → Int} (h : CntF w b n f) (x : Int) (hx : 0 ≤ x ∧ x ≤ 65535) (c : Int) (hc : 0 ≤ c ∧ c ≤ 65536) (hn : n < 131072) :
    ∃ w', (Instr.mapUpdate 114 (.map (some b)) (.int .u16 x) (.int .i64 c)).run Tryz.prog w = .ok () w' ∧ CntF w' b (n + 1) (fun t => if t = x then c else f t) ∧ Kept [b] w w' := by
  obtain ⟨D, hD, h2⟩ := h
  obtain ⟨w', hrun, hD', hg⟩ := hD.update law_flag Tryz.underlying114 (by unfold maxLen; omega) (keyOf_int_mk Tryz.underlying28 (a := x) (by simp [Lit.wf, IntKind.min, IntKind.max, IntKind.signed, IntKind.bits]; omega)) (plainElem_int Tryz.underlying3 (a := c) (by simp [Lit.wf, IntKind.min, IntKind.max, IntKind.signed, IntKind.bits]; omega))
  refine ⟨w', hrun, ⟨_, hD', fun t => ?_⟩, turned_kept hg⟩
  show _ = DataW.lit (.int .i64 (if t = x then c else f t))
  by_cases ht : t = x
  · subst ht
    rw [if_pos rfl]
    exact Maps.atKey_put_same hD.isMap (by trivial) _ _
  rw [if_neg ht, Maps.atKey_put_other (by intro e; injection e with _ e; exact ht e), h2 t]
theorem PlF.store {w : World} {b n : Nat} {f : Int → Option Nat} (h : PlF w b n f) (x : Int) (hx : 0 ≤ x ∧ x ≤ 65535) (c : Nat) (hc : c ≤ 65536) (hn : n < 65536) :
    ∃ w', (Instr.mapUpdate 114 (.map (some b)) (.int .u16 x) (.int .i64 c)).run Tryz.prog w = .ok () w' ∧ PlF w' b (n + 1) (fun t => if t = x then some c else f t) ∧ Kept [b] w w' := by
  obtain ⟨D, hD, h2⟩ := h
  obtain ⟨w', hrun, hD', hg⟩ := hD.update law_flag Tryz.underlying114 (by unfold maxLen; omega) (keyOf_int_mk Tryz.underlying28 (a := x) (by simp [Lit.wf, IntKind.min, IntKind.max, IntKind.signed, IntKind.bits]; omega)) (plainElem_int Tryz.underlying3 (a := (c : Int)) (by simp [Lit.wf, IntKind.min, IntKind.max, IntKind.signed, IntKind.bits]; omega))
  refine ⟨w', hrun, ⟨_, hD', fun t => ?_⟩, turned_kept hg⟩
  show Maps.has _ _ = (if t = x then some c else f t).isSome ∧ _ = DataW.lit (.int .i64 (((if t = x then some c else f t).getD 0 : Nat) : Int))
  by_cases ht : t = x
  · subst ht
    rw [if_pos rfl]
    exact ⟨by rw [Maps.has_put_same hD.isMap (by trivial)]; rfl, by rw [Maps.atKey_put_same hD.isMap (by trivial)]; rfl⟩
  have hne : litF t ≠ litF x := by intro e; injection e with _ e; exact ht e
  rw [if_neg ht]
  exact ⟨by rw [Maps.has_put_other hne]; exact (h2 t).1, by rw [Maps.atKey_put_other hne]; exact (h2 t).2⟩
structure Ids where
  rb : Nat
  fb : Nat
  mb : Nat
  sb : Nat
  tb : Nat
structure Vs where
  rows : Value
  reps : Value
  als : Value
  cls : Value
  rls : Value
  nxs : Value
def repCells (rs : List (ByteArray × ByteArray)) : List Value := rs.flatMap fun r => [.string r.1, .string r.2]
def clsCells (cs : List Cl) : List Value := cs.flatMap fun c => [.int .u16 c.flag, .int .i64 c.kind, .bool c.cross, .int .i64 c.first, .int .i64 c.count]
def rlsCells (rs : List (Rl × Value)) : List Value := rs.flatMap fun r => [.int .i64 r.1.kind, .int .u16 r.1.flag, .bool r.1.cross, .string r.1.strip, .string r.1.add, .string r.1.cond, r.2]
def RowsM (w : World) (v : Value) (rows : List Row) : Prop := ∃ rs : List RowIn, rowAbs rs = rows ∧ Rd w 2 v rs.length (rowCells rs) ∧ rowsRead w rs
def fileV (i : Ids) (v : Vs) (F : Fl) : Array Value := #[.int .i64 F.kind, .string F.charset, .string F.tryT, .int .u16 F.s0, .int .u16 F.s1, .int .u16 F.s2, .int .u16 F.s3, .int .u16 F.s4, .int .i64 F.least, v.reps, v.als, v.cls, v.rls, .map (some i.mb)]
def rdrV (i : Ids) (v : Vs) (E : Int) (S : Sx) : Array Value := #[.pointer (some ⟨i.fb, 0, none⟩), v.rows, .int .i64 S.line, .int .i64 E, .map (some i.sb), .map (some i.tb), v.nxs]
def spAt (F : Fl) (n : Nat) : Int := match n with
  | 0 => F.s0 | 1 => F.s1 | 2 => F.s2 | 3 => F.s3 | 4 => F.s4 | _ => 0
def nz1 (x : Int) : Nat := if x = 0 then 0 else 1
def nzF (F : Fl) : Nat := nz1 F.s0 + nz1 F.s1 + nz1 F.s2 + nz1 F.s3 + nz1 F.s4
def takenF (F : Fl) (f : Int) : Int := if f = 0 then 0 else if definedB F f = true then 1 else 0
structure Bd (kh k : Nat) (S : Sx) : Prop where
  row : ∀ r ∈ S.rows, r.2 ≠ [] ∧ r.2.length ≤ 65536 ∧ (∀ f ∈ r.2, f.size ≤ 65536) ∧ 0 ≤ r.1 ∧ r.1 ≤ 65536
  heads : S.heads.length + S.rows.length + kh ≤ 65536
  headS : ∀ h ∈ S.heads, h.size ≤ 65536
  reps : S.fl.reps.length + S.rows.length + k ≤ 65536
  als : S.fl.als.length + S.rows.length + k ≤ 65536
  cls : S.fl.cls.length + S.rows.length + k ≤ 65536
  rls : S.fl.rls.length + S.rows.length + k ≤ 65536
  flags : ∀ c ∈ S.fl.cls, 0 < c.flag ∧ c.flag ≤ 65535
  sets : ∀ a ∈ S.fl.als, canon a = a ∧ ∀ x ∈ a, 0 ≤ x ∧ x ≤ 65535
  nexts : ∀ r ∈ S.fl.rls, canon r.next = r.next ∧ ∀ x ∈ r.next, 0 ≤ x ∧ x ≤ 65535
  kind : 1 ≤ S.fl.kind ∧ S.fl.kind ≤ 3
  sp : ∀ n, 0 ≤ spAt S.fl n ∧ spAt S.fl n ≤ 65535
  line : 0 ≤ S.line ∧ S.line ≤ 65537
structure RMv (w0 w : World) (L : List Nat) (i : Ids) (v : Vs) (E : Int) (S : Sx) (nx : List Int) (tf : Int → Int) (tn : Nat) (cf : Int → Option Nat) (cn : Nat) : Prop where
  base : Below w0.heap.size w0 w
  hl : ∀ x ∈ L, w0.heap.size ≤ x ∧ x < w.heap.size
  rbL : i.rb ∈ L
  fbL : i.fb ∈ L
  mbL : i.mb ∈ L
  sbL : i.sb ∈ L
  tbL : i.tb ∈ L
  maps : i.mb ≠ i.sb ∧ i.mb ≠ i.tb ∧ i.sb ≠ i.tb
  rdr : w.heap[i.rb]? = some (.cells (rdrV i v E S) 119 (0, 0))
  file : w.heap[i.fb]? = some (.cells (fileV i v S.fl) 116 (0, 0))
  rows : RowsM w0 v.rows S.rows
  seen : CntS w i.sb S.heads.length (fun s => S.heads.count s)
  taken : CntF w i.tb tn tf
  cmap : PlF w i.mb cn cf
  reps : OwnL w L 145 2 v.reps S.fl.reps.length (repCells S.fl.reps)
  als : ∃ us : List Value, OwnL w L 29 1 v.als S.fl.als.length us ∧ us.length = S.fl.als.length ∧ ∀ (k : Nat) u a, us[k]? = some u → S.fl.als[k]? = some a → FO w L u a
  cls : OwnL w L 99 5 v.cls S.fl.cls.length (clsCells S.fl.cls)
  rls : ∃ rs : List (Rl × Value), rs.map (·.1) = S.fl.rls ∧ OwnL w L 31 7 v.rls rs.length (rlsCells rs) ∧ ∀ r ∈ rs, FO w L r.2 r.1.next
  nxs : OwnL w L 3 1 v.nxs nx.length (nx.map (Value.int .i64))
def RM (w0 w : World) (L : List Nat) (i : Ids) (E : Int) (kh k : Nat) (S : Sx) : Prop := Bd kh k S ∧ ∃ v, RMv w0 w L i v E S (S.fl.rls.map (·.line)) (takenF S.fl) (nzF S.fl + S.fl.cls.length) (clsIx S.fl.cls) S.fl.cls.length
end Go.Proofs.YtfkblpjfknfgbaaGreatDoor
namespace Go.Proofs.YtfkblpjfknfgbaaGreatDoor
open Go.RowKit Go.Maps
theorem keyN_le (s : ByteArray) : keyN s ≤ 13 := List.findIdx_le_length
theorem key_of (s : ByteArray) (h : keyN s ≠ 13) : s = keyS (keyN s) := by
  have hl : keyN s < keyL.length := by have := keyN_le s; show _ < 13; omega
  have := List.findIdx_getElem (p := fun k => decide (k = s)) (xs := keyL) (w := hl)
  simp only [decide_eq_true_eq] at this
  unfold keyS
  rw [List.getD, List.getElem?_eq_getElem hl]
  exact this.symm
theorem keyN_key : ∀ n, n < 13 → keyN (keyS n) = n := by decide
theorem keyN_iff (s : ByteArray) (n : Nat) (hn : n < 13) : keyN s = n ↔ s = keyS n :=
  ⟨fun h => by have := key_of s (by omega); rwa [h] at this, fun h => by rw [h, keyN_key n hn]⟩
end Go.Proofs.YtfkblpjfknfgbaaGreatDoor
namespace Go.Proofs.YtfkblpjfknfgbaaGreatDoor
open Go.RowKit Go.Maps
section
variable {w0 w w' : World} {L L' X : List Nat} {i : Ids} {v : Vs} {E : Int} {S : Sx} {nx : List Int} {tf : Int → Int} {tn cn : Nat} {cf : Int → Option Nat}
def TyB (w : World) (g e : Nat) : Prop := ∃ cur fr, w.heap[g]? = some (.cells cur e fr)
theorem TyB.ne {g g' e e' : Nat} (h : TyB w g e) (h' : TyB w g' e') (hne : e ≠ e') : g ≠ g' := by
  obtain ⟨a, b, h⟩ := h
  obtain ⟨c, d, h'⟩ := h'
  exact not_in_ty h h' hne
def MapB (w : World) (b : Nat) : Prop := ∃ es c, w.heap[b]? = some (.map es c)
theorem TyB.ne_map {g b e : Nat} (h : TyB w g e) (h' : MapB w b) : b ≠ g := by
  obtain ⟨a, d, h⟩ := h
  obtain ⟨es, c, h'⟩ := h'
  exact not_in_map (e := e) h' h
structure Rest (w0 w' : World) (L' X : List Nat) (i : Ids) (v : Vs) (E : Int) (S : Sx) (nx : List Int) (tf : Int → Int) (tn : Nat) (cf : Int → Option Nat) (cn : Nat) : Prop where
  base : Below w0.heap.size w0 w'
  hl : ∀ x ∈ L', w0.heap.size ≤ x ∧ x < w'.heap.size
  rbL : i.rb ∈ L'
  fbL : i.fb ∈ L'
  mbL : i.mb ∈ L'
  sbL : i.sb ∈ L'
  tbL : i.tb ∈ L'
  maps : i.mb ≠ i.sb ∧ i.mb ≠ i.tb ∧ i.sb ≠ i.tb
  rdr : i.rb ∉ X → w'.heap[i.rb]? = some (.cells (rdrV i v E S) 119 (0, 0))
  file : i.fb ∉ X → w'.heap[i.fb]? = some (.cells (fileV i v S.fl) 116 (0, 0))
  rows : RowsM w0 v.rows S.rows
  seen : i.sb ∉ X → CntS w' i.sb S.heads.length (fun s => S.heads.count s)
  taken : i.tb ∉ X → CntF w' i.tb tn tf
  cmap : i.mb ∉ X → PlF w' i.mb cn cf
  reps : (∀ g, v.reps.ownBlock = some g → g ∉ X) → OwnL w' L' 145 2 v.reps S.fl.reps.length (repCells S.fl.reps)
  als : (∀ g, v.als.ownBlock = some g → g ∉ X) → ∃ us : List Value, OwnL w' L' 29 1 v.als S.fl.als.length us ∧ us.length = S.fl.als.length ∧ ∀ (k : Nat) u a, us[k]? = some u → S.fl.als[k]? = some a → FO w' L' u a
  cls : (∀ g, v.cls.ownBlock = some g → g ∉ X) → OwnL w' L' 99 5 v.cls S.fl.cls.length (clsCells S.fl.cls)
  rls : (∀ g, v.rls.ownBlock = some g → g ∉ X) → ∃ rs : List (Rl × Value), rs.map (·.1) = S.fl.rls ∧ OwnL w' L' 31 7 v.rls rs.length (rlsCells rs) ∧ ∀ r ∈ rs, FO w' L' r.2 r.1.next
  nxs : (∀ g, v.nxs.ownBlock = some g → g ∉ X) → OwnL w' L' 3 1 v.nxs nx.length (nx.map (Value.int .i64))
theorem RMv.rest (h : RMv w0 w L i v E S nx tf tn cf cn) (hk : Kept X w w') (hX : ∀ x ∈ X, x ∈ L) (hL : ∀ x ∈ L, x ∈ L') (hL' : ∀ x ∈ L', (x ∈ L ∨ w.heap.size ≤ x) ∧ x < w'.heap.size) : Rest w0 w' L' X i v E S nx tf tn cf cn := by
  have hg : Go2 L w L' w' := ⟨hk.mono hX, fun x hx => (hL' x hx).1⟩
  refine ⟨h.base.trans (hk.below h.base.size (fun x hx => (h.hl x (hX x hx)).1)), fun x hx => ⟨?_, (hL' x hx).2⟩, hL _ h.rbL, hL _ h.fbL, hL _ h.mbL, hL _ h.sbL, hL _ h.tbL, h.maps,
    fun hx => hk.at h.rdr hx, fun hx => hk.at h.file hx, h.rows, fun hx => h.seen.keep hk hx, fun hx => h.taken.keep hk hx, fun hx => h.cmap.keep hk hx,
    fun hx => h.reps.keep hk hx hL, fun hx => ?_, fun hx => h.cls.keep hk hx hL, fun hx => ?_, fun hx => h.nxs.keep hk hx hL⟩
  · rcases (hL' x hx).1 with h1 | h1
    · exact (h.hl x h1).1
    exact Nat.le_trans h.base.size h1
  · obtain ⟨us, h1, h2, h3⟩ := h.als
    exact ⟨us, h1.keep hk hx hL, h2, fun k u a hu ha => (h3 k u a hu ha).keep hg⟩
  obtain ⟨rs, h1, h2, h3⟩ := h.rls
  exact ⟨rs, h1, h2.keep hk hx hL, fun r hr => (h3 r hr).keep hg⟩
theorem Rest.all (h : Rest w0 w' L' [] i v E S nx tf tn cf cn) : RMv w0 w' L' i v E S nx tf tn cf cn :=
  ⟨h.base, h.hl, h.rbL, h.fbL, h.mbL, h.sbL, h.tbL, h.maps, h.rdr (by simp), h.file (by simp), h.rows, h.seen (by simp), h.taken (by simp), h.cmap (by simp), h.reps (by simp), h.als (by simp), h.cls (by simp), h.rls (by simp), h.nxs (by simp)⟩
theorem RMv.below (h : RMv w0 w L i v E S nx tf tn cf cn) (hb : Below w.heap.size w w') : RMv w0 w' L i v E S nx tf tn cf cn :=
  (h.rest (Kept.of_below (E := []) hb) (by simp) (fun _ h => h) (fun x hx => ⟨.inl hx, Nat.lt_of_lt_of_le (h.hl x hx).2 hb.size⟩)).all
theorem RM.below {kh k : Nat} (h : RM w0 w L i E kh k S) (hb : Below w.heap.size w w') : RM w0 w' L i E kh k S := by
  obtain ⟨h1, v, h2⟩ := h
  exact ⟨h1, v, h2.below hb⟩
theorem RMv.tyR (h : RMv w0 w L i v E S nx tf tn cf cn) : TyB w i.rb 119 := ⟨_, _, h.rdr⟩
theorem RMv.tyF (h : RMv w0 w L i v E S nx tf tn cf cn) : TyB w i.fb 116 := ⟨_, _, h.file⟩
theorem RMv.mapS (h : RMv w0 w L i v E S nx tf tn cf cn) : MapB w i.sb := h.seen.is
theorem RMv.mapT (h : RMv w0 w L i v E S nx tf tn cf cn) : MapB w i.tb := h.taken.is
theorem RMv.mapC (h : RMv w0 w L i v E S nx tf tn cf cn) : MapB w i.mb := h.cmap.is
theorem RMv.ty_reps (h : RMv w0 w L i v E S nx tf tn cf cn) (g : Nat) (hg : v.reps.ownBlock = some g) : TyB w g 145 := h.reps.ty g hg
theorem RMv.ty_als (h : RMv w0 w L i v E S nx tf tn cf cn) (g : Nat) (hg : v.als.ownBlock = some g) : TyB w g 29 := by obtain ⟨us, h1, _⟩ := h.als; exact h1.ty g hg
theorem RMv.ty_cls (h : RMv w0 w L i v E S nx tf tn cf cn) (g : Nat) (hg : v.cls.ownBlock = some g) : TyB w g 99 := h.cls.ty g hg
theorem RMv.ty_rls (h : RMv w0 w L i v E S nx tf tn cf cn) (g : Nat) (hg : v.rls.ownBlock = some g) : TyB w g 31 := by obtain ⟨us, _, h1, _⟩ := h.rls; exact h1.ty g hg
theorem RMv.ty_nxs (h : RMv w0 w L i v E S nx tf tn cf cn) (g : Nat) (hg : v.nxs.ownBlock = some g) : TyB w g 3 := h.nxs.ty g hg
theorem ty_out {e e' g : Nat} (hX : ∀ x ∈ X, TyB w x e) (h : TyB w g e') (hne : e' ≠ e) : g ∉ X := fun hm => h.ne (hX g hm) hne rfl
theorem map_out {e g : Nat} (hX : ∀ x ∈ X, TyB w x e) (h : MapB w g) : g ∉ X := fun hm => (hX g hm).ne_map h rfl
end
end Go.Proofs.YtfkblpjfknfgbaaGreatDoor
namespace Go.Proofs.YtfkblpjfknfgbaaGreatDoor
open Go.RowKit Go.Maps
section
variable {w0 w w' : World} {L : List Nat} {i : Ids} {v : Vs} {E : Int} {S : Sx} {nx : List Int} {tf : Int → Int} {tn cn : Nat} {cf : Int → Option Nat}
theorem RMv.r0 (h : RMv w0 w L i v E S nx tf tn cf cn) : w.cell? ⟨i.rb, 0, none⟩ = some (.pointer (some ⟨i.fb, 0, none⟩)) := by rw [Lib.cell_of_heap h.rdr]; rfl
theorem RMv.r1 (h : RMv w0 w L i v E S nx tf tn cf cn) : w.cell? ⟨i.rb, 1, none⟩ = some v.rows := by rw [Lib.cell_of_heap h.rdr]; rfl
theorem RMv.r2 (h : RMv w0 w L i v E S nx tf tn cf cn) : w.cell? ⟨i.rb, 2, none⟩ = some (.int .i64 S.line) := by rw [Lib.cell_of_heap h.rdr]; rfl
theorem RMv.r3 (h : RMv w0 w L i v E S nx tf tn cf cn) : w.cell? ⟨i.rb, 3, none⟩ = some (.int .i64 E) := by rw [Lib.cell_of_heap h.rdr]; rfl
theorem RMv.r4 (h : RMv w0 w L i v E S nx tf tn cf cn) : w.cell? ⟨i.rb, 4, none⟩ = some (.map (some i.sb)) := by rw [Lib.cell_of_heap h.rdr]; rfl
theorem RMv.r5 (h : RMv w0 w L i v E S nx tf tn cf cn) : w.cell? ⟨i.rb, 5, none⟩ = some (.map (some i.tb)) := by rw [Lib.cell_of_heap h.rdr]; rfl
theorem RMv.r6 (h : RMv w0 w L i v E S nx tf tn cf cn) : w.cell? ⟨i.rb, 6, none⟩ = some v.nxs := by rw [Lib.cell_of_heap h.rdr]; rfl
theorem RMv.rz (h : RMv w0 w L i v E S nx tf tn cf cn) (j : Nat) : w.frozen? ⟨i.rb, j, none⟩ = false := Lib.frozen_of_heap h.rdr j
theorem RMv.f0 (h : RMv w0 w L i v E S nx tf tn cf cn) : w.cell? ⟨i.fb, 0, none⟩ = some (.int .i64 S.fl.kind) := by rw [Lib.cell_of_heap h.file]; rfl
theorem RMv.f8 (h : RMv w0 w L i v E S nx tf tn cf cn) : w.cell? ⟨i.fb, 8, none⟩ = some (.int .i64 S.fl.least) := by rw [Lib.cell_of_heap h.file]; rfl
theorem RMv.f9 (h : RMv w0 w L i v E S nx tf tn cf cn) : w.cell? ⟨i.fb, 9, none⟩ = some v.reps := by rw [Lib.cell_of_heap h.file]; rfl
theorem RMv.f10 (h : RMv w0 w L i v E S nx tf tn cf cn) : w.cell? ⟨i.fb, 10, none⟩ = some v.als := by rw [Lib.cell_of_heap h.file]; rfl
theorem RMv.f11 (h : RMv w0 w L i v E S nx tf tn cf cn) : w.cell? ⟨i.fb, 11, none⟩ = some v.cls := by rw [Lib.cell_of_heap h.file]; rfl
theorem RMv.f12 (h : RMv w0 w L i v E S nx tf tn cf cn) : w.cell? ⟨i.fb, 12, none⟩ = some v.rls := by rw [Lib.cell_of_heap h.file]; rfl
theorem RMv.f13 (h : RMv w0 w L i v E S nx tf tn cf cn) : w.cell? ⟨i.fb, 13, none⟩ = some (.map (some i.mb)) := by rw [Lib.cell_of_heap h.file]; rfl
theorem RMv.fz (h : RMv w0 w L i v E S nx tf tn cf cn) (j : Nat) : w.frozen? ⟨i.fb, j, none⟩ = false := Lib.frozen_of_heap h.file j
theorem RMv.rf (h : RMv w0 w L i v E S nx tf tn cf cn) : i.rb ≠ i.fb := h.tyR.ne h.tyF (by decide)
theorem set_kept (w : World) (b j : Nat) (x : Value) : Kept [b] w (w.setCell ⟨b, j, none⟩ x) := (Kept.refl [b] w).set b j x (.inl (by simp))
theorem set_size (w : World) (p : Addr) (x : Value) : (w.setCell p x).heap.size = w.heap.size := by simp [World.setCell]
theorem RMv.setR {v' : Vs} {S' : Sx} {nx' : List Int} (h : RMv w0 w L i v E S nx tf tn cf cn) (j : Nat) (x : Value) (harr : (rdrV i v E S).setIfInBounds j x = rdrV i v' E S') (hf : S'.fl = S.fl) (hh : S'.heads = S.heads)
    (hv : v'.reps = v.reps ∧ v'.als = v.als ∧ v'.cls = v.cls ∧ v'.rls = v.rls) (hrows : RowsM w0 v'.rows S'.rows)
    (hnx : OwnL (w.setCell ⟨i.rb, j, none⟩ x) L 3 1 v'.nxs nx'.length (nx'.map (Value.int .i64))) : RMv w0 (w.setCell ⟨i.rb, j, none⟩ x) L i v' E S' nx' tf tn cf cn := by
  have hX : ∀ y ∈ [i.rb], TyB w y 119 := by intro y hy; simp at hy; subst hy; exact h.tyR
  have r := h.rest (set_kept w i.rb j x) (by intro y hy; simp at hy; subst hy; exact h.rbL) (fun _ h => h) (fun y hy => ⟨.inl hy, by rw [set_size]; exact (h.hl y hy).2⟩)
  obtain ⟨v1, v2, v3, v4⟩ := hv
  refine ⟨r.base, r.hl, r.rbL, r.fbL, r.mbL, r.sbL, r.tbL, r.maps, ?_, ?_, hrows, ?_, r.taken (map_out hX h.mapT), r.cmap (map_out hX h.mapC), ?_, ?_, ?_, ?_, hnx⟩
  · rw [← harr]; exact heap_setCell_same _ i.rb j _ _ _ h.rdr
  · have := r.file (ty_out hX h.tyF (by decide))
    rw [this]; unfold fileV; rw [hf, v1, v2, v3, v4]
  · rw [hh]; exact r.seen (map_out hX h.mapS)
  · rw [v1, hf]; exact r.reps (fun g hg => ty_out hX (h.ty_reps g hg) (by decide))
  · rw [v2, hf]; exact r.als (fun g hg => ty_out hX (h.ty_als g hg) (by decide))
  · rw [v3, hf]; exact r.cls (fun g hg => ty_out hX (h.ty_cls g hg) (by decide))
  rw [v4, hf]; exact r.rls (fun g hg => ty_out hX (h.ty_rls g hg) (by decide))
theorem RMv.setLine (h : RMv w0 w L i v E S nx tf tn cf cn) (l : Int) : RMv w0 (w.setCell ⟨i.rb, 2, none⟩ (.int .i64 l)) L i v E { S with line := l } nx tf tn cf cn := by
  have hX : ∀ y ∈ [i.rb], TyB w y 119 := by intro y hy; simp at hy; subst hy; exact h.tyR
  exact h.setR 2 _ (by rfl) rfl rfl ⟨rfl, rfl, rfl, rfl⟩ h.rows (h.nxs.keep (set_kept w i.rb 2 _) (fun g hg => ty_out hX (h.ty_nxs g hg) (by decide)) (fun _ h => h))
theorem RMv.setRows (h : RMv w0 w L i v E S nx tf tn cf cn) (u : Value) (rows : List Row) (hr : RowsM w0 u rows) : RMv w0 (w.setCell ⟨i.rb, 1, none⟩ u) L i { v with rows := u } E { S with rows := rows } nx tf tn cf cn := by
  have hX : ∀ y ∈ [i.rb], TyB w y 119 := by intro y hy; simp at hy; subst hy; exact h.tyR
  exact h.setR 1 _ (by rfl) rfl rfl ⟨rfl, rfl, rfl, rfl⟩ hr (h.nxs.keep (set_kept w i.rb 1 _) (fun g hg => ty_out hX (h.ty_nxs g hg) (by decide)) (fun _ h => h))
theorem RMv.setF {F' : Fl} (h : RMv w0 w L i v E S nx tf tn cf cn) (j : Nat) (x : Value) (harr : (fileV i v S.fl).setIfInBounds j x = fileV i v F') (h1 : F'.reps = S.fl.reps) (h2 : F'.als = S.fl.als) (h3 : F'.cls = S.fl.cls) (h4 : F'.rls = S.fl.rls) :
    RMv w0 (w.setCell ⟨i.fb, j, none⟩ x) L i v E { S with fl := F' } nx tf tn cf cn := by
  have hX : ∀ y ∈ [i.fb], TyB w y 116 := by intro y hy; simp at hy; subst hy; exact h.tyF
  have r := h.rest (set_kept w i.fb j x) (by intro y hy; simp at hy; subst hy; exact h.fbL) (fun _ h => h) (fun y hy => ⟨.inl hy, by rw [set_size]; exact (h.hl y hy).2⟩)
  refine ⟨r.base, r.hl, r.rbL, r.fbL, r.mbL, r.sbL, r.tbL, r.maps, r.rdr (ty_out hX h.tyR (by decide)), ?_, r.rows, r.seen (map_out hX h.mapS), r.taken (map_out hX h.mapT), r.cmap (map_out hX h.mapC), ?_, ?_, ?_, ?_, r.nxs (fun g hg => ty_out hX (h.ty_nxs g hg) (by decide))⟩
  · show _ = some (Obj.cells (fileV i v F') _ _)
    rw [← harr]; exact heap_setCell_same _ i.fb j _ _ _ h.file
  · show OwnL _ _ _ _ _ F'.reps.length (repCells F'.reps)
    rw [h1]; exact r.reps (fun g hg => ty_out hX (h.ty_reps g hg) (by decide))
  · have := r.als (fun g hg => ty_out hX (h.ty_als g hg) (by decide))
    simpa only [h2] using this
  · show OwnL _ _ _ _ _ F'.cls.length (clsCells F'.cls)
    rw [h3]; exact r.cls (fun g hg => ty_out hX (h.ty_cls g hg) (by decide))
  have := r.rls (fun g hg => ty_out hX (h.ty_rls g hg) (by decide))
  simpa only [h4] using this
theorem RMv.setSeen {S' : Sx} (h : RMv w0 w L i v E S nx tf tn cf cn) (hk : Kept [i.sb] w w') (hS : CntS w' i.sb S'.heads.length (fun s => S'.heads.count s)) (hf : S'.fl = S.fl) (hr : S'.rows = S.rows) (hl : S'.line = S.line) :
    RMv w0 w' L i v E S' nx tf tn cf cn := by
  have o1 : ∀ {g e : Nat}, TyB w g e → g ∉ [i.sb] := fun hg hm => by simp at hm; exact hg.ne_map h.mapS hm.symm
  have r := h.rest hk (by intro y hy; simp at hy; subst hy; exact h.sbL) (fun _ h => h) (fun y hy => ⟨.inl hy, Nat.lt_of_lt_of_le (h.hl y hy).2 hk.size⟩)
  refine ⟨r.base, r.hl, r.rbL, r.fbL, r.mbL, r.sbL, r.tbL, r.maps, ?_, ?_, by rw [hr]; exact r.rows, hS, r.taken (by simpa using Ne.symm h.maps.2.2), r.cmap (by simpa using h.maps.1), ?_, ?_, ?_, ?_, r.nxs (fun g hg => o1 (h.ty_nxs g hg))⟩
  · have := r.rdr (o1 h.tyR); rw [this]; unfold rdrV; rw [hl]
  · rw [hf]; exact r.file (o1 h.tyF)
  · rw [hf]; exact r.reps (fun g hg => o1 (h.ty_reps g hg))
  · rw [hf]; exact r.als (fun g hg => o1 (h.ty_als g hg))
  · rw [hf]; exact r.cls (fun g hg => o1 (h.ty_cls g hg))
  rw [hf]; exact r.rls (fun g hg => o1 (h.ty_rls g hg))
theorem RMv.setTaken {tf' : Int → Int} {tn' : Nat} (h : RMv w0 w L i v E S nx tf tn cf cn) (hk : Kept [i.tb] w w') (hS : CntF w' i.tb tn' tf') : RMv w0 w' L i v E S nx tf' tn' cf cn := by
  have o1 : ∀ {g e : Nat}, TyB w g e → g ∉ [i.tb] := fun hg hm => by simp at hm; exact hg.ne_map h.mapT hm.symm
  have r := h.rest hk (by intro y hy; simp at hy; subst hy; exact h.tbL) (fun _ h => h) (fun y hy => ⟨.inl hy, Nat.lt_of_lt_of_le (h.hl y hy).2 hk.size⟩)
  exact ⟨r.base, r.hl, r.rbL, r.fbL, r.mbL, r.sbL, r.tbL, r.maps, r.rdr (o1 h.tyR), r.file (o1 h.tyF), r.rows, r.seen (by simpa using h.maps.2.2), hS, r.cmap (by simpa using h.maps.2.1), r.reps (fun g hg => o1 (h.ty_reps g hg)),
    r.als (fun g hg => o1 (h.ty_als g hg)), r.cls (fun g hg => o1 (h.ty_cls g hg)), r.rls (fun g hg => o1 (h.ty_rls g hg)), r.nxs (fun g hg => o1 (h.ty_nxs g hg))⟩
theorem RMv.setCmap {cf' : Int → Option Nat} {cn' : Nat} (h : RMv w0 w L i v E S nx tf tn cf cn) (hk : Kept [i.mb] w w') (hS : PlF w' i.mb cn' cf') : RMv w0 w' L i v E S nx tf tn cf' cn' := by
  have o1 : ∀ {g e : Nat}, TyB w g e → g ∉ [i.mb] := fun hg hm => by simp at hm; exact hg.ne_map h.mapC hm.symm
  have r := h.rest hk (by intro y hy; simp at hy; subst hy; exact h.mbL) (fun _ h => h) (fun y hy => ⟨.inl hy, Nat.lt_of_lt_of_le (h.hl y hy).2 hk.size⟩)
  exact ⟨r.base, r.hl, r.rbL, r.fbL, r.mbL, r.sbL, r.tbL, r.maps, r.rdr (o1 h.tyR), r.file (o1 h.tyF), r.rows, r.seen (by simpa using Ne.symm h.maps.1), r.taken (by simpa using Ne.symm h.maps.2.1), hS, r.reps (fun g hg => o1 (h.ty_reps g hg)),
    r.als (fun g hg => o1 (h.ty_als g hg)), r.cls (fun g hg => o1 (h.ty_cls g hg)), r.rls (fun g hg => o1 (h.ty_rls g hg)), r.nxs (fun g hg => o1 (h.ty_nxs g hg))⟩
end
end Go.Proofs.YtfkblpjfknfgbaaGreatDoor
namespace Go.Proofs.YtfkblpjfknfgbaaGreatDoor
open Go.RowKit Go.Maps
structure Pushed (w w2 : World) (L L' X : List Nat) (b eb : Nat) (j : Nat) (x : Value) (e size : Nat) (v' : Value) (m : Nat) (ys : List Value) : Prop where
  kept : Kept X w w2
  sub : ∀ y ∈ L, y ∈ L'
  sup : ∀ y ∈ L', (y ∈ L ∨ w.heap.size ≤ y) ∧ y < w2.heap.size
  own : OwnL w2 L' e size v' m ys
  inL : ∀ y ∈ X, y ∈ L
  cell : ∀ cur, w.heap[b]? = some (.cells cur eb (0, 0)) → w2.heap[b]? = some (.cells (cur.setIfInBounds j x) eb (0, 0))
  tys : ∀ y ∈ X, TyB w y e ∨ TyB w y eb
theorem Pushed.go {w w2 : World} {L L' X : List Nat} {b eb j e size m : Nat} {x v' : Value} {ys : List Value} (h : Pushed w w2 L L' X b eb j x e size v' m ys) : Go2 L w L' w2 := ⟨h.kept.mono h.inL, fun y hy => (h.sup y hy).1⟩
theorem Pushed.out {w w2 : World} {L L' X : List Nat} {b eb j e size m : Nat} {x v' : Value} {ys : List Value} (h : Pushed w w2 L L' X b eb j x e size v' m ys) {g e' : Nat} (hg : TyB w g e') (h1 : e' ≠ e) (h2 : e' ≠ eb) : g ∉ X := fun hm => by
  rcases h.tys g hm with h3 | h3
  · exact hg.ne h3 h1 rfl
  · exact hg.ne h3 h2 rfl
theorem Pushed.outM {w w2 : World} {L L' X : List Nat} {b eb j e size m : Nat} {x v' : Value} {ys : List Value} (h : Pushed w w2 L L' X b eb j x e size v' m ys) {g : Nat} (hg : MapB w g) : g ∉ X := fun hm => by
  rcases h.tys g hm with h3 | h3
  · exact h3.ne_map hg rfl
  · exact h3.ne_map hg rfl
def LocP (w w1 : World) (v v' : Value) : Prop := v'.ownBlock = v.ownBlock ∨ ∃ g, v'.ownBlock = some g ∧ w.heap.size ≤ g ∧ g < w1.heap.size
theorem pushed_of {w w1 : World} {L : List Nat} {e size n m : Nat} {v v' : Value} {xs ys : List Value} (h : OwnL w L e size v n xs) (hl : ∀ x ∈ L, x < w.heap.size) (hg : w.grownBy w1 v.ownBlock) (hown : w1.ownsRow 0 e size v' m ys) (hloc : LocP w w1 v v')
    (b eb : Nat) (hb : b ∈ L) (hty : TyB w b eb) (hne : e ≠ eb) (j : Nat) (x : Value) : Pushed w (w1.setCell ⟨b, j, none⟩ x) L (L ++ v'.ownBlock.toList) (v.ownBlock.toList ++ [b]) b eb j x e size v' m ys := by
  have hbv : ∀ g, v.ownBlock = some g → g ≠ b := fun g hgv => TyB.ne (h.ty g hgv) hty hne
  have hbv' : ∀ g, v'.ownBlock = some g → g ≠ b := fun g hgv => by
    rcases hloc with h1 | ⟨g', h1, h2, _⟩
    · exact hbv g (by rw [← h1]; exact hgv)
    rw [hgv] at h1; cases h1
    have := hl b hb; omega
  have hbn : some b ≠ v.ownBlock := fun e1 => hbv b e1.symm rfl
  refine ⟨?_, fun y hy => List.mem_append.2 (.inl hy), ?_, ?_, ?_, ?_, ?_⟩
  · refine (Kept.grown (E := v.ownBlock.toList ++ [b]) hg (fun k hk => by rw [hk]; simp)).set b j x (.inl (by simp))
  · intro y hy
    rw [set_size]
    rcases List.mem_append.1 hy with h1 | h1
    · exact ⟨.inl h1, Nat.lt_of_lt_of_le (hl y h1) hg.size⟩
    have h2 : v'.ownBlock = some y := by simpa using h1
    rcases hloc with h3 | ⟨g', h3, h4, h5⟩
    · have h6 := h.2 y (by rw [← h3]; exact h2)
      exact ⟨.inl h6, Nat.lt_of_lt_of_le (hl y h6) hg.size⟩
    rw [h2] at h3; cases h3
    exact ⟨.inr h4, h5⟩
  · refine ⟨(set_kept w1 b j x).own hown (fun g hgv => by simpa using hbv' g hgv), fun g hgv => List.mem_append.2 (.inr (by rw [hgv]; simp))⟩
  · intro y hy
    rcases List.mem_append.1 hy with h1 | h1
    · exact h.2 y (by simpa using h1)
    simp at h1; subst h1; exact hb
  · intro cur hc
    exact heap_setCell_same w1 b j cur eb x ((hg.block b (hl b hb) hbn).trans hc)
  intro y hy
  rcases List.mem_append.1 hy with h1 | h1
  · exact .inl (h.ty y (by simpa using h1))
  simp at h1; subst h1; exact .inr hty
section
variable {w0 w w1 : World} {L : List Nat} {i : Ids} {v : Vs} {E : Int} {S : Sx} {nx : List Int} {tf : Int → Int} {tn cn : Nat} {cf : Int → Option Nat} {v' : Value}
theorem RMv.push_reps (h : RMv w0 w L i v E S nx tf tn cf cn) (a b : ByteArray) (hg : w.grownBy w1 v.reps.ownBlock) (hloc : LocP w w1 v.reps v') (hown : w1.ownsRow 0 145 2 v' (S.fl.reps.length + 1) (repCells S.fl.reps ++ [.string a, .string b])) :
    ∃ L', Go2 L w L' (w1.setCell ⟨i.fb, 9, none⟩ v') ∧ RMv w0 (w1.setCell ⟨i.fb, 9, none⟩ v') L' i { v with reps := v' } E { S with fl := { S.fl with reps := S.fl.reps ++ [(a, b)] } } nx tf tn cf cn := by
  have p := pushed_of h.reps (fun x hx => (h.hl x hx).2) hg hown hloc i.fb 116 h.fbL h.tyF (by decide) 9 v'
  have r := h.rest p.kept p.inL p.sub p.sup
  refine ⟨_, p.go, r.base, r.hl, r.rbL, r.fbL, r.mbL, r.sbL, r.tbL, r.maps, r.rdr (p.out h.tyR (by decide) (by decide)), by have := p.cell _ h.file; exact this, r.rows, r.seen (p.outM h.mapS), r.taken (p.outM h.mapT), r.cmap (p.outM h.mapC), by have := p.own; rw [show repCells S.fl.reps ++ [Value.string a, .string b] = repCells (S.fl.reps ++ [(a, b)]) by simp [repCells]] at this; simpa using this, r.als (fun g hg => p.out (h.ty_als g hg) (by decide) (by decide)), r.cls (fun g hg => p.out (h.ty_cls g hg) (by decide) (by decide)), r.rls (fun g hg => p.out (h.ty_rls g hg) (by decide) (by decide)), r.nxs (fun g hg => p.out (h.ty_nxs g hg) (by decide) (by decide))⟩
theorem RMv.push_cls (h : RMv w0 w L i v E S nx tf tn cf cn) (c : Cl) (hg : w.grownBy w1 v.cls.ownBlock) (hloc : LocP w w1 v.cls v') (hown : w1.ownsRow 0 99 5 v' (S.fl.cls.length + 1) (clsCells S.fl.cls ++ [.int .u16 c.flag, .int .i64 c.kind, .bool c.cross, .int .i64 c.first, .int .i64 c.count])) :
    ∃ L', Go2 L w L' (w1.setCell ⟨i.fb, 11, none⟩ v') ∧ RMv w0 (w1.setCell ⟨i.fb, 11, none⟩ v') L' i { v with cls := v' } E { S with fl := { S.fl with cls := S.fl.cls ++ [c] } } nx tf tn cf cn := by
  have p := pushed_of h.cls (fun x hx => (h.hl x hx).2) hg hown hloc i.fb 116 h.fbL h.tyF (by decide) 11 v'
  have r := h.rest p.kept p.inL p.sub p.sup
  refine ⟨_, p.go, r.base, r.hl, r.rbL, r.fbL, r.mbL, r.sbL, r.tbL, r.maps, r.rdr (p.out h.tyR (by decide) (by decide)), by have := p.cell _ h.file; exact this, r.rows, r.seen (p.outM h.mapS), r.taken (p.outM h.mapT), r.cmap (p.outM h.mapC), r.reps (fun g hg => p.out (h.ty_reps g hg) (by decide) (by decide)), r.als (fun g hg => p.out (h.ty_als g hg) (by decide) (by decide)), by have := p.own; rw [show clsCells S.fl.cls ++ [Value.int .u16 c.flag, .int .i64 c.kind, .bool c.cross, .int .i64 c.first, .int .i64 c.count] = clsCells (S.fl.cls ++ [c]) by simp [clsCells]] at this; simpa using this, r.rls (fun g hg => p.out (h.ty_rls g hg) (by decide) (by decide)), r.nxs (fun g hg => p.out (h.ty_nxs g hg) (by decide) (by decide))⟩
theorem RMv.push_nxs (h : RMv w0 w L i v E S nx tf tn cf cn) (l : Int) (hg : w.grownBy w1 v.nxs.ownBlock) (hloc : LocP w w1 v.nxs v') (hown : w1.ownsRow 0 3 1 v' (nx.length + 1) (nx.map (Value.int .i64) ++ [.int .i64 l])) :
    ∃ L', Go2 L w L' (w1.setCell ⟨i.rb, 6, none⟩ v') ∧ RMv w0 (w1.setCell ⟨i.rb, 6, none⟩ v') L' i { v with nxs := v' } E S (nx ++ [l]) tf tn cf cn := by
  have p := pushed_of h.nxs (fun x hx => (h.hl x hx).2) hg hown hloc i.rb 119 h.rbL h.tyR (by decide) 6 v'
  have r := h.rest p.kept p.inL p.sub p.sup
  refine ⟨_, p.go, r.base, r.hl, r.rbL, r.fbL, r.mbL, r.sbL, r.tbL, r.maps, by have := p.cell _ h.rdr; exact this, r.file (p.out h.tyF (by decide) (by decide)), r.rows, r.seen (p.outM h.mapS), r.taken (p.outM h.mapT), r.cmap (p.outM h.mapC), r.reps (fun g hg => p.out (h.ty_reps g hg) (by decide) (by decide)), r.als (fun g hg => p.out (h.ty_als g hg) (by decide) (by decide)), r.cls (fun g hg => p.out (h.ty_cls g hg) (by decide) (by decide)), r.rls (fun g hg => p.out (h.ty_rls g hg) (by decide) (by decide)), by have := p.own; rw [show nx.map (Value.int .i64) ++ [Value.int .i64 l] = (nx ++ [l]).map (Value.int .i64) by simp] at this; simpa using this⟩
theorem RMv.push_als (h : RMv w0 w L i v E S nx tf tn cf cn) (u : Value) (a : List Int) (hu : FO w L u a) (hg : w.grownBy w1 v.als.ownBlock) (hloc : LocP w w1 v.als v') (hown : ∀ us, w.ownsRow 0 29 1 v.als S.fl.als.length us → w1.ownsRow 0 29 1 v' (S.fl.als.length + 1) (us ++ [u])) :
    ∃ L', Go2 L w L' (w1.setCell ⟨i.fb, 10, none⟩ v') ∧ RMv w0 (w1.setCell ⟨i.fb, 10, none⟩ v') L' i { v with als := v' } E { S with fl := { S.fl with als := S.fl.als ++ [a] } } nx tf tn cf cn := by
  obtain ⟨us, hr1, hr2, hr3⟩ := h.als
  have hown := hown _ hr1.1
  have p := pushed_of hr1 (fun x hx => (h.hl x hx).2) hg hown hloc i.fb 116 h.fbL h.tyF (by decide) 10 v'
  have r := h.rest p.kept p.inL p.sub p.sup
  refine ⟨_, p.go, r.base, r.hl, r.rbL, r.fbL, r.mbL, r.sbL, r.tbL, r.maps, r.rdr (p.out h.tyR (by decide) (by decide)), by have := p.cell _ h.file; exact this, r.rows, r.seen (p.outM h.mapS), r.taken (p.outM h.mapT), r.cmap (p.outM h.mapC), r.reps (fun g hg => p.out (h.ty_reps g hg) (by decide) (by decide)), ⟨us ++ [u], by simpa using p.own, by simp [hr2], fun k x y hx hy => by
    by_cases hk : k < us.length
    · rw [List.getElem?_append_left hk] at hx; rw [List.getElem?_append_left (by omega)] at hy; exact (hr3 k x y hx hy).keep p.go
    rw [List.getElem?_append_right (by omega)] at hx hy
    rw [hr2] at hx
    rcases hd : k - S.fl.als.length with _ | d
    · rw [hd] at hx hy; simp at hx hy; subst hx hy; exact hu.keep p.go
    rw [hd] at hx; simp at hx⟩, r.cls (fun g hg => p.out (h.ty_cls g hg) (by decide) (by decide)), r.rls (fun g hg => p.out (h.ty_rls g hg) (by decide) (by decide)), r.nxs (fun g hg => p.out (h.ty_nxs g hg) (by decide) (by decide))⟩
theorem RMv.push_rls (h : RMv w0 w L i v E S nx tf tn cf cn) (r0 : Rl) (u : Value) (hu : FO w L u r0.next) (hg : w.grownBy w1 v.rls.ownBlock) (hloc : LocP w w1 v.rls v') (hown : ∀ rs : List (Rl × Value), rs.map (·.1) = S.fl.rls → w.ownsRow 0 31 7 v.rls rs.length (rlsCells rs) → w1.ownsRow 0 31 7 v' (rs.length + 1) (rlsCells rs ++ rlsCells [(r0, u)])) :
    ∃ L', Go2 L w L' (w1.setCell ⟨i.fb, 12, none⟩ v') ∧ RMv w0 (w1.setCell ⟨i.fb, 12, none⟩ v') L' i { v with rls := v' } E { S with fl := { S.fl with rls := S.fl.rls ++ [r0] } } nx tf tn cf cn := by
  obtain ⟨rs, hr0, hr1, hr3⟩ := h.rls
  have hown := hown _ hr0 hr1.1
  have p := pushed_of hr1 (fun x hx => (h.hl x hx).2) hg hown hloc i.fb 116 h.fbL h.tyF (by decide) 12 v'
  have r := h.rest p.kept p.inL p.sub p.sup
  refine ⟨_, p.go, r.base, r.hl, r.rbL, r.fbL, r.mbL, r.sbL, r.tbL, r.maps, r.rdr (p.out h.tyR (by decide) (by decide)), by have := p.cell _ h.file; exact this, r.rows, r.seen (p.outM h.mapS), r.taken (p.outM h.mapT), r.cmap (p.outM h.mapC), r.reps (fun g hg => p.out (h.ty_reps g hg) (by decide) (by decide)), r.als (fun g hg => p.out (h.ty_als g hg) (by decide) (by decide)), r.cls (fun g hg => p.out (h.ty_cls g hg) (by decide) (by decide)), ⟨rs ++ [(r0, u)], by simp [hr0], by have := p.own; rw [show rlsCells rs ++ rlsCells [(r0, u)] = rlsCells (rs ++ [(r0, u)]) by simp [rlsCells]] at this; simpa using this, fun q hq => by
    rcases List.mem_append.1 hq with h1 | h1
    · exact (hr3 q h1).keep p.go
    simp at h1; subst h1; exact hu.keep p.go⟩, r.nxs (fun g hg => p.out (h.ty_nxs g hg) (by decide) (by decide))⟩
end
end Go.Proofs.YtfkblpjfknfgbaaGreatDoor
namespace Go.Proofs.YtfkblpjfknfgbaaGreatDoor
open Go.RowKit
def flt (line c : Int) : PanicEntry := { v := .iface 60 (.agg #[.int .i64 1, .int .i64 line, .int .i64 c]), recovered := false }
def OutW {α : Type} (line : Int) (w : World) (V : α → Value) (R : Except Int α) (e : Ending) (w' : World) : Prop :=
  Below w.heap.size w w' ∧ match R with
    | .ok a => e = .returned (V a)
    | .error c => e = .panicked [flt line c]
def MustP (b : Bool) (line c : Int) (w : World) (e : Ending) (w' : World) : Prop := ((b = true ∧ e = .returned (.tuple #[])) ∨ (b = false ∧ e = .panicked [flt line c])) ∧ w = w'
theorem MustP.ok (line c : Int) (w : World) : MustP true line c w (.returned (.tuple #[])) w := ⟨.inl ⟨rfl, rfl⟩, rfl⟩
theorem MustP.bad (line c : Int) (w : World) : MustP false line c w (.panicked [flt line c]) w := ⟨.inr ⟨rfl, rfl⟩, rfl⟩
set_option maxHeartbeats 400000 in
theorem so_need (rb : Nat) (line c : Int) (w : World) (h2 : w.cell? ⟨rb, 2, none⟩ = some (.int .i64 line)) :
    Calls Tryz.prog 83 #[.pointer (some ⟨rb, 0, none⟩), .int .i64 c] w (MustP (c == 0) line c w) := by
  by_cases h : c = 0
  · subst h
    go_enter Tryz.func83, Tryz.ntmps83
    go_wp2_with fail
    go_end0
    exact MustP.ok _ _ _
  have hc : (c != 0) = true := by simpa using h
  have hc2 : (c == 0) = false := by simpa using h
  rw [hc2]
  go_enter Tryz.func83, Tryz.ntmps83
  go_wp2_with fail
  exact ⟨rfl, MustP.bad _ _ _⟩
set_option maxHeartbeats 400000 in
theorem so_must (rb : Nat) (line : Int) (b : Bool) (c : Int) (w : World) (hc : c ≠ 0) (h2 : w.cell? ⟨rb, 2, none⟩ = some (.int .i64 line)) :
    Calls Tryz.prog 46 #[.pointer (some ⟨rb, 0, none⟩), .bool b, .int .i64 c] w (MustP b line c w) := by
  have hc2 : (c == 0) = false := by simpa using hc
  have HN := Lib.hid (so_need rb line c w h2)
  rw [hc2] at HN
  clear hc hc2
  cases b
  · go_enter Tryz.func46, Tryz.ntmps46
    go_wp2_with fail
    refine HN.out.mono ?_
    rintro e w' ⟨⟨h, -⟩ | ⟨-, rfl⟩, rfl⟩
    · cases h
    exact ⟨rfl, MustP.bad _ _ _⟩
  go_enter Tryz.func46, Tryz.ntmps46
  go_wp2_with fail
  go_end0
  exact MustP.ok _ _ _
def numR_ (s : ByteArray) (most : Int) : Except Int Int := if numErr s.data.toList most ≠ 0 then .error 13 else .ok (numVal s.data.toList most)
theorem numErr_13 (l : List UInt8) (m : Int) : numErr l m = 0 ∨ numErr l m = 13 := by unfold numErr; split <;> simp
set_option maxHeartbeats 400000 in
theorem so_rdNumber (rb : Nat) (line : Int) (s : ByteArray) (most : Int) (w : World) (hs : s.size ≤ maxLen) (h1 : -9223372036854775808 ≤ most) (h3 : most ≤ 9223372036854775807) (h2 : w.cell? ⟨rb, 2, none⟩ = some (.int .i64 line)) :
    Calls Tryz.prog 114 #[.pointer (some ⟨rb, 0, none⟩), .string s, .int .i64 most] w (OutW line w (Value.int .i64) (numR_ s most)) := by
  have HN := Lib.hid (Number_any s most w hs h1 h3)
  unfold numR_
  rcases numErr_13 s.data.toList most with h | h
  all_goals
    rw [h]
    have HE := Lib.hid h
    clear h
    go_enter Tryz.func114, Tryz.ntmps114
    go_wp2_with fail
    refine HN.out.mono ?_
    rintro e w' ⟨he, rfl⟩
    rw [NumRet, HE.out] at he
    subst he
    go_wp2_with fail
    refine (so_need rb line _ _ h2).mono ?_
    first
      | (rintro e w' ⟨⟨-, rfl⟩ | ⟨h, -⟩, rfl⟩
         · go_wp2_with fail
           go_ret
           exact ⟨Below.refl _ _, rfl⟩
         exact absurd h (by decide))
      | (rintro e w' ⟨⟨h, -⟩ | ⟨-, rfl⟩, rfl⟩
         · exact absurd h (by decide)
         exact ⟨rfl, Below.refl _ _, rfl⟩)
set_option maxHeartbeats 1000000 in
theorem so_plainR (rb : Nat) (line : Int) (s : ByteArray) (w : World) (hs : s.size ≤ 140737488355328) (h2 : w.cell? ⟨rb, 2, none⟩ = some (.int .i64 line)) :
    Calls Tryz.prog 111 #[.pointer (some ⟨rb, 0, none⟩), .string s] w (MustP (fitAll s) line 21 w) := by
  go_enter Tryz.func111, Tryz.ntmps111
  go_wp2_with fail
  go_loop [4, 7] (fun _ i => ∃ k : Nat, k ≤ s.size ∧ i = .int .i64 k ∧ Hid ((s.data.toList.take k).all fitB = true)) (fun _ i => s.size - (intOf i).toNat)
  case atStart => exact ⟨0, Nat.zero_le _, rfl, Lib.hid rfl⟩
  case round =>
  obtain ⟨k, hk, rfl, HT⟩ := hrel
  by_cases hlt : k < s.size
  · cases hf : fitB s[k]
    · have HN := Lib.hid (all_no s k hlt hf)
      have HF := Lib.hid hf
      clear hf
      go_wp2_with (first | (go_at_call 85; refine (Valid_one s k hlt _).mono ?_; rw [HF.out]; rintro e w' ⟨rfl, rfl⟩))
      refine (so_must rb line _ _ _ (by decide) h2).mono ?_
      rintro e w' ⟨⟨h, -⟩ | ⟨-, rfl⟩, rfl⟩
      · cases h
      exact ⟨rfl, .inr ⟨HN.out, rfl⟩, rfl⟩
    have HN := Lib.hid (all_take s k hlt hf HT.out)
    have HF := Lib.hid hf
    clear hf
    go_wp2_with (first | (go_at_call 85; refine (Valid_one s k hlt _).mono ?_; rw [HF.out]; rintro e w' ⟨rfl, rfl⟩))
    refine (so_must rb line _ _ _ (by decide) h2).mono ?_
    rintro e w' ⟨⟨-, rfl⟩ | ⟨h, -⟩, rfl⟩
    · go_wp2_with fail
      go_round
      case rel => exact ⟨k + 1, by omega, by go_num, HN⟩
      case measure => simp [intOf]; omega
    cases h
  obtain rfl : k = s.size := by omega
  have HN := Lib.hid (all_full s HT.out)
  go_wp2_with fail
  go_end0
  exact ⟨.inl ⟨HN.out, rfl⟩, rfl⟩
def fitR (s : ByteArray) : Except Int ByteArray := if fitE s ≠ 0 then .error (fitE s) else .ok s
set_option maxHeartbeats 1000000 in
theorem so_fitR (rb : Nat) (line : Int) (s : ByteArray) (w : World) (hs : s.size ≤ 140737488355328) (h2 : w.cell? ⟨rb, 2, none⟩ = some (.int .i64 line)) :
    Calls Tryz.prog 151 #[.pointer (some ⟨rb, 0, none⟩), .string s] w (OutW line w Value.string (fitR s)) := by
  cases hf : fitAll s
  · have HR : Hid (fitR s = .error 21) := Lib.hid (by unfold fitR fitE; rw [hf]; simp)
    have HF := Lib.hid hf
    clear hf
    go_enter Tryz.func151, Tryz.ntmps151
    go_wp2_with fail
    refine (so_plainR rb line s _ hs h2).mono ?_
    rw [HF.out]
    rintro e w' ⟨⟨h, -⟩ | ⟨-, rfl⟩, rfl⟩
    · cases h
    rw [HR.out]; exact ⟨rfl, Below.refl _ _, rfl⟩
  by_cases h0 : s.size = 0
  · have hse : s = ⟨#[]⟩ := by apply ByteArray.ext; exact Array.eq_empty_of_size_eq_zero h0
    subst hse
    have HR : Hid (fitR ⟨#[]⟩ = .error 21) := Lib.hid (by rfl)
    have HF := Lib.hid hf
    clear hf
    go_enter Tryz.func151, Tryz.ntmps151
    go_wp2_with fail
    refine (so_plainR rb line _ _ hs h2).mono ?_
    rw [HF.out]
    rintro e w' ⟨⟨-, rfl⟩ | ⟨h, -⟩, rfl⟩
    · go_wp2_with fail
      refine (so_must rb line _ _ _ (by decide) h2).mono ?_
      rintro e w' ⟨⟨h, -⟩ | ⟨-, rfl⟩, rfl⟩
      · cases h
      rw [HR.out]; exact ⟨rfl, Below.refl _ _, rfl⟩
    cases h
  have hne := notEmpty s (by omega)
  by_cases h3 : s.size ≤ 32
  · have HR : Hid (fitR s = .ok s) := Lib.hid (by unfold fitR fitE; rw [hf, if_neg (show ¬ (s.size = 0 ∨ true = false) from fun h => h.elim h0 (fun h => by cases h)), if_neg (show ¬ 32 < s.size by omega)]; rfl)
    have HF := Lib.hid hf
    clear hf
    go_enter Tryz.func151, Tryz.ntmps151
    go_wp2_with fail
    refine (so_plainR rb line s _ hs h2).mono ?_
    rw [HF.out]
    rintro e w' ⟨⟨-, rfl⟩ | ⟨h, -⟩, rfl⟩
    · go_wp2_with fail
      refine (so_must rb line _ _ _ (by decide) h2).mono ?_
      rintro e w' ⟨⟨-, rfl⟩ | ⟨h, -⟩, rfl⟩
      · go_wp2_with fail
        refine (so_must rb line _ _ _ (by decide) h2).mono ?_
        rintro e w' ⟨⟨-, rfl⟩ | ⟨h, -⟩, rfl⟩
        · go_wp2_with fail
          go_ret
          rw [HR.out]; exact ⟨Below.refl _ _, rfl⟩
        exact absurd h (by simp; omega)
      exact absurd h (by simp)
    cases h
  have HR : Hid (fitR s = .error 22) := Lib.hid (by unfold fitR fitE; rw [hf, if_neg (show ¬ (s.size = 0 ∨ true = false) from fun h => h.elim h0 (fun h => by cases h)), if_pos (show 32 < s.size by omega)]; rfl)
  have HF := Lib.hid hf
  clear hf
  go_enter Tryz.func151, Tryz.ntmps151
  go_wp2_with fail
  refine (so_plainR rb line s _ hs h2).mono ?_
  rw [HF.out]
  rintro e w' ⟨⟨-, rfl⟩ | ⟨h, -⟩, rfl⟩
  · go_wp2_with fail
    refine (so_must rb line _ _ _ (by decide) h2).mono ?_
    rintro e w' ⟨⟨-, rfl⟩ | ⟨h, -⟩, rfl⟩
    · go_wp2_with fail
      refine (so_must rb line _ _ _ (by decide) h2).mono ?_
      rintro e w' ⟨⟨h, -⟩ | ⟨-, rfl⟩, rfl⟩
      · exact absurd h (by simp; omega)
      rw [HR.out]; exact ⟨rfl, Below.refl _ _, rfl⟩
    exact absurd h (by simp)
  cases h
end Go.Proofs.YtfkblpjfknfgbaaGreatDoor
namespace Go.Proofs.YtfkblpjfknfgbaaGreatDoor
open Go.RowKit
def markB (b : UInt8) : Bool := decide (b.toNat = 92 ∨ b.toNat = 47 ∨ b.toNat = 35)
set_option maxHeartbeats 400000 in
theorem so_marked (b : UInt8) (w : World) : Calls Tryz.prog 120 #[.int .u8 b.toNat] w fun e w' => e = .returned (.bool (markB b)) ∧ w = w' := by
  by_cases h1 : b.toNat = 92
  · have e1 : ((b.toNat : Int) == 92) = true := by rw [h1]; rfl
    have HR : Hid (markB b = true) := Lib.hid (by unfold markB; simp [h1])
    clear h1
    go_enter Tryz.func120, Tryz.ntmps120
    go_wp2_with fail
    go_ret
    exact ⟨ret_bool HR.out.symm, rfl⟩
  have e1 : ((b.toNat : Int) == 92) = false := by rw [beq_eq_false_iff_ne]; omega
  by_cases h2 : b.toNat = 47
  · have e2 : ((b.toNat : Int) == 47) = true := by rw [h2]; rfl
    have HR : Hid (markB b = true) := Lib.hid (by unfold markB; simp [h2])
    clear h1 h2
    go_enter Tryz.func120, Tryz.ntmps120
    go_wp2_with fail
    go_ret
    exact ⟨ret_bool HR.out.symm, rfl⟩
  have e2 : ((b.toNat : Int) == 47) = false := by rw [beq_eq_false_iff_ne]; omega
  by_cases h3 : b.toNat = 35
  · have e3 : ((b.toNat : Int) == 35) = true := by rw [h3]; rfl
    have HR : Hid (markB b = true) := Lib.hid (by unfold markB; simp [h3])
    clear h1 h2 h3
    go_enter Tryz.func120, Tryz.ntmps120
    go_wp2_with fail
    go_ret
    exact ⟨ret_bool HR.out.symm, rfl⟩
  have e3 : ((b.toNat : Int) == 35) = false := by rw [beq_eq_false_iff_ne]; omega
  have HR : Hid (markB b = false) := Lib.hid (by unfold markB; simp [h1, h2, h3])
  clear h1 h2 h3
  go_enter Tryz.func120, Tryz.ntmps120
  go_wp2_with fail
  go_ret
  exact ⟨ret_bool HR.out.symm, rfl⟩
def wordV (r : List UInt8 × List UInt8 × Bool × Int) : Value := .tuple #[.string (mkS r.1), .string (mkS r.2.1), .bool r.2.2.1, .int .i64 r.2.2.2]
def WSt (s : ByteArray) (k : Nat) (acc : List UInt8) : Prop := wgo acc (s.data.toList.drop k) = wordR s.data.toList ∧ acc.length ≤ k
theorem WSt.start (s : ByteArray) : WSt s 0 [] := ⟨rfl, Nat.le_refl _⟩
theorem WSt.slash {s : ByteArray} {k : Nat} {acc : List UInt8} (h : WSt s k acc) (hk : k < s.size) (hb : s[k].toNat = 47) : wordR s.data.toList = (acc, (s.extract (k + 1) s.size).data.toList, true, 0) := by
  rw [← h.1, drop_cons s k hk, wgo_slash _ _ _ hb, Lib.extract_to_end]
theorem WSt.more {s : ByteArray} {k : Nat} {acc : List UInt8} (h : WSt s k acc) (hk : k < s.size) (hb : s[k].toNat ≠ 47) (hb' : s[k].toNat ≠ 92) : WSt s (k + 1) (acc ++ [s[k]]) :=
  ⟨by rw [← h.1, drop_cons s k hk, wgo_more _ _ _ hb hb'], by have := h.2; simp; omega⟩
theorem WSt.last {s : ByteArray} {k : Nat} {acc : List UInt8} (h : WSt s k acc) (hk : k < s.size) (hb : s[k].toNat = 92) (he : ¬ k + 1 < s.size) : wordR s.data.toList = ([], [], false, 20) := by
  rw [← h.1, drop_cons s k hk, List.drop_of_length_le (by simp; omega), wgo_end _ _ hb]
theorem WSt.bad {s : ByteArray} {k : Nat} {acc : List UInt8} (h : WSt s k acc) (hk : k < s.size) (hb : s[k].toNat = 92) (he : k + 1 < s.size) (hm : markB s[k + 1] = false) : wordR s.data.toList = ([], [], false, 20) := by
  rw [← h.1, drop_cons s k hk, drop_cons s (k + 1) he, wgo_bad _ _ _ _ hb (by unfold markB at hm; simpa using hm)]
theorem WSt.esc {s : ByteArray} {k : Nat} {acc : List UInt8} (h : WSt s k acc) (hk : k < s.size) (hb : s[k].toNat = 92) (he : k + 1 < s.size) (hm : markB s[k + 1] = true) : WSt s (k + 1 + 1) (acc ++ [s[k + 1]]) :=
  ⟨by rw [← h.1, drop_cons s k hk, drop_cons s (k + 1) he, wgo_esc _ _ _ _ hb (by unfold markB at hm; simpa using hm)], by have := h.2; simp; omega⟩
theorem WSt.done {s : ByteArray} {acc : List UInt8} (h : WSt s s.size acc) : wordR s.data.toList = (acc, [], false, 0) := by
  rw [← h.1, drop_all, wgo_nil]
set_option maxHeartbeats 4000000 in
set_option maxRecDepth 100000 in
theorem so_wread (s : ByteArray) (w : World) (hs : s.size ≤ 1048576) :
    Calls Tryz.prog 84 #[.string s] w fun e w' => e = .returned (wordV (wordR s.data.toList)) ∧ Below w.heap.size w w' := by
  go_enter Tryz.func84, Tryz.ntmps84
  go_wp2_with fail
  go_loopw [7] (fun i W => ∃ (k : Nat) (acc : List UInt8), k ≤ s.size ∧ i = .int .i64 k ∧ Hid (WSt s k acc) ∧ Hid (IsB w.heap.size w.heap.size (Lib.byteCells acc) W) ∧ Hid (Below w.heap.size w W) ∧ w.heap.size ≤ W.heap.size) (fun i _ => s.size - (intOf i).toNat)
  case atStart => exact ⟨0, [], Nat.zero_le _, rfl, WSt.start s, fresh_isB w, (Below.refl _ _).alloc (Nat.le_refl _) _, by simp⟩
  case round =>
  obtain ⟨k, acc, hk, rfl, HW, HI, HB, hsz⟩ := hrel
  have HL := Lib.hid HW.out.2
  by_cases hlt : k < s.size
  · by_cases h1 : s[k].toNat = 47
    · have e1 : ((s[k].toNat : Int) == 47) = true := by rw [h1]; rfl
      have HR := Lib.hid (HW.out.slash hlt h1)
      have hsum : IntKind.i64.wrap ((k : Int) + 1) = (k : Int) + 1 := by rw [IntKind.wrap_i64]; omega
      clear h1
      go_wp2_with fail
      have HI2 := Lib.hid (show IsB w.heap.size w.heap.size (Lib.byteCells acc) wr.drew from HI.out)
      go_region_with (go_at_call 119; refine (builderString_any _ _ acc _ HI2.out hsz).mono ?_; rintro e w' ⟨rfl, h2⟩; have HO := Lib.hid (HB.out.drew.trans h2); clear h2)
      all_goals
        go_wp2_with fail
        refine bodyPost_ret (v := .tuple #[.string ⟨acc.toArray⟩, .string (s.extract (k + 1) s.size), .bool true, .int .i64 0]) (by simp [results, Tryz.results84, go_sem]) rfl ?_
        rw [HR.out]
        exact ⟨rfl, HO.out⟩
    have e1 : ((s[k].toNat : Int) == 47) = false := by rw [beq_eq_false_iff_ne]; omega
    by_cases h2 : s[k].toNat = 92
    · have e2 : ((s[k].toNat : Int) == 92) = true := by rw [h2]; rfl
      by_cases h3 : k + 1 < s.size
      · have e3 : (((k : Int) + 1) == (s.size : Int)) = false := by rw [beq_eq_false_iff_ne]; omega
        cases hm : markB s[k + 1]
        · have HR := Lib.hid (HW.out.bad hlt h2 h3 hm)
          have HM := Lib.hid hm
          clear h1 h2 hm
          go_wp2_with (first | (go_at_call 120; refine (so_marked _ _).mono ?_; rw [HM.out]; rintro e w' ⟨rfl, rfl⟩))
          refine bodyPost_ret (v := wordV ([], [], false, 20)) (by simp [results, Tryz.results84, go_sem]; rfl) rfl ?_
          rw [HR.out]
          exact ⟨rfl, HB.out⟩
        have HR := Lib.hid (HW.out.esc hlt h2 h3 hm)
        have HM := Lib.hid hm
        clear h1 h2 hm
        go_wp2_with (first
          | (go_at_call 120; refine (so_marked _ _).mono ?_; rw [HM.out]; rintro e w' ⟨rfl, rfl⟩)
          | (go_at_call 121; refine (writeByte_any _ _ _ _ _ HI.out (by have := HL.out; simp [Lib.byteCells]; omega) hsz).mono ?_; rintro e w' ⟨rfl, h1, h2⟩; have HO := Lib.hid (show IsB w.heap.size w.heap.size (Lib.byteCells (acc ++ [s[k + 1]])) w' by rw [← bytes_snoc]; exact h1.is); have HB2 := Lib.hid (HB.out.trans h2); clear h1 h2))
        go_roundw
        case rel => exact ⟨k + 1 + 1, _, by omega, by go_num, HR, HO, HB2, HB2.out.size⟩
        case measure => simp [intOf]; omega
      have e3 : (((k : Int) + 1) == (s.size : Int)) = true := by rw [beq_iff_eq]; omega
      have HR := Lib.hid (HW.out.last hlt h2 h3)
      clear h1 h2
      go_wp2_with fail
      refine bodyPost_ret (v := wordV ([], [], false, 20)) (by simp [results, Tryz.results84, go_sem]; rfl) rfl ?_
      rw [HR.out]
      exact ⟨rfl, HB.out⟩
    have e2 : ((s[k].toNat : Int) == 92) = false := by rw [beq_eq_false_iff_ne]; omega
    have HR := Lib.hid (HW.out.more hlt h1 h2)
    clear h1 h2
    go_wp2_with (first
      | (go_at_call 121; refine (writeByte_any _ _ _ _ _ HI.out (by have := HL.out; simp [Lib.byteCells]; omega) hsz).mono ?_; rintro e w' ⟨rfl, h1, h2⟩; have HO := Lib.hid (show IsB w.heap.size w.heap.size (Lib.byteCells (acc ++ [s[k]])) w' by rw [← bytes_snoc]; exact h1.is); have HB2 := Lib.hid (HB.out.trans h2); clear h1 h2))
    go_roundw
    case rel => exact ⟨k + 1, _, by omega, by go_num, HR, HO, HB2, HB2.out.size⟩
    case measure => simp [intOf]; omega
  obtain rfl : k = s.size := by omega
  have HR := Lib.hid HW.out.done
  go_wp2_with (first
    | (go_at_call 119; refine (builderString_any _ _ acc _ HI.out hsz).mono ?_; rintro e w' ⟨rfl, h2⟩; have HO := Lib.hid (HB.out.trans h2); clear h2))
  refine bodyPost_ret (v := wordV (acc, [], false, 0)) (by simp [results, Tryz.results84, go_sem]; rfl) rfl ?_
  rw [HR.out]
  exact ⟨rfl, HO.out⟩
end Go.Proofs.YtfkblpjfknfgbaaGreatDoor
namespace Go.Proofs.YtfkblpjfknfgbaaGreatDoor
open Go.RowKit
theorem wgo_len : ∀ (n : Nat) (acc l : List UInt8), l.length ≤ n → (wgo acc l).1.length ≤ acc.length + l.length ∧ (wgo acc l).2.1.length ≤ l.length
  | n, acc, [], _ => by rw [wgo_nil]; simp
  | 0, acc, b :: l, h => by simp at h
  | n + 1, acc, b :: l, h => by
    have hl : l.length ≤ n := by simp at h; exact h
    by_cases h1 : b.toNat = 47
    · rw [wgo_slash _ _ _ h1]; simp
    · by_cases h2 : b.toNat = 92
      · rcases l with _ | ⟨c, l⟩
        · rw [wgo_end _ _ h2]; simp
        · by_cases h3 : c.toNat = 92 ∨ c.toNat = 47 ∨ c.toNat = 35
          · rw [wgo_esc _ _ _ _ h2 h3]
            have := wgo_len n (acc ++ [c]) l (by simp at hl; omega)
            simp at this ⊢; omega
          · rw [wgo_bad _ _ _ _ h2 h3]; simp
      · rw [wgo_more _ _ _ h1 h2]
        have := wgo_len n (acc ++ [b]) l hl
        simp at this ⊢; omega
theorem wordR_len (l : List UInt8) : (wordR l).1.length ≤ l.length ∧ (wordR l).2.1.length ≤ l.length := by
  have := wgo_len l.length [] l (Nat.le_refl _)
  simpa [wordR] using this
theorem str_ne (s : ByteArray) (l : List UInt8) (h : s ≠ ⟨l.toArray⟩) : (s.toList == l) = false := by
  rw [beq_eq_false_iff_ne]
  intro e
  exact h ((mk_eq_iff l s).2 e.symm).symm
theorem line_keep {rb : Nat} {line : Int} {w w' : World} (h : w.cell? ⟨rb, 2, none⟩ = some (.int .i64 line)) (hb : Below w.heap.size w w') : w'.cell? ⟨rb, 2, none⟩ = some (.int .i64 line) :=
  (hb.cell (World.block_lt_of_cell? w _ h)).trans h
set_option maxHeartbeats 1000000 in
theorem so_piece (rb : Nat) (line : Int) (s : ByteArray) (w : World) (hs : s.size ≤ 1048576) (h2 : w.cell? ⟨rb, 2, none⟩ = some (.int .i64 line)) :
    Calls Tryz.prog 116 #[.pointer (some ⟨rb, 0, none⟩), .string s] w (OutW line w Value.string (pieceR false s)) := by
  have hw := so_wread s w hs
  have hl := (wordR_len s.data.toList).1
  rw [len_toList] at hl
  unfold pieceR
  rw [if_neg (by simp)]
  obtain ⟨⟨W, R, C, e⟩, hR⟩ : ∃ r, wordR s.data.toList = r := ⟨_, rfl⟩
  rw [hR] at hw hl ⊢
  have HW := Lib.hid hw
  have H2 := Lib.hid h2
  clear hw hR h2
  unfold wordV at HW
  dsimp only at HW hl ⊢
  by_cases he : e = 0
  · subst he
    cases C
    · rw [if_neg (by simp), if_neg (by simp)]
      have HF : Hid (∀ W', Below w.heap.size w W' → Calls Tryz.prog 151 #[.pointer (some ⟨rb, 0, none⟩), .string (mkS W)] W' (OutW line W' Value.string (fitR (mkS W)))) := Lib.hid (fun W' hb => so_fitR rb line (mkS W) W' (by rw [mkS_size]; omega) (line_keep H2.out hb))
      have HR : Hid (fitR (mkS W) = if fitE (mkS W) ≠ 0 then .error (fitE (mkS W)) else .ok (mkS W)) := Lib.hid rfl
      rw [← HR.out]
      go_enter Tryz.func116, Tryz.ntmps116
      go_wp2_with fail
      refine HW.out.mono ?_
      rintro e w1 ⟨rfl, hb1⟩
      have HB1 := Lib.hid hb1
      clear hb1
      go_wp2_with fail
      refine (so_need rb line 0 _ (line_keep H2.out HB1.out)).mono ?_
      rintro e w' ⟨⟨-, rfl⟩ | ⟨h, -⟩, rfl⟩
      · go_wp2_with fail
        refine (so_must rb line _ _ _ (by decide) (line_keep H2.out HB1.out)).mono ?_
        rintro e w' ⟨⟨-, rfl⟩ | ⟨h, -⟩, rfl⟩
        · go_wp2_with fail
          refine (HF.out _ HB1.out).mono ?_
          cases hq : fitR (mkS W)
          · rintro e w2 ⟨hb2, rfl⟩
            exact ⟨rfl, HB1.out.trans (hb2.mono HB1.out.size), rfl⟩
          rintro e w2 ⟨hb2, rfl⟩
          have HB2 := Lib.hid (HB1.out.trans (hb2.mono HB1.out.size))
          have HQ := Lib.hid hq
          clear hb2 hq
          go_wp2_with fail
          go_ret
          exact ⟨HB2.out, by rw [HQ.out]; rfl⟩
        exact absurd h (by decide)
      exact absurd h (by decide)
    rw [if_neg (by simp), if_pos rfl]
    go_enter Tryz.func116, Tryz.ntmps116
    go_wp2_with fail
    refine HW.out.mono ?_
    rintro e w1 ⟨rfl, hb1⟩
    have HB1 := Lib.hid hb1
    clear hb1
    go_wp2_with fail
    refine (so_need rb line 0 _ (line_keep H2.out HB1.out)).mono ?_
    rintro e w' ⟨⟨-, rfl⟩ | ⟨h, -⟩, rfl⟩
    · go_wp2_with fail
      refine (so_must rb line _ _ _ (by decide) (line_keep H2.out HB1.out)).mono ?_
      rintro e w' ⟨⟨h, -⟩ | ⟨-, rfl⟩, rfl⟩
      · exact absurd h (by decide)
      exact ⟨rfl, HB1.out, rfl⟩
    exact absurd h (by decide)
  have he2 : (e == 0) = false := by simpa using he
  rw [if_pos he]
  have HE := Lib.hid he2
  clear he he2
  go_enter Tryz.func116, Tryz.ntmps116
  go_wp2_with fail
  refine HW.out.mono ?_
  rintro e' w1 ⟨rfl, hb1⟩
  have HB1 := Lib.hid hb1
  clear hb1
  go_wp2_with fail
  refine (so_need rb line e _ (line_keep H2.out HB1.out)).mono ?_
  rw [HE.out]
  rintro e' w' ⟨⟨h, -⟩ | ⟨-, rfl⟩, rfl⟩
  · cases h
  exact ⟨rfl, HB1.out, rfl⟩
set_option maxHeartbeats 1000000 in
theorem so_pieceOrNone (rb : Nat) (line : Int) (s : ByteArray) (w : World) (hs : s.size ≤ 1048576) (h2 : w.cell? ⟨rb, 2, none⟩ = some (.int .i64 line)) :
    Calls Tryz.prog 117 #[.pointer (some ⟨rb, 0, none⟩), .string s] w (OutW line w Value.string (pieceR true s)) := by
  by_cases h : s = ⟨#[48]⟩
  · have HR : Hid (pieceR true s = .ok ⟨#[]⟩) := Lib.hid (by unfold pieceR; rw [if_pos ⟨rfl, h⟩])
    subst h
    go_enter Tryz.func117, Tryz.ntmps117
    go_wp2_with fail
    go_ret
    exact ⟨Below.refl _ _, by rw [HR.out]; rfl⟩
  have HR : Hid (pieceR true s = pieceR false s) := Lib.hid (by unfold pieceR; rw [if_neg (fun hh => h hh.2), if_neg (by simp)])
  have HP := Lib.hid (so_piece rb line s w hs h2)
  have hz := str_ne s [48] h
  rw [HR.out]
  clear h2 h
  go_enter Tryz.func117, Tryz.ntmps117
  go_wp2_with fail
  refine HP.out.mono ?_
  cases hq : pieceR false s
  · rintro e w2 ⟨hb2, rfl⟩
    exact ⟨rfl, hb2, rfl⟩
  rintro e w2 ⟨hb2, rfl⟩
  have HB2 := Lib.hid hb2
  have HQ := Lib.hid hq
  clear hb2 hq
  go_wp2_with fail
  go_ret
  exact ⟨HB2.out, by rw [HQ.out]; rfl⟩
end Go.Proofs.YtfkblpjfknfgbaaGreatDoor
namespace Go.Proofs.YtfkblpjfknfgbaaGreatDoor
open Go.RowKit Go.Maps
theorem oneF_pos (kind : Int) (l : List UInt8) (h : (oneF kind l).2 = 0) : (oneF kind l).1 ≠ 0 := by
  unfold oneF at h ⊢
  split at h
  · split at h
    · cases h
    rename_i h1 h2; rw [if_pos h1, if_neg h2]; exact h2
  cases h
set_option maxHeartbeats 1000000 in
theorem so_fresh (w0 : World) (L : List Nat) (i : Ids) (E : Int) (kh k : Nat) (S : Sx) (s : ByteArray) (w : World) (h : RM w0 w L i E kh k S) (hs : s.size ≤ 1048576) :
    Calls Tryz.prog 113 #[.pointer (some ⟨i.rb, 0, none⟩), .string s] w (OutW S.line w (Value.int .u16) (freshR S.fl s)) := by
  obtain ⟨hbd, v, hm⟩ := h
  have hO := so_One S.fl.kind s w (by unfold maxLen; omega)
  obtain ⟨b0, b1⟩ := oneF_bd S.fl.kind s.data.toList
  have hz := oneF_pos S.fl.kind s.data.toList
  unfold freshR
  obtain ⟨⟨f, e⟩, hF⟩ : ∃ r, oneF S.fl.kind s.data.toList = r := ⟨_, rfl⟩
  rw [hF] at hO b0 b1 hz ⊢
  dsimp only at hO b0 b1 hz ⊢
  have HO := Lib.hid hO
  have HM := Lib.hid hm
  have c0 := hm.r0
  have g0 := hm.f0
  clear hO hF hm hbd
  by_cases he : e = 0
  · subst he
    have hf0 := hz rfl
    rw [if_neg (by simp)]
    clear hz
    have HT : Hid (takenF S.fl f = if definedB S.fl f = true then 1 else 0) := Lib.hid (by unfold takenF; rw [if_neg hf0])
    cases hq : definedB S.fl f
    · have HQ := Lib.hid hq
      clear hq hf0
      rw [if_neg (by simp)]
      go_enter Tryz.func113, Tryz.ntmps113
      go_wp2_with fail
      refine HO.out.mono ?_
      rintro e w1 ⟨rfl, n, hw⟩
      have HB : Hid (Below w.heap.size w w1) := Lib.hid (by rw [hw]; exact below_drewN (Below.refl _ _) n)
      clear hw
      go_wp2_with fail
      refine (so_need i.rb S.line 0 _ (HM.out.below HB.out).r2).mono ?_
      rintro e w' ⟨⟨-, rfl⟩ | ⟨h, -⟩, rfl⟩
      · have c5 := (HM.out.below HB.out).r5
        have hlk := (HM.out.below HB.out).taken.look f ⟨b0, b1⟩
        rw [HT.out, HQ.out, if_neg (by simp)] at hlk
        go_wp2_with fail
        refine (so_must i.rb S.line _ _ _ (by decide) (HM.out.below HB.out).r2).mono ?_
        rintro e w' ⟨⟨-, rfl⟩ | ⟨h, -⟩, rfl⟩
        · go_wp2_with fail
          go_ret
          exact ⟨HB.out, rfl⟩
        exact absurd h (by decide)
      exact absurd h (by decide)
    have HQ := Lib.hid hq
    clear hq hf0
    rw [if_pos rfl]
    go_enter Tryz.func113, Tryz.ntmps113
    go_wp2_with fail
    refine HO.out.mono ?_
    rintro e w1 ⟨rfl, n, hw⟩
    have HB : Hid (Below w.heap.size w w1) := Lib.hid (by rw [hw]; exact below_drewN (Below.refl _ _) n)
    clear hw
    go_wp2_with fail
    refine (so_need i.rb S.line 0 _ (HM.out.below HB.out).r2).mono ?_
    rintro e w' ⟨⟨-, rfl⟩ | ⟨h, -⟩, rfl⟩
    · have c5 := (HM.out.below HB.out).r5
      have hlk := (HM.out.below HB.out).taken.look f ⟨b0, b1⟩
      rw [HT.out, HQ.out, if_pos rfl] at hlk
      go_wp2_with fail
      refine (so_must i.rb S.line _ _ _ (by decide) (HM.out.below HB.out).r2).mono ?_
      rintro e w' ⟨⟨h, -⟩ | ⟨-, rfl⟩, rfl⟩
      · exact absurd h (by decide)
      exact ⟨rfl, HB.out, rfl⟩
    exact absurd h (by decide)
  have he2 : (e == 0) = false := by simpa using he
  rw [if_pos he]
  have HE := Lib.hid he2
  clear he he2 hz
  go_enter Tryz.func113, Tryz.ntmps113
  go_wp2_with fail
  refine HO.out.mono ?_
  rintro e' w1 ⟨rfl, n, hw⟩
  have HB : Hid (Below w.heap.size w w1) := Lib.hid (by rw [hw]; exact below_drewN (Below.refl _ _) n)
  clear hw
  go_wp2_with fail
  refine (so_need i.rb S.line e _ (HM.out.below HB.out).r2).mono ?_
  rw [HE.out]
  rintro e' w' ⟨⟨h, -⟩ | ⟨-, rfl⟩, rfl⟩
  · cases h
  exact ⟨rfl, HB.out, rfl⟩
end Go.Proofs.YtfkblpjfknfgbaaGreatDoor
namespace Go.Proofs.YtfkblpjfknfgbaaGreatDoor
open Go.RowKit Go.Maps
theorem rows_split {w0 : World} {v : Value} {l : Int} {row : List ByteArray} {rest : List Row} (h : RowsM w0 v ((l, row) :: rest)) :
    ∃ g o cap fv, v = .slice (some ⟨g, o, none⟩) (rest.length + 1) cap ∧ rest.length + 1 ≤ cap ∧ w0.cell? ⟨g, o, none⟩ = some (.int .i64 l) ∧ w0.cell? ⟨g, o + 1, none⟩ = some fv ∧ Rd w0 1 fv row.length (strV row) ∧
      RowsM w0 (.slice (some ⟨g, o + 2, none⟩) rest.length (cap - 1)) rest ∧ (rest.length = 0 → ∀ p c, RowsM w0 (.slice p 0 c) rest) := by
  obtain ⟨rs, ha, hr, hd⟩ := h
  rcases rs with _ | ⟨r0, rs⟩
  · simp [rowAbs] at ha
  have ha2 : (r0.1, r0.2.2) :: rowAbs rs = (l, row) :: rest := by simpa [rowAbs] using ha
  injection ha2 with h1 h2
  injection h1 with h3 h4
  subst h3 h4
  have hlen : rest.length = rs.length := by rw [← h2]; simp [rowAbs]
  obtain ⟨hl, A, cap, rfl, hcap, hc⟩ := hr
  obtain ⟨g, o, rfl, hc2⟩ := hc.resolve_left (by simp)
  have hcs : rowCells (r0 :: rs) = .int .i64 r0.1 :: r0.2.1 :: rowCells rs := by simp [rowCells]
  rw [hcs] at hc2
  refine ⟨g, o, cap, r0.2.1, by rw [hlen]; rfl, by rw [hlen]; exact hcap, by simpa using hc2 0 _ rfl, by simpa using hc2 1 _ rfl, (hd r0 (by simp)).rd, ⟨rs, h2, ⟨?_, some ⟨g, o + 2, none⟩, cap - 1, by rw [hlen], by simp at hcap; omega, .inr ⟨g, o + 2, rfl, fun j u hj => ?_⟩⟩, fun r hr => hd r (by simp [hr])⟩, fun h0 p c => ⟨[], by rw [← h2, List.eq_nil_of_length_eq_zero (hlen.symm.trans h0)], ⟨rfl, p, c, rfl, Nat.zero_le _, .inl rfl⟩, fun r hr => by cases hr⟩⟩
  · have : (rowCells (r0 :: rs)).length = (r0 :: rs).length * 2 := hl
    rw [hcs] at this
    simp at this ⊢
    omega
  have := hc2 (j + 2) u (by simpa using hj)
  rwa [show o + (j + 2) = o + 2 + j by omega] at this
theorem Bd.take {kh k : Nat} {S : Sx} {l : Int} {row : List ByteArray} {rest : List Row} (h : Bd kh k S) (hr : S.rows = (l, row) :: rest) : Bd (kh + 1) (k + 1) { S with rows := rest, line := l } := by
  have hlen : S.rows.length = rest.length + 1 := by rw [hr]; rfl
  have h1 := h.heads
  have h2 := h.reps
  have h3 := h.als
  have h4 := h.cls
  have h5 := h.rls
  have hrow := h.row (l, row) (by rw [hr]; simp)
  rw [hlen] at h1 h2 h3 h4 h5
  exact ⟨fun r hrr => h.row r (by rw [hr]; simp [hrr]), by show S.heads.length + rest.length + (kh + 1) ≤ 65536; omega, h.headS, by show S.fl.reps.length + rest.length + (k + 1) ≤ 65536; omega, by show S.fl.als.length + rest.length + (k + 1) ≤ 65536; omega, by show S.fl.cls.length + rest.length + (k + 1) ≤ 65536; omega, by show S.fl.rls.length + rest.length + (k + 1) ≤ 65536; omega, h.flags, h.sets, h.nexts, h.kind, h.sp, ⟨hrow.2.2.2.1, by have := hrow.2.2.2.2; show l ≤ _; omega⟩⟩
set_option maxHeartbeats 1000000 in
set_option maxRecDepth 100000 in
theorem so_take (w0 : World) (L : List Nat) (i : Ids) (E : Int) (kh k : Nat) (S : Sx) (l : Int) (row : List ByteArray) (rest : List Row) (w : World) (h : RM w0 w L i E kh k S) (hr : S.rows = (l, row) :: rest) :
    Calls Tryz.prog 45 #[.pointer (some ⟨i.rb, 0, none⟩)] w fun e w' => ∃ fv, e = .returned fv ∧ Rd w0 1 fv row.length (strV row) ∧ RM w0 w' L i E (kh + 1) (k + 1) { S with rows := rest, line := l } ∧ Go2 L w L w' := by
  obtain ⟨hbd, v, hm⟩ := h
  have hrows := hm.rows
  rw [hr] at hrows
  obtain ⟨g, o, cap, fv, hv, hcap, hc0, hc1, hfv, hr1, hr2⟩ := rows_split hrows
  have hlen : rest.length + 1 ≤ 65536 := by have := hbd.heads; rw [hr] at this; simp at this; omega
  have d0 := (hm.base.cell (World.block_lt_of_cell? w0 _ hc0)).trans hc0
  have d1 := (hm.base.cell (World.block_lt_of_cell? w0 _ hc1)).trans hc1
  have c1 := hm.r1
  rw [hv] at c1
  have c2 := hm.r2
  have z1 := hm.rz 1
  have z2 := hm.rz 2
  have hlt : i.rb < w.heap.size := (hm.hl _ hm.rbL).2
  have hne : ¬ i.rb = w.heap.size := by omega
  have hne2 : ¬ w.heap.size = i.rb := by omega
  have HM := Lib.hid hm
  have HBD := Lib.hid (hbd.take hr)
  have HR1 := Lib.hid hr1
  have HR2 := Lib.hid hr2
  have HF := Lib.hid hfv
  obtain ⟨-, A, cp, rfl, -, -⟩ := hfv
  clear hm hbd hr1 hr2 hrows hr hc0 hc1 hv
  have key : ∀ u, RowsM w0 u rest → RM w0 (((w.setCell ⟨i.rb, 1, none⟩ u).setCell ⟨i.rb, 2, none⟩ (.int .i64 l)).alloc (.cells #[.int .i64 l, .slice A row.length cp] 133)) L i E (kh + 1) (k + 1) { S with rows := rest, line := l } ∧
      Go2 L w L (((w.setCell ⟨i.rb, 1, none⟩ u).setCell ⟨i.rb, 2, none⟩ (.int .i64 l)).alloc (.cells #[.int .i64 l, .slice A row.length cp] 133)) := by
    intro u hu
    have hb := (Below.refl _ ((w.setCell ⟨i.rb, 1, none⟩ u).setCell ⟨i.rb, 2, none⟩ (.int .i64 l))).alloc (Nat.le_refl _) (.cells #[.int .i64 l, .slice A row.length cp] 133)
    exact ⟨⟨HBD.out, _, ((HM.out.setRows u rest hu).setLine l).below hb⟩, ⟨(((Kept.refl L w).set _ _ _ (.inl HM.out.rbL)).set _ _ _ (.inl HM.out.rbL)).trans (Kept.of_below hb), fun x hx => .inl hx⟩⟩
  have KEY := Lib.hid key
  clear key
  by_cases hcc : cap = 1
  · go_enter Tryz.func45, Tryz.ntmps45
    go_wp2_with fail
    go_ret
    have h0 : rest.length = 0 := by omega
    exact ⟨_, rfl, HF.out, KEY.out _ (by have := HR2.out h0 (some ⟨g, o, none⟩) 0; rwa [h0])⟩
  go_enter Tryz.func45, Tryz.ntmps45
  go_wp2_with fail
  go_ret
  exact ⟨_, rfl, HF.out, KEY.out _ HR1.out⟩
end Go.Proofs.YtfkblpjfknfgbaaGreatDoor
namespace Go.Proofs.YtfkblpjfknfgbaaGreatDoor
open Go.RowKit Go.Maps
theorem take_snocS {xs ys : List ByteArray} {k : Nat} (h1 : k < xs.length) (h2 : k < ys.length) (h : xs.take k = ys.take k) (he : xs[k] = ys[k]) : xs.take (k + 1) = ys.take (k + 1) := by
  rw [List.take_add_one, List.take_add_one, List.getElem?_eq_getElem h1, List.getElem?_eq_getElem h2, h, he]
theorem str_neq (s t : ByteArray) (h : s ≠ t) : (s.toList == t.toList) = false := by rw [beq_str, decide_eq_false_iff_not]; exact h
set_option maxHeartbeats 2000000 in
set_option maxRecDepth 100000 in
theorem so_EqualS (v u : Value) (xs ys : List ByteArray) (w : World) (h : Rd w 1 v xs.length (strV xs)) (hu : Rd w 1 u ys.length (strV ys)) (hx : xs.length ≤ 1048576) (hy : ys.length ≤ 1048576) :
    Calls Tryz.prog 150 #[v, u] w fun e w' => e = .returned (.bool (decide (xs = ys))) ∧ Below w.heap.size w w' := by
  obtain ⟨-, A, c, rfl, hc, h2⟩ := h
  obtain ⟨-, A', c', rfl, hc', h2'⟩ := hu
  have H1 := Lib.hid h2
  have H2 := Lib.hid h2'
  clear h2 h2'
  by_cases hl : xs.length = ys.length
  · have hq : ((xs.length : Int) != (ys.length : Int)) = false := by rw [hl]; simp
    have HL := Lib.hid hl
    clear hl
    go_enter Tryz.func150, Tryz.ntmps150
    go_wp2_with fail
    go_loopw [5, 13] (fun _ i wr => ∃ k : Nat, k ≤ xs.length ∧ i = .int .i64 k ∧ Hid (xs.take k = ys.take k) ∧ Hid (Below w.heap.size w wr)) (fun _ i _ => xs.length - (intOf i).toNat)
    case atStart => exact ⟨0, Nat.zero_le _, rfl, Lib.hid rfl, Below.refl _ _⟩
    case round =>
    obtain ⟨k, hk, rfl, HT, HB⟩ := hrel
    by_cases hlt : k < xs.length
    · have hlt2 : k < ys.length := by have := HL.out; omega
      obtain ⟨g, o, rfl, hcx⟩ := H1.out.resolve_left (by omega)
      obtain ⟨g', o', rfl, hcy⟩ := H2.out.resolve_left (by omega)
      have e1 := hcx k _ (strV_get xs k hlt)
      have e2 := hcy k _ (strV_get ys k hlt2)
      have d1 := (HB.out.cell (World.block_lt_of_cell? w _ e1)).trans e1
      have d2 := (HB.out.cell (World.block_lt_of_cell? w _ e2)).trans e2
      clear e1 e2 hcx hcy
      by_cases he : xs[k] = ys[k]
      · have HN := Lib.hid (take_snocS hlt hlt2 HT.out he)
        rw [← he] at d2
        clear he
        go_wp2_with fail
        go_quiet (fail)
        go_wp2_with fail
        go_roundw
        case rel => exact ⟨k + 1, by omega, by go_num, HN, below_drewN HB.out _⟩
        case measure => simp [intOf]; omega
      have hne := str_neq xs[k] ys[k] he
      have HN : Hid (decide (xs = ys) = false) := Lib.hid (by rw [decide_eq_false_iff_not]; rintro rfl; exact he rfl)
      clear he
      go_wp2_with fail
      go_quiet (fail)
      go_wp2_with fail
      go_ret
      exact ⟨ret_bool HN.out.symm, below_drewN HB.out _⟩
    obtain rfl : k = xs.length := by omega
    have HN : Hid (decide (xs = ys) = true) := Lib.hid (by
      rw [decide_eq_true_iff]
      have := HT.out
      rwa [List.take_of_length_le (Nat.le_refl _), List.take_of_length_le (by rw [HL.out]; exact Nat.le_refl _)] at this)
    go_wp2_with fail
    go_ret
    exact ⟨ret_bool HN.out.symm, HB.out⟩
  have hq : ((xs.length : Int) != (ys.length : Int)) = true := by rw [bne_iff_ne]; omega
  have HN : Hid (decide (xs = ys) = false) := Lib.hid (by rw [decide_eq_false_iff_not]; rintro rfl; exact hl rfl)
  clear hl
  go_enter Tryz.func150, Tryz.ntmps150
  go_wp2_with fail
  go_ret
  exact ⟨ret_bool HN.out.symm, Below.refl _ _⟩
end Go.Proofs.YtfkblpjfknfgbaaGreatDoor
