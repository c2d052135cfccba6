/- Plain facts: tokens as what they declare. Plain facts: the first fault stays, and nothing is taken behind it. Plain facts: each of the parser's functions goes on over the tokens, or tells a fault. -/
import Derived.Test.YtpcfdngnmigkfaaGreatDoorLxPlain
set_option linter.unusedVariables false
set_option linter.unusedSimpArgs false
namespace Go.Proofs.YtpcfdngnmigkfaaGreatDoor.Sx
open Lx (Bs Tok)
structure Fld where
 name : Bs
 typ : Bs
 mapKey : Bs
 key : Bs
 label : Nat
 number : Nat
 packed : Nat
 oneof : Nat
 line : Nat
 col : Nat
deriving DecidableEq
structure Val where
 name : Bs
 number : Int
 line : Nat
 col : Nat
deriving DecidableEq
structure Enm where
 name : Bs
 values : List Val
 line : Nat
 col : Nat
deriving DecidableEq
structure Rng where
 lo : Nat
 hi : Nat
deriving DecidableEq
inductive Msg where
 | mk (name : Bs) (fields : List Fld) (oneofs : List Bs) (msgs : List Msg) (enums : List Enm) (reserved : List Rng) (names : List Bs) (line col : Nat) : Msg
structure Fil where
 pack : Bs
 msgs : List Msg
 enums : List Enm
structure St where
 pos : Nat
 err : Option (Nat × Nat × Nat)
def bPacked : Bs := [112, 97, 99, 107, 101, 100]
def bKey : Bs := [107, 101, 121]
def bTrue : Bs := [116, 114, 117, 101]
def bFalse : Bs := [102, 97, 108, 115, 101]
def bTo : Bs := [116, 111]
def bMax : Bs := [109, 97, 120]
def bMap : Bs := [109, 97, 112]
def bMessage : Bs := [109, 101, 115, 115, 97, 103, 101]
def bEnum : Bs := [101, 110, 117, 109]
def bOneof : Bs := [111, 110, 101, 111, 102]
def bReserved : Bs := [114, 101, 115, 101, 114, 118, 101, 100]
def bRepeated : Bs := [114, 101, 112, 101, 97, 116, 101, 100]
def bOptional : Bs := [111, 112, 116, 105, 111, 110, 97, 108]
def bSyntax : Bs := [115, 121, 110, 116, 97, 120]
def bPackage : Bs := [112, 97, 99, 107, 97, 103, 101]
def bProto3 : Bs := [112, 114, 111, 116, 111, 51]
def zTok : Tok := ⟨0, [], 0, 0, 0⟩
def St.next (s : St) : St := ⟨s.pos + 1, s.err⟩
def St.back (s : St) : St := ⟨s.pos - 1, s.err⟩
variable (ts : List Tok)
def peek (s : St) : Tok := if s.err.isSome then zTok else (ts[s.pos]?).getD zTok
def fail (s : St) : St := if s.err.isSome then s else ⟨s.pos, some (9, (peek ts s).line, (peek ts s).col)⟩
def of (k : Nat) (s : St) : Tok × St := if (peek ts s).kind = k then (peek ts s, s.next) else (zTok, fail ts s)
def sees (k : Nat) (t : Bs) (s : St) : Bool := decide ((peek ts s).kind = k ∧ (peek ts s).text = t)
def takes (k : Nat) (t : Bs) (s : St) : Bool × St := if sees ts k t s then (true, s.next) else (false, s)
def must (k : Nat) (t : Bs) (s : St) : St := if sees ts k t s then s.next else fail ts s
def sign (b : UInt8) (s : St) : St := must ts 4 [b] s
def dots : Nat → Bs → St → Bs × St
 | 0, a, s => (a, s)
 | n + 1, a, s => if sees ts 4 [46] s then dots n (a ++ ([46] ++ (of ts 1 s.next).1.text)) (of ts 1 s.next).2 else (a, s)
def dotted (s : St) : Bs × St := dots ts (ts.length + 1) (of ts 1 s).1.text (of ts 1 s).2
def typ (s : St) : Bs × St := if sees ts 4 [46] s then ([46] ++ (dotted ts s.next).1, (dotted ts s.next).2) else dotted ts s
def option (f : Fld) (s : St) : Fld × St :=
 if f.packed = 0 ∧ sees ts 1 bPacked s = true then
  if sees ts 1 bTrue (sign ts 61 s.next) then ({ f with packed := 1 }, (sign ts 61 s.next).next)
  else ({ f with packed := 2 }, must ts 1 bFalse (sign ts 61 s.next))
 else if f.key = [] ∧ sees ts 1 bKey s = true then ({ f with key := (of ts 1 (sign ts 61 s.next)).1.text }, (of ts 1 (sign ts 61 s.next)).2)
 else (f, fail ts s)
def options : Nat → Fld → St → Fld × St
 | 0, f, s => (f, s)
 | n + 1, f, s => if sees ts 4 [44] s then options n (option ts f s.next).1 (option ts f s.next).2 else (f, s)
def restN (f : Fld) (s : St) : Fld × St :=
 ({ f with name := (of ts 1 s).1.text, line := (of ts 1 s).1.line, col := (of ts 1 s).1.col, number := (of ts 2 (sign ts 61 (of ts 1 s).2)).1.num }, (of ts 2 (sign ts 61 (of ts 1 s).2)).2)
def restO (f : Fld) (s : St) : Fld × St :=
 if sees ts 4 [91] s then ((options ts (ts.length + 1) (option ts f s.next).1 (option ts f s.next).2).1, sign ts 93 (options ts (ts.length + 1) (option ts f s.next).1 (option ts f s.next).2).2) else (f, s)
def rest (f : Fld) (s : St) : Fld × St :=
 ((restO ts (restN ts f s).1 (restN ts f s).2).1, sign ts 59 (restO ts (restN ts f s).1 (restN ts f s).2).2)
def zFld : Fld := ⟨[], [], [], [], 0, 0, 0, 0, 0, 0⟩
def field (label oneof : Nat) (s : St) : Fld × St := rest ts { zFld with label := label, oneof := oneof, typ := (typ ts s).1 } (typ ts s).2
def mapK (s : St) : Bs × St := ((of ts 1 (sign ts 60 s)).1.text, sign ts 44 (of ts 1 (sign ts 60 s)).2)
def mapped (s : St) : Fld × St := rest ts { zFld with label := 4, mapKey := (mapK ts s).1, typ := (typ ts (mapK ts s).2).1 } (sign ts 62 (typ ts (mapK ts s).2).2)
def semis : Nat → St → St
 | 0, s => s
 | n + 1, s => if sees ts 4 [59] s then semis n s.next else s
def more (s : St) : Bool × St :=
 if (semis ts (ts.length + 1) s).err.isSome then (false, semis ts (ts.length + 1) s)
 else if sees ts 4 [125] (semis ts (ts.length + 1) s) then (false, (semis ts (ts.length + 1) s).next) else (true, semis ts (ts.length + 1) s)
def oneofs : Nat → Nat → List Fld → St → List Fld × St
 | 0, k, l, s => (l, s)
 | n + 1, k, l, s => if (more ts s).1 then oneofs n k (l ++ [(field ts 1 k (more ts s).2).1]) (field ts 1 k (more ts s).2).2 else (l, (more ts s).2)
def early (had : Bool) (s : St) : St := if s.err.isSome then s else if had then s else fail ts s.back
def oneof : Msg → St → Msg × St
 | .mk nm fs os ms es rs ns li co, s =>
  let a := of ts 1 s
  let r := oneofs ts (ts.length + 2) (os.length + 1) fs (sign ts 123 a.2)
  (.mk nm r.1 (os ++ [a.1.text]) ms es rs ns li co, early ts (decide (r.1.length ≠ fs.length)) r.2)
def resNames : Nat → List Bs → St → List Bs × St
 | 0, l, s => (l, s)
 | n + 1, l, s => if sees ts 4 [44] (of ts 3 s).2 then resNames n (l ++ [(of ts 3 s).1.text]) (of ts 3 s).2.next else (l ++ [(of ts 3 s).1.text], (of ts 3 s).2)
def range (s : St) : Rng × St :=
 let a := of ts 2 s
 if sees ts 1 bTo a.2 then
  if sees ts 1 bMax a.2.next then (⟨a.1.num, 536870911⟩, a.2.next.next)
  else (⟨a.1.num, (of ts 2 a.2.next).1.num⟩, (of ts 2 a.2.next).2)
 else (⟨a.1.num, a.1.num⟩, a.2)
def resRanges : Nat → List Rng → St → List Rng × St
 | 0, l, s => (l, s)
 | n + 1, l, s => if sees ts 4 [44] (range ts s).2 then resRanges n (l ++ [(range ts s).1]) (range ts s).2.next else (l ++ [(range ts s).1], (range ts s).2)
def reserved : Msg → St → Msg × St
 | .mk nm fs os ms es rs ns li co, s =>
  if (peek ts s).kind = 3 then (.mk nm fs os ms es rs (resNames ts (ts.length + 2) ns s).1 li co, sign ts 59 (resNames ts (ts.length + 2) ns s).2)
  else (.mk nm fs os ms es (resRanges ts (ts.length + 2) rs s).1 ns li co, sign ts 59 (resRanges ts (ts.length + 2) rs s).2)
def value (s : St) : Val × St :=
 let a := of ts 1 s
 let b := takes ts 4 [45] (sign ts 61 a.2)
 let c := of ts 2 b.2
 (⟨a.1.text, if b.1 then -(c.1.num : Int) else c.1.num, a.1.line, a.1.col⟩, sign ts 59 c.2)
def values : Nat → List Val → St → List Val × St
 | 0, l, s => (l, s)
 | n + 1, l, s => if (more ts s).1 then values n (l ++ [(value ts (more ts s).2).1]) (value ts (more ts s).2).2 else (l, (more ts s).2)
def enum (s : St) : Enm × St :=
 let a := of ts 1 s
 let r := values ts (ts.length + 2) [] (sign ts 123 a.2)
 (⟨a.1.text, r.1, a.1.line, a.1.col⟩, early ts (decide (r.1 ≠ [])) r.2)
def Msg.addF (f : Fld) : Msg → Msg
 | .mk nm fs os ms es rs ns li co => .mk nm (fs ++ [f]) os ms es rs ns li co
def Msg.addM : Msg → Msg → Msg
 | .mk nm fs os ms es rs ns li co, k => .mk nm fs os (ms ++ [k]) es rs ns li co
def Msg.addE (e : Enm) : Msg → Msg
 | .mk nm fs os ms es rs ns li co => .mk nm fs os ms (es ++ [e]) rs ns li co
def deepAt (deep : Nat) (t : Tok) (s : St) : St := if s.err.isSome then s else if 8 ≤ deep then ⟨s.pos, some (8, t.line, t.col)⟩ else s
def messageBy (B : Nat → Msg → St → Msg × St) (deep : Nat) (s : St) : Msg × St :=
 B deep (.mk (of ts 1 s).1.text [] [] [] [] [] [] (of ts 1 s).1.line (of ts 1 s).1.col) (sign ts 123 (deepAt deep (of ts 1 s).1 (of ts 1 s).2))
def part (B : Nat → Msg → St → Msg × St) (deep : Nat) (m : Msg) (s : St) : Msg × St :=
 if sees ts 1 bMessage s then (m.addM (messageBy ts B (deep + 1) s.next).1, (messageBy ts B (deep + 1) s.next).2)
 else if sees ts 1 bEnum s then (m.addE (enum ts s.next).1, (enum ts s.next).2)
 else if sees ts 1 bOneof s then oneof ts m s.next
 else if sees ts 1 bReserved s then reserved ts m s.next
 else if sees ts 1 bRepeated s then (m.addF (field ts 3 0 s.next).1, (field ts 3 0 s.next).2)
 else if sees ts 1 bOptional s then (m.addF (field ts 2 0 s.next).1, (field ts 2 0 s.next).2)
 else if sees ts 1 bMap s = true ∧ sees ts 4 [60] s.next = true then (m.addF (mapped ts s.next).1, (mapped ts s.next).2)
 else (m.addF (field ts 1 0 s).1, (field ts 1 0 s).2)
def parts : Nat → Nat → Msg → St → Msg × St
 | 0, deep, m, s => (m, s)
 | n + 1, deep, m, s => if (more ts s).1 then parts n deep (part ts (parts n) deep m (more ts s).2).1 (part ts (parts n) deep m (more ts s).2).2 else (m, (more ts s).2)
def message (deep : Nat) (s : St) : Msg × St := messageBy ts (parts ts (ts.length + 2)) deep s
def headV (s : St) : St := if (peek ts s).kind = 3 ∧ (peek ts s).text = bProto3 then s else fail ts s
def head (s : St) : Bs × St :=
 let a := sign ts 59 (of ts 3 (headV ts (sign ts 61 (must ts 1 bSyntax s)))).2
 if sees ts 1 bPackage a then ((dotted ts a.next).1, sign ts 59 (dotted ts a.next).2) else ([], a)
def files : Nat → Fil → St → Fil × St
 | 0, f, s => (f, s)
 | n + 1, f, s =>
  if s.err.isSome ∨ ts.length ≤ s.pos then (f, s)
  else if sees ts 4 [59] s then files n f s.next
  else if sees ts 1 bMessage s then files n { f with msgs := f.msgs ++ [(message ts 0 s.next).1] } (message ts 0 s.next).2
  else if sees ts 1 bEnum s then files n { f with enums := f.enums ++ [(enum ts s.next).1] } (enum ts s.next).2
  else files n f (fail ts s)
def parse : Fil × Option (Nat × Nat × Nat) :=
 let h := head ts ⟨0, none⟩
 let r := files ts (ts.length + 2) ⟨h.1, [], []⟩ h.2
 if r.2.err.isSome then (⟨[], [], []⟩, r.2.err) else (r.1, none)
end Go.Proofs.YtpcfdngnmigkfaaGreatDoor.Sx
namespace Go.Proofs.YtpcfdngnmigkfaaGreatDoor.Sx
open Lx (Bs Tok)
variable (ts : List Tok) {s : St}
theorem stuck_peek (h : s.err.isSome = true) : peek ts s = zTok := by unfold peek; rw [if_pos h]
theorem stuck_sees (h : s.err.isSome = true) {k : Nat} (hk : k ≠ 0) (t : Bs) : sees ts k t s = false := by
 unfold sees; rw [stuck_peek ts h]; exact decide_eq_false (fun e => hk e.1.symm)
theorem stuck_fail (h : s.err.isSome = true) : fail ts s = s := by unfold fail; rw [if_pos h]
theorem stuck_of (h : s.err.isSome = true) {k : Nat} (hk : k ≠ 0) : of ts k s = (zTok, s) := by
 unfold of; rw [stuck_peek ts h, stuck_fail ts h, if_neg (show ¬ zTok.kind = k from fun e => hk e.symm)]
theorem stuck_must (h : s.err.isSome = true) {k : Nat} (hk : k ≠ 0) (t : Bs) : must ts k t s = s := by
 unfold must; rw [stuck_sees ts h hk, stuck_fail ts h]; rfl
theorem stuck_sign (h : s.err.isSome = true) (b : UInt8) : sign ts b s = s := stuck_must ts h (by decide) _
theorem stuck_dots (h : s.err.isSome = true) (n : Nat) (a : Bs) : dots ts n a s = (a, s) := by
 cases n with
 | zero => rfl
 | succ n => rw [dots, stuck_sees ts h (by decide)]; rfl
theorem stuck_dotted (h : s.err.isSome = true) : dotted ts s = ([], s) := by
 unfold dotted; rw [stuck_of ts h (by decide), stuck_dots ts h]; rfl
theorem stuck_typ (h : s.err.isSome = true) : typ ts s = ([], s) := by
 unfold typ; rw [stuck_sees ts h (by decide), stuck_dotted ts h]; rfl
theorem stuck_options (h : s.err.isSome = true) (n : Nat) (f : Fld) : options ts n f s = (f, s) := by
 cases n with
 | zero => rfl
 | succ n => rw [options, stuck_sees ts h (by decide)]; rfl
theorem stuck_restN (h : s.err.isSome = true) (f : Fld) : (restN ts f s).2 = s := by
 unfold restN; simp only; rw [stuck_of ts h (by decide), stuck_sign ts h, stuck_of ts h (by decide)]
theorem stuck_restO (h : s.err.isSome = true) (f : Fld) : restO ts f s = (f, s) := by
 unfold restO; rw [stuck_sees ts h (by decide)]; rfl
theorem stuck_rest (h : s.err.isSome = true) (f : Fld) : (rest ts f s).2 = s := by
 unfold rest; simp only; rw [stuck_restN ts h, stuck_restO ts h, stuck_sign ts h]
theorem stuck_semis (h : s.err.isSome = true) (n : Nat) : semis ts n s = s := by
 cases n with
 | zero => rfl
 | succ n => rw [semis, stuck_sees ts h (by decide)]; rfl
theorem stuck_more (h : s.err.isSome = true) : more ts s = (false, s) := by
 unfold more; rw [stuck_semis ts h, if_pos h]
theorem stuck_oneofs (h : s.err.isSome = true) (n k : Nat) (l : List Fld) : oneofs ts n k l s = (l, s) := by
 cases n with
 | zero => rfl
 | succ n => rw [oneofs, stuck_more ts h]; rfl
theorem stuck_early (h : s.err.isSome = true) (b : Bool) : early ts b s = s := by unfold early; rw [if_pos h]
theorem stuck_values (h : s.err.isSome = true) (n : Nat) (l : List Val) : values ts n l s = (l, s) := by
 cases n with
 | zero => rfl
 | succ n => rw [values, stuck_more ts h]; rfl
theorem stuck_deepAt (h : s.err.isSome = true) (d : Nat) (t : Tok) : deepAt d t s = s := by unfold deepAt; rw [if_pos h]
theorem stuck_parts (h : s.err.isSome = true) (n d : Nat) (m : Msg) : parts ts n d m s = (m, s) := by
 cases n with
 | zero => rfl
 | succ n => rw [parts, stuck_more ts h]; rfl
end Go.Proofs.YtpcfdngnmigkfaaGreatDoor.Sx
namespace Go.Proofs.YtpcfdngnmigkfaaGreatDoor.Sx
open Lx (Bs Tok)
def GoesN (n : Nat) (s s' : St) : Prop := s'.err = none → s.err = none ∧ s.pos + n ≤ s'.pos
theorem GoesN.trans {n m : Nat} {a b c : St} (h : GoesN n a b) (k : GoesN m b c) : GoesN (n + m) a c := fun e => by
 have h1 := k e
 have h2 := h h1.1
 exact ⟨h2.1, by omega⟩
theorem GoesN.mono {n m : Nat} {a b : St} (h : GoesN n a b) (hm : m ≤ n) : GoesN m a b := fun e => by
 have h1 := h e
 exact ⟨h1.1, by omega⟩
theorem GoesN.then {n m k : Nat} {a b c : St} (h : GoesN n a b) (q : GoesN m b c) (hk : k ≤ n + m) : GoesN k a c := (h.trans q).mono hk
theorem GoesN.refl (s : St) : GoesN 0 s s := fun e => ⟨e, Nat.le_refl _⟩
theorem GoesN.next (s : St) : GoesN 1 s s.next := fun e => ⟨e, Nat.le_refl _⟩
variable (ts : List Tok)
theorem fail_goes (n : Nat) (s : St) : GoesN n s (fail ts s) := fun e => by
 unfold fail at e
 split at e
 ·rename_i h; rw [e] at h; cases h
 ·cases e
theorem of_go (k : Nat) (s : St) : GoesN 1 s (of ts k s).2 := by
 unfold of; split
 ·exact GoesN.next s
 ·exact fail_goes ts 1 s
theorem must_go (k : Nat) (t : Bs) (s : St) : GoesN 1 s (must ts k t s) := by
 unfold must; split
 ·exact GoesN.next s
 ·exact fail_goes ts 1 s
theorem sign_go (b : UInt8) (s : St) : GoesN 1 s (sign ts b s) := must_go ts _ _ s
theorem dots_go : ∀ (n : Nat) (a : Bs) (s : St), GoesN 0 s (dots ts n a s).2
 | 0, a, s => GoesN.refl s
 | n + 1, a, s => by
  rw [dots]; split
  ·exact (((GoesN.next s).trans (of_go ts 1 s.next)).trans (dots_go n _ _)).mono (by omega)
  ·exact GoesN.refl s
theorem dotted_go (s : St) : GoesN 1 s (dotted ts s).2 := (of_go ts 1 s).then (dots_go ts _ _ _) (by omega)
theorem typ_go (s : St) : GoesN 1 s (typ ts s).2 := by
 unfold typ; split
 ·exact (GoesN.next s).then (dotted_go ts _) (by omega)
 ·exact dotted_go ts s
theorem option_go (f : Fld) (s : St) : GoesN 1 s (option ts f s).2 := by
 unfold option; split
 ·split
  ·exact (GoesN.next s).then ((sign_go ts 61 s.next).then (GoesN.next _) (Nat.le_refl _)) (by omega)
  ·exact (GoesN.next s).then ((sign_go ts 61 s.next).then (must_go ts _ _ _) (Nat.le_refl _)) (by omega)
 ·split
  ·exact (GoesN.next s).then ((sign_go ts 61 s.next).then (of_go ts _ _) (Nat.le_refl _)) (by omega)
  ·exact fail_goes ts 1 s
theorem options_go : ∀ (n : Nat) (f : Fld) (s : St), GoesN 0 s (options ts n f s).2
 | 0, f, s => GoesN.refl s
 | n + 1, f, s => by
  rw [options]; split
  ·exact (((GoesN.next s).trans (option_go ts f s.next)).trans (options_go n _ _)).mono (by omega)
  ·exact GoesN.refl s
theorem restN_go (f : Fld) (s : St) : GoesN 3 s (restN ts f s).2 := ((of_go ts 1 s).trans (sign_go ts 61 _)).trans (of_go ts 2 _)
theorem restO_go (f : Fld) (s : St) : GoesN 0 s (restO ts f s).2 := by
 unfold restO; split
 ·exact (((GoesN.next s).trans (option_go ts f s.next)).trans (options_go ts _ _ _)).then (sign_go ts 93 _) (by omega)
 ·exact GoesN.refl s
theorem rest_go (f : Fld) (s : St) : GoesN 1 s (rest ts f s).2 := ((restN_go ts f s).trans (restO_go ts _ _)).then (sign_go ts 59 _) (by omega)
theorem field_go (a b : Nat) (s : St) : GoesN 1 s (field ts a b s).2 := (typ_go ts s).then (rest_go ts _ _) (by omega)
theorem mapK_go (s : St) : GoesN 1 s (mapK ts s).2 := ((sign_go ts 60 s).trans (of_go ts 1 _)).then (sign_go ts 44 _) (by omega)
theorem mapped_go (s : St) : GoesN 1 s (mapped ts s).2 := ((mapK_go ts s).trans (typ_go ts _)).then ((sign_go ts 62 _).trans (rest_go ts _ _)) (by omega)
theorem semis_go : ∀ (n : Nat) (s : St), GoesN 0 s (semis ts n s)
 | 0, s => GoesN.refl s
 | n + 1, s => by
  rw [semis]; split
  ·exact (GoesN.next s).then (semis_go n s.next) (by omega)
  ·exact GoesN.refl s
theorem more_go (s : St) : GoesN 0 s (more ts s).2 := by
 unfold more; split
 ·exact semis_go ts _ s
 ·split
  ·exact (semis_go ts _ s).then (GoesN.next _) (by omega)
  ·exact semis_go ts _ s
theorem more_err {s : St} (h : (more ts s).1 = true) : (more ts s).2.err = none := by
 unfold more at h ⊢
 split at h
 ·cases h
 ·rename_i h1
  rw [if_neg h1]
  split at h
  ·cases h
  ·rename_i h2
   rw [if_neg h2]
   simpa using h1
theorem more_end {s : St} (h : (more ts s).1 = false) (he : (more ts s).2.err = none) : 1 ≤ (more ts s).2.pos := by
 unfold more at h he ⊢
 split at h
 ·rename_i h1
  rw [if_pos h1] at he
  dsimp only at he
  rw [he] at h1; cases h1
 ·rename_i h1
  split at h
  ·rename_i h2
   rw [if_neg h1, if_pos h2]
   exact Nat.le_add_left 1 _
  ·cases h
theorem early_go (b : Bool) (s : St) : GoesN 0 s (early ts b s) := by
 unfold early; split
 ·exact GoesN.refl s
 ·split
  ·exact GoesN.refl s
  ·rename_i h1 h2
   exact fun e => ⟨by simpa using h1, by
    have := (fail_goes ts 1 s.back e).2
    have h3 : s.back.pos = s.pos - 1 := rfl
    omega⟩
theorem range_go (s : St) : GoesN 1 s (range ts s).2 := by
 unfold range; dsimp only; split
 ·split
  ·exact (of_go ts 2 s).then ((GoesN.next _).trans (GoesN.next _)) (by omega)
  ·exact (of_go ts 2 s).then ((GoesN.next _).trans (of_go ts 2 _)) (by omega)
 ·exact of_go ts 2 s
theorem takes_go (k : Nat) (t : Bs) (s : St) : GoesN 0 s (takes ts k t s).2 := by
 unfold takes; split
 ·exact (GoesN.next s).mono (by omega)
 ·exact GoesN.refl s
theorem value_go (s : St) : GoesN 1 s (value ts s).2 := by
 unfold value; dsimp only
 exact (((of_go ts 1 s).trans (sign_go ts 61 _)).trans (takes_go ts 4 [45] _)).then ((of_go ts 2 _).trans (sign_go ts 59 _)) (by omega)
theorem values_go : ∀ (n : Nat) (l : List Val) (s : St), GoesN 0 s (values ts n l s).2
 | 0, l, s => GoesN.refl s
 | n + 1, l, s => by
  rw [values]; split
  ·exact (((more_go ts s).trans (value_go ts _)).trans (values_go n _ _)).mono (by omega)
  ·exact more_go ts s
theorem enum_go (s : St) : GoesN 1 s (enum ts s).2 := by
 unfold enum; dsimp only
 exact ((of_go ts 1 s).trans (sign_go ts 123 _)).then ((values_go ts _ _ _).trans (early_go ts _ _)) (by omega)
theorem deepAt_go (d : Nat) (t : Tok) (s : St) : GoesN 0 s (deepAt d t s) := by
 unfold deepAt; split
 ·exact GoesN.refl s
 ·split
  ·intro e; cases e
  ·exact GoesN.refl s
theorem oneofs_go : ∀ (n k : Nat) (l : List Fld) (s : St), GoesN 0 s (oneofs ts n k l s).2
 | 0, k, l, s => GoesN.refl s
 | n + 1, k, l, s => by
  rw [oneofs]; split
  ·exact (((more_go ts s).trans (field_go ts _ _ _)).trans (oneofs_go n _ _ _)).mono (by omega)
  ·exact more_go ts s
theorem oneof_go (m : Msg) (s : St) : GoesN 1 s (oneof ts m s).2 := by
 obtain ⟨nm, fs, os, ms, es, rs, ns, li, co⟩ := m
 unfold oneof; dsimp only
 exact ((of_go ts 1 s).trans (sign_go ts 123 _)).then ((oneofs_go ts _ _ _ _).trans (early_go ts _ _)) (by omega)
theorem resNames_go : ∀ (n : Nat) (l : List Bs) (s : St), GoesN 0 s (resNames ts n l s).2
 | 0, l, s => GoesN.refl s
 | n + 1, l, s => by
  rw [resNames]; split
  ·exact (((of_go ts 3 s).trans (GoesN.next _)).trans (resNames_go n _ _)).mono (by omega)
  ·exact (of_go ts 3 s).mono (by omega)
theorem resRanges_go : ∀ (n : Nat) (l : List Rng) (s : St), GoesN 0 s (resRanges ts n l s).2
 | 0, l, s => GoesN.refl s
 | n + 1, l, s => by
  rw [resRanges]; split
  ·exact (((range_go ts s).trans (GoesN.next _)).trans (resRanges_go n _ _)).mono (by omega)
  ·exact (range_go ts s).mono (by omega)
theorem reserved_go (m : Msg) (s : St) : GoesN 1 s (reserved ts m s).2 := by
 obtain ⟨nm, fs, os, ms, es, rs, ns, li, co⟩ := m
 unfold reserved; dsimp only; split
 ·exact (resNames_go ts _ _ s).then (sign_go ts 59 _) (by omega)
 ·exact (resRanges_go ts _ _ s).then (sign_go ts 59 _) (by omega)
theorem messageBy_go {B : Nat → Msg → St → Msg × St} (hB : ∀ d m s, GoesN 0 s (B d m s).2) (deep : Nat) (s : St) : GoesN 1 s (messageBy ts B deep s).2 := by
 unfold messageBy
 exact ((of_go ts 1 s).trans (deepAt_go _ _ _)).then ((sign_go ts 123 _).trans (hB _ _ _)) (by omega)
theorem part_go {B : Nat → Msg → St → Msg × St} (hB : ∀ d m s, GoesN 0 s (B d m s).2) (deep : Nat) (m : Msg) (s : St) : GoesN 1 s (part ts B deep m s).2 := by
 have h1 := (GoesN.next s).then (messageBy_go ts hB (deep + 1) s.next) (k := 1) (by omega)
 have h2 := (GoesN.next s).then (enum_go ts s.next) (k := 1) (by omega)
 have h3 := (GoesN.next s).then (oneof_go ts m s.next) (k := 1) (by omega)
 have h4 := (GoesN.next s).then (reserved_go ts m s.next) (k := 1) (by omega)
 have h5 := (GoesN.next s).then (field_go ts 3 0 s.next) (k := 1) (by omega)
 have h6 := (GoesN.next s).then (field_go ts 2 0 s.next) (k := 1) (by omega)
 have h7 := (GoesN.next s).then (mapped_go ts s.next) (k := 1) (by omega)
 have h8 := field_go ts 1 0 s
 unfold part
 generalize messageBy ts B (deep + 1) s.next = r1 at *
 generalize enum ts s.next = r2 at *
 generalize oneof ts m s.next = r3 at *
 generalize reserved ts m s.next = r4 at *
 generalize field ts 3 0 s.next = r5 at *
 generalize field ts 2 0 s.next = r6 at *
 generalize mapped ts s.next = r7 at *
 generalize field ts 1 0 s = r8 at *
 split
 ·exact h1
 ·split
  ·exact h2
  ·split
   ·exact h3
   ·split
    ·exact h4
    ·split
     ·exact h5
     ·split
      ·exact h6
      ·split
       ·exact h7
       ·exact h8
theorem parts_go (n : Nat) : ∀ (d : Nat) (m : Msg) (s : St), GoesN 0 s (parts ts n d m s).2 := by
 induction n with
 | zero => exact fun d m s => GoesN.refl s
 | succ n ih =>
  intro d m s
  have h := more_go ts s
  have h2 := part_go ts (B := parts ts n) ih d m (more ts s).2
  have h3 := ih d (part ts (parts ts n) d m (more ts s).2).1 (part ts (parts ts n) d m (more ts s).2).2
  unfold parts
  generalize part ts (parts ts n) d m (more ts s).2 = r at *
  generalize more ts s = q at *
  obtain ⟨b, s1⟩ := q
  cases b
  ·exact h
  ·exact (h.trans h2).then h3 (by omega)
theorem oneofs_step {n k : Nat} {l : List Fld} {s : St} {O : List Fld × St} (h : O = oneofs ts n k l s) (hF : s.err = none → ts.length + 2 ≤ s.pos + n) (hp : s.pos ≤ ts.length) :
  ((more ts s).1 = false → O = (l, (more ts s).2)) ∧ ((more ts s).1 = true → ∃ n', n = n' + 1 ∧ O = oneofs ts n' k (l ++ [(field ts 1 k (more ts s).2).1]) (field ts 1 k (more ts s).2).2 ∧ (more ts s).2.err = none ∧ ts.length + 2 ≤ (more ts s).2.pos + n) := by
 have hg := more_go ts s
 constructor
 ·intro hm
  cases n with
  | succ n => rw [h, oneofs, hm]; rfl
  | zero =>
   have he : s.err.isSome = true := by
    cases he : s.err with
    | none => have := hF he; omega
    | some x => rfl
   rw [h, stuck_oneofs ts he, stuck_more ts he]
 ·intro hm
  have he := more_err ts hm
  have h2 := hg he
  have h3 := hF h2.1
  obtain ⟨n', rfl⟩ : ∃ n', n = n' + 1 := ⟨n - 1, by omega⟩
  refine ⟨n', rfl, ?_, he, by omega⟩
  rw [h, oneofs, hm]; rfl
theorem parts_step {n d : Nat} {m : Msg} {s : St} {O : Msg × St} (h : O = parts ts n d m s) (hF : s.err = none → ts.length + 2 ≤ s.pos + n) (hp : s.pos ≤ ts.length) :
  ((more ts s).1 = false → O = (m, (more ts s).2)) ∧ ((more ts s).1 = true → ∃ n', n = n' + 1 ∧ O = parts ts n' d (part ts (parts ts n') d m (more ts s).2).1 (part ts (parts ts n') d m (more ts s).2).2 ∧ (more ts s).2.err = none ∧ ts.length + 2 ≤ (more ts s).2.pos + n) := by
 have hg := more_go ts s
 constructor
 ·intro hm
  cases n with
  | succ n => rw [h, parts, hm]; rfl
  | zero =>
   have he : s.err.isSome = true := by
    cases he : s.err with
    | none => have := hF he; omega
    | some x => rfl
   rw [h, stuck_parts ts he, stuck_more ts he]
 ·intro hm
  have he := more_err ts hm
  have h2 := hg he
  have h3 := hF h2.1
  obtain ⟨n', rfl⟩ : ∃ n', n = n' + 1 := ⟨n - 1, by omega⟩
  refine ⟨n', rfl, ?_, he, by omega⟩
  rw [h, parts, hm]; rfl
def Fit (n : Nat) (s : St) : Prop := (s.err = none → n ≤ s.pos) ∧ n ≤ ts.length + 1
variable {ts}
theorem Fit.go {n : Nat} {s s' : St} (h : Fit ts n s) (g : GoesN 0 s s') : Fit ts n s' := ⟨fun e => by have h1 := g e; have h2 := h.1 h1.1; omega, h.2⟩
theorem Fit.push {n : Nat} {s s' : St} (h : Fit ts n s) (he : s.err = none) (hp : s.pos ≤ ts.length) (g : GoesN 1 s s') : Fit ts (n + 1) s' := ⟨fun e => by have h1 := g e; have h2 := h.1 h1.1; omega, by have := h.1 he; omega⟩
theorem Fit.zero (s : St) : Fit ts 0 s := ⟨fun _ => Nat.zero_le _, Nat.zero_le _⟩
end Go.Proofs.YtpcfdngnmigkfaaGreatDoor.Sx
