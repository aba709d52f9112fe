/- States told in another way: less, by other names, own slices as slices that are read, nil slices as own ones. -/
import Derived.Test.YtfjdhdmbbfeigaaAmM
namespace Go.Proofs.Ytfjdhdmbbfeigaa.Am
set_option linter.unusedVariables false
set_option linter.unusedSimpArgs false
/-- What is as one state says is as the other one says. -/
def Sub (st st' : St) : Prop := ∀ (E : Ent) (m : Mp) (a : Act) (w : World), OK E st m a w → ∃ m', OK E st' m' a w
theorem Sub.refl (st : St) : Sub st st := fun E m a w h => ⟨m, h⟩
theorem Sub.trans {a b c : St} (h : Sub a b) (k : Sub b c) : Sub a c := fun E m ac w o => by
  obtain ⟨m', o'⟩ := h E m ac w o
  exact k E m' ac w o'
theorem AW.sub {ρ : Option Nat} {P : Program} {N : Nat} {c : Code} {st st' : St} {Q : Exit → St → Prop} (hs : Sub st st') (h : AW ρ P N c st' Q) : AW ρ P N c st Q := fun E m a w hN ho => by
  obtain ⟨m', o'⟩ := hs E m a w ho
  exact h E m' a w hN o'
/-- Names told anew. -/
def reCap (mp : List (Nat × Nat)) : List (Nat × Nat) → Option (List (Nat × Nat))
  | [] => some []
  | (b, o) :: r => match lk mp b, reCap mp r with | some c, some l => some ((c, o) :: l) | _, _ => none
def reSV (mp : List (Nat × Nat)) : SV → Option SV
  | .own b sz => match lk mp b with | some c => some (.own c sz) | none => none
  | .sub b sz off len => match lk mp b with | some c => some (.sub c sz off len) | none => none
  | .ptr b off => match lk mp b with | some c => some (.ptr c off) | none => none
  | .ep b sz i fo => match lk mp b with | some c => some (.ep c sz i fo) | none => none
  | .map b => match lk mp b with | some c => some (.map c) | none => none
  | .fn f cap => match reCap mp cap with | some l => some (.fn f l) | none => none
  | .bm f b o => match lk mp b with | some c => some (.bm f c o) | none => none
  | .yld b cap => match lk mp b, mapO (lk mp) cap with | some c, some l => some (.yld c l) | _, _ => none
  | x => some x
def reCV (mp : List (Nat × Nat)) (x : CV) : Option CV := match mapO (reSV mp) x.l with | some l => some ⟨x.g, l⟩ | none => none
def reAV (mp : List (Nat × Nat)) : AV → Option AV
  | .c x => match reCV mp x with | some y => some (.c y) | none => none
  | .t xs => match mapO (reCV mp) xs with | some ys => some (.t ys) | none => none
def reBlk (mp : List (Nat × Nat)) : Blk → Option Blk
  | .row ty t l => some (.row ty t l)
  | .var ty cs => match mapO (reSV mp) cs with | some l => some (.var ty l) | none => none
  | .map a b c d l => some (.map a b c d l)
  | .tab l => match mapO (fun p => match reSV mp p.1, reCV mp p.2 with | some x, some y => some (x, y) | _, _ => none) l with | some r => some (.tab r) | none => none
  | .lop k tm j => match mapO (fun p => match reAV mp p.2 with | some v => some (p.1, v) | none => none) tm with | some l => some (.lop k l j) | none => none
/-- The map of names behind: a new name lies where the old one lay. -/
def inv (mp : List (Nat × Nat)) : List (Nat × Nat) := mp.map fun p => (p.2, p.1)
def Mp.re (m : Mp) (mp : List (Nat × Nat)) : Mp :=
  let o := fun c => (lk (inv mp) c).getD c
  { m with mu := fun c => m.mu (o c), ka := fun c => m.ka (o c), le := fun c => m.le (o c), nl := fun c => m.nl (o c) }
/-- Old names, and new ones, are all unlike. -/
def mpOk (mp : List (Nat × Nat)) : Bool := nodupN (mp.map (·.1)) && (nodupN (mp.map (·.2)) && mp.all fun p => Nat.beq p.1 p.2 || Nat.ble 100 p.2)
end Go.Proofs.Ytfjdhdmbbfeigaa.Am
