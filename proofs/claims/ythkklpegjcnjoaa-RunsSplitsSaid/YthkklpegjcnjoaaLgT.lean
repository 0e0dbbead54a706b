/- A part of the proof: no condition but those that each theorem states. -/
import Derived.Test.YthkklpegjcnjoaaLgB
import Derived.Test.YthkklpegjcnjoaaChecked
import Derived.KernelRfl
set_option linter.unusedVariables false
set_option linter.unusedSimpArgs false
namespace Go.Proofs.Ythkklpegjcnjoaa
open Go.Ab
instance:TCell Try.prog 3:=⟨by kernel_rfl,by kernel_rfl⟩
instance:TZero Try.prog 3 [(.int .i64 0)]:=⟨by kernel_rfl⟩
instance:TNoIface Try.prog 3:=⟨⟨_,Try.underlying3,fun _ h=>by cases h⟩⟩
theorem tinfo3:(Try.prog.info? 3).map (fun i=>(i.size,i.bytes))=some (1,8):=by kernel_rfl
instance:TInfo Try.prog 3 1 8:=tinfo_of tinfo3
instance:TCell Try.prog 4:=⟨by kernel_rfl,by kernel_rfl⟩
instance:TZero Try.prog 4 [(.bool false)]:=⟨by kernel_rfl⟩
instance:TNoIface Try.prog 4:=⟨⟨_,Try.underlying4,fun _ h=>by cases h⟩⟩
theorem tinfo4:(Try.prog.info? 4).map (fun i=>(i.size,i.bytes))=some (1,1):=by kernel_rfl
instance:TInfo Try.prog 4 1 1:=tinfo_of tinfo4
instance:TCell Try.prog 9:=⟨by kernel_rfl,by kernel_rfl⟩
instance:TZero Try.prog 9 [(.string ⟨#[]⟩)]:=⟨by kernel_rfl⟩
instance:TNoIface Try.prog 9:=⟨⟨_,Try.underlying9,fun _ h=>by cases h⟩⟩
theorem tinfo9:(Try.prog.info? 9).map (fun i=>(i.size,i.bytes))=some (1,16):=by kernel_rfl
instance:TInfo Try.prog 9 1 16:=tinfo_of tinfo9
instance:TSlice Try.prog 23 3 1:=⟨Try.underlying23,by kernel_rfl⟩
instance:TCell Try.prog 23:=⟨by kernel_rfl,by kernel_rfl⟩
instance:TZero Try.prog 23 [(.slice none 0 0)]:=⟨by kernel_rfl⟩
instance:TNoIface Try.prog 23:=⟨⟨_,Try.underlying23,fun _ h=>by cases h⟩⟩
theorem tinfo23:(Try.prog.info? 23).map (fun i=>(i.size,i.bytes))=some (1,24):=by kernel_rfl
instance:TInfo Try.prog 23 1 24:=tinfo_of tinfo23
instance:TCell Try.prog 28:=⟨by kernel_rfl,by kernel_rfl⟩
instance:TZero Try.prog 28 [(.int .i64 0)]:=⟨by kernel_rfl⟩
instance:TNoIface Try.prog 28:=⟨⟨_,Try.underlying28,fun _ h=>by cases h⟩⟩
theorem tinfo28:(Try.prog.info? 28).map (fun i=>(i.size,i.bytes))=some (1,8):=by kernel_rfl
instance:TInfo Try.prog 28 1 8:=tinfo_of tinfo28
instance:TCell Try.prog 34:=⟨by kernel_rfl,by kernel_rfl⟩
instance:TZero Try.prog 34 [.nilFunc]:=⟨by kernel_rfl⟩
instance:TNoIface Try.prog 34:=⟨⟨_,Try.underlying34,fun _ h=>by cases h⟩⟩
theorem tinfo34:(Try.prog.info? 34).map (fun i=>(i.size,i.bytes))=some (1,8):=by kernel_rfl
instance:TInfo Try.prog 34 1 8:=tinfo_of tinfo34
instance:TSlice Try.prog 37 39 2:=⟨Try.underlying37,by kernel_rfl⟩
instance:TCell Try.prog 37:=⟨by kernel_rfl,by kernel_rfl⟩
instance:TZero Try.prog 37 [(.slice none 0 0)]:=⟨by kernel_rfl⟩
instance:TNoIface Try.prog 37:=⟨⟨_,Try.underlying37,fun _ h=>by cases h⟩⟩
theorem tinfo37:(Try.prog.info? 37).map (fun i=>(i.size,i.bytes))=some (1,24):=by kernel_rfl
instance:TInfo Try.prog 37 1 24:=tinfo_of tinfo37
instance:TArr Try.prog 39 2 3 1:=⟨Try.underlying39,by kernel_rfl⟩
instance:TAgg Try.prog 39 2:=⟨by kernel_rfl,by kernel_rfl⟩
instance:TZero Try.prog 39 [(.int .i64 0),(.int .i64 0)]:=⟨by kernel_rfl⟩
instance:TNoIface Try.prog 39:=⟨⟨_,Try.underlying39,fun _ h=>by cases h⟩⟩
theorem tinfo39:(Try.prog.info? 39).map (fun i=>(i.size,i.bytes))=some (2,16):=by kernel_rfl
instance:TInfo Try.prog 39 2 16:=tinfo_of tinfo39
instance:TSlice Try.prog 40 48 4:=⟨Try.underlying40,by kernel_rfl⟩
instance:TCell Try.prog 40:=⟨by kernel_rfl,by kernel_rfl⟩
instance:TZero Try.prog 40 [(.slice none 0 0)]:=⟨by kernel_rfl⟩
instance:TNoIface Try.prog 40:=⟨⟨_,Try.underlying40,fun _ h=>by cases h⟩⟩
theorem tinfo40:(Try.prog.info? 40).map (fun i=>(i.size,i.bytes))=some (1,24):=by kernel_rfl
instance:TInfo Try.prog 40 1 24:=tinfo_of tinfo40
instance:TFld Try.prog 48 0 0:=⟨⟨_,_,0,Try.underlying48,rfl,by kernel_rfl,rfl⟩⟩
instance:TFld1 Try.prog 48 0 0:=⟨⟨_,_,Try.underlying48,rfl,by kernel_rfl,rfl⟩⟩
instance:TFld Try.prog 48 1 1:=⟨⟨_,_,0,Try.underlying48,rfl,by kernel_rfl,rfl⟩⟩
instance:TFld1 Try.prog 48 1 1:=⟨⟨_,_,Try.underlying48,rfl,by kernel_rfl,rfl⟩⟩
instance:TFld Try.prog 48 2 2:=⟨⟨_,_,0,Try.underlying48,rfl,by kernel_rfl,rfl⟩⟩
instance:TFld1 Try.prog 48 2 2:=⟨⟨_,_,Try.underlying48,rfl,by kernel_rfl,rfl⟩⟩
instance:TFld Try.prog 48 3 3:=⟨⟨_,_,0,Try.underlying48,rfl,by kernel_rfl,rfl⟩⟩
instance:TFld1 Try.prog 48 3 3:=⟨⟨_,_,Try.underlying48,rfl,by kernel_rfl,rfl⟩⟩
instance:TPlaces Try.prog 48 [(0,1),(1,1),(2,1),(3,1)]:=⟨⟨_,Try.underlying48,by kernel_rfl⟩⟩
instance:TAgg Try.prog 48 4:=⟨by kernel_rfl,by kernel_rfl⟩
instance:TZero Try.prog 48 [(.int .i64 0),(.int .i64 0),(.int .i64 0),(.int .i64 0)]:=⟨by kernel_rfl⟩
instance:TNoIface Try.prog 48:=⟨⟨_,Try.underlying48,fun _ h=>by cases h⟩⟩
theorem tinfo48:(Try.prog.info? 48).map (fun i=>(i.size,i.bytes))=some (4,32):=by kernel_rfl
instance:TInfo Try.prog 48 4 32:=tinfo_of tinfo48
instance:TCell Try.prog 51:=⟨by kernel_rfl,by kernel_rfl⟩
instance:TZero Try.prog 51 [(.pointer none)]:=⟨by kernel_rfl⟩
instance:TNoIface Try.prog 51:=⟨⟨_,Try.underlying51,fun _ h=>by cases h⟩⟩
theorem tinfo51:(Try.prog.info? 51).map (fun i=>(i.size,i.bytes))=some (1,8):=by kernel_rfl
instance:TInfo Try.prog 51 1 8:=tinfo_of tinfo51
instance:TFld Try.prog 53 0 0:=⟨⟨_,_,0,Try.underlying53,rfl,by kernel_rfl,rfl⟩⟩
instance:TFld1 Try.prog 53 0 0:=⟨⟨_,_,Try.underlying53,rfl,by kernel_rfl,rfl⟩⟩
instance:TFld Try.prog 53 1 1:=⟨⟨_,_,0,Try.underlying53,rfl,by kernel_rfl,rfl⟩⟩
instance:TFld1 Try.prog 53 1 1:=⟨⟨_,_,Try.underlying53,rfl,by kernel_rfl,rfl⟩⟩
instance:TFld Try.prog 53 2 2:=⟨⟨_,_,0,Try.underlying53,rfl,by kernel_rfl,rfl⟩⟩
instance:TFld1 Try.prog 53 2 2:=⟨⟨_,_,Try.underlying53,rfl,by kernel_rfl,rfl⟩⟩
instance:TFld Try.prog 53 3 3:=⟨⟨_,_,0,Try.underlying53,rfl,by kernel_rfl,rfl⟩⟩
instance:TFld1 Try.prog 53 3 3:=⟨⟨_,_,Try.underlying53,rfl,by kernel_rfl,rfl⟩⟩
instance:TFld Try.prog 53 4 4:=⟨⟨_,_,0,Try.underlying53,rfl,by kernel_rfl,rfl⟩⟩
instance:TFld1 Try.prog 53 4 4:=⟨⟨_,_,Try.underlying53,rfl,by kernel_rfl,rfl⟩⟩
instance:TFld Try.prog 53 5 5:=⟨⟨_,_,0,Try.underlying53,rfl,by kernel_rfl,rfl⟩⟩
instance:TFld1 Try.prog 53 5 5:=⟨⟨_,_,Try.underlying53,rfl,by kernel_rfl,rfl⟩⟩
instance:TPlaces Try.prog 53 [(0,1),(1,1),(2,1),(3,1),(4,1),(5,1)]:=⟨⟨_,Try.underlying53,by kernel_rfl⟩⟩
instance:TAgg Try.prog 53 6:=⟨by kernel_rfl,by kernel_rfl⟩
instance:TZero Try.prog 53 [(.slice none 0 0),(.slice none 0 0),(.slice none 0 0),(.slice none 0 0),(.slice none 0 0),(.int .i64 0)]:=⟨by kernel_rfl⟩
instance:TNoIface Try.prog 53:=⟨⟨_,Try.underlying53,fun _ h=>by cases h⟩⟩
theorem tinfo53:(Try.prog.info? 53).map (fun i=>(i.size,i.bytes))=some (6,128):=by kernel_rfl
instance:TInfo Try.prog 53 6 128:=tinfo_of tinfo53
instance:TSlice Try.prog 55 57 1:=⟨Try.underlying55,by kernel_rfl⟩
instance:TCell Try.prog 55:=⟨by kernel_rfl,by kernel_rfl⟩
instance:TZero Try.prog 55 [(.slice none 0 0)]:=⟨by kernel_rfl⟩
instance:TNoIface Try.prog 55:=⟨⟨_,Try.underlying55,fun _ h=>by cases h⟩⟩
theorem tinfo55:(Try.prog.info? 55).map (fun i=>(i.size,i.bytes))=some (1,24):=by kernel_rfl
instance:TInfo Try.prog 55 1 24:=tinfo_of tinfo55
instance:TCell Try.prog 57:=⟨by kernel_rfl,by kernel_rfl⟩
instance:TZero Try.prog 57 [(.pointer none)]:=⟨by kernel_rfl⟩
instance:TNoIface Try.prog 57:=⟨⟨_,Try.underlying57,fun _ h=>by cases h⟩⟩
theorem tinfo57:(Try.prog.info? 57).map (fun i=>(i.size,i.bytes))=some (1,8):=by kernel_rfl
instance:TInfo Try.prog 57 1 8:=tinfo_of tinfo57
instance:TFld Try.prog 59 0 0:=⟨⟨_,_,0,Try.underlying59,rfl,by kernel_rfl,rfl⟩⟩
instance:TFld1 Try.prog 59 0 0:=⟨⟨_,_,Try.underlying59,rfl,by kernel_rfl,rfl⟩⟩
instance:TFld Try.prog 59 1 1:=⟨⟨_,_,0,Try.underlying59,rfl,by kernel_rfl,rfl⟩⟩
instance:TFld1 Try.prog 59 1 1:=⟨⟨_,_,Try.underlying59,rfl,by kernel_rfl,rfl⟩⟩
instance:TFld Try.prog 59 2 2:=⟨⟨_,_,0,Try.underlying59,rfl,by kernel_rfl,rfl⟩⟩
instance:TFld1 Try.prog 59 2 2:=⟨⟨_,_,Try.underlying59,rfl,by kernel_rfl,rfl⟩⟩
instance:TPlaces Try.prog 59 [(0,1),(1,1),(2,1)]:=⟨⟨_,Try.underlying59,by kernel_rfl⟩⟩
instance:TAgg Try.prog 59 3:=⟨by kernel_rfl,by kernel_rfl⟩
instance:TZero Try.prog 59 [(.int .i64 0),(.int .i64 0),(.int .i64 0)]:=⟨by kernel_rfl⟩
instance:TNoIface Try.prog 59:=⟨⟨_,Try.underlying59,fun _ h=>by cases h⟩⟩
theorem tinfo59:(Try.prog.info? 59).map (fun i=>(i.size,i.bytes))=some (3,24):=by kernel_rfl
instance:TInfo Try.prog 59 3 24:=tinfo_of tinfo59
instance:TCell Try.prog 65:=⟨by kernel_rfl,by kernel_rfl⟩
instance:TZero Try.prog 65 [(.pointer none)]:=⟨by kernel_rfl⟩
instance:TNoIface Try.prog 65:=⟨⟨_,Try.underlying65,fun _ h=>by cases h⟩⟩
theorem tinfo65:(Try.prog.info? 65).map (fun i=>(i.size,i.bytes))=some (1,8):=by kernel_rfl
instance:TInfo Try.prog 65 1 8:=tinfo_of tinfo65
instance:TSlice Try.prog 66 72 3:=⟨Try.underlying66,by kernel_rfl⟩
instance:TCell Try.prog 66:=⟨by kernel_rfl,by kernel_rfl⟩
instance:TZero Try.prog 66 [(.slice none 0 0)]:=⟨by kernel_rfl⟩
instance:TNoIface Try.prog 66:=⟨⟨_,Try.underlying66,fun _ h=>by cases h⟩⟩
theorem tinfo66:(Try.prog.info? 66).map (fun i=>(i.size,i.bytes))=some (1,24):=by kernel_rfl
instance:TInfo Try.prog 66 1 24:=tinfo_of tinfo66
instance:TFld Try.prog 68 0 0:=⟨⟨_,_,0,Try.underlying68,rfl,by kernel_rfl,rfl⟩⟩
instance:TFld1 Try.prog 68 0 0:=⟨⟨_,_,Try.underlying68,rfl,by kernel_rfl,rfl⟩⟩
instance:TFld Try.prog 68 1 1:=⟨⟨_,_,0,Try.underlying68,rfl,by kernel_rfl,rfl⟩⟩
instance:TFld1 Try.prog 68 1 1:=⟨⟨_,_,Try.underlying68,rfl,by kernel_rfl,rfl⟩⟩
instance:TFld Try.prog 68 2 2:=⟨⟨_,_,0,Try.underlying68,rfl,by kernel_rfl,rfl⟩⟩
instance:TFld1 Try.prog 68 2 2:=⟨⟨_,_,Try.underlying68,rfl,by kernel_rfl,rfl⟩⟩
instance:TFld Try.prog 68 3 3:=⟨⟨_,_,0,Try.underlying68,rfl,by kernel_rfl,rfl⟩⟩
instance:TFld1 Try.prog 68 3 3:=⟨⟨_,_,Try.underlying68,rfl,by kernel_rfl,rfl⟩⟩
instance:TFld Try.prog 68 4 4:=⟨⟨_,_,0,Try.underlying68,rfl,by kernel_rfl,rfl⟩⟩
instance:TFld1 Try.prog 68 4 4:=⟨⟨_,_,Try.underlying68,rfl,by kernel_rfl,rfl⟩⟩
instance:TPlaces Try.prog 68 [(0,1),(1,1),(2,1),(3,1),(4,1)]:=⟨⟨_,Try.underlying68,by kernel_rfl⟩⟩
instance:TAgg Try.prog 68 5:=⟨by kernel_rfl,by kernel_rfl⟩
instance:TZero Try.prog 68 [(.pointer none),(.slice none 0 0),(.int .i64 0),(.int .i64 0),(.int .i64 0)]:=⟨by kernel_rfl⟩
instance:TNoIface Try.prog 68:=⟨⟨_,Try.underlying68,fun _ h=>by cases h⟩⟩
theorem tinfo68:(Try.prog.info? 68).map (fun i=>(i.size,i.bytes))=some (5,56):=by kernel_rfl
instance:TInfo Try.prog 68 5 56:=tinfo_of tinfo68
instance:TCell Try.prog 70:=⟨by kernel_rfl,by kernel_rfl⟩
instance:TZero Try.prog 70 [.nilFunc]:=⟨by kernel_rfl⟩
instance:TNoIface Try.prog 70:=⟨⟨_,Try.underlying70,fun _ h=>by cases h⟩⟩
theorem tinfo70:(Try.prog.info? 70).map (fun i=>(i.size,i.bytes))=some (1,8):=by kernel_rfl
instance:TInfo Try.prog 70 1 8:=tinfo_of tinfo70
instance:TFld Try.prog 72 0 0:=⟨⟨_,_,0,Try.underlying72,rfl,by kernel_rfl,rfl⟩⟩
instance:TFld1 Try.prog 72 0 0:=⟨⟨_,_,Try.underlying72,rfl,by kernel_rfl,rfl⟩⟩
instance:TFld Try.prog 72 1 1:=⟨⟨_,_,0,Try.underlying72,rfl,by kernel_rfl,rfl⟩⟩
instance:TFld1 Try.prog 72 1 1:=⟨⟨_,_,Try.underlying72,rfl,by kernel_rfl,rfl⟩⟩
instance:TFld Try.prog 72 2 2:=⟨⟨_,_,0,Try.underlying72,rfl,by kernel_rfl,rfl⟩⟩
instance:TFld1 Try.prog 72 2 2:=⟨⟨_,_,Try.underlying72,rfl,by kernel_rfl,rfl⟩⟩
instance:TPlaces Try.prog 72 [(0,1),(1,1),(2,1)]:=⟨⟨_,Try.underlying72,by kernel_rfl⟩⟩
instance:TAgg Try.prog 72 3:=⟨by kernel_rfl,by kernel_rfl⟩
instance:TZero Try.prog 72 [(.int .i64 0),(.int .i64 0),(.bool false)]:=⟨by kernel_rfl⟩
instance:TNoIface Try.prog 72:=⟨⟨_,Try.underlying72,fun _ h=>by cases h⟩⟩
theorem tinfo72:(Try.prog.info? 72).map (fun i=>(i.size,i.bytes))=some (3,24):=by kernel_rfl
instance:TInfo Try.prog 72 3 24:=tinfo_of tinfo72
instance:TMap Try.prog 74 3 57 (.int .i64):=⟨Try.underlying74,Try.underlying3⟩
instance:TCell Try.prog 74:=⟨by kernel_rfl,by kernel_rfl⟩
instance:TZero Try.prog 74 [(.map none)]:=⟨by kernel_rfl⟩
instance:TNoIface Try.prog 74:=⟨⟨_,Try.underlying74,fun _ h=>by cases h⟩⟩
theorem tinfo74:(Try.prog.info? 74).map (fun i=>(i.size,i.bytes))=some (1,8):=by kernel_rfl
instance:TInfo Try.prog 74 1 8:=tinfo_of tinfo74
instance:TFld Try.prog 76 0 0:=⟨⟨_,_,0,Try.underlying76,rfl,by kernel_rfl,rfl⟩⟩
instance:TFld1 Try.prog 76 0 0:=⟨⟨_,_,Try.underlying76,rfl,by kernel_rfl,rfl⟩⟩
instance:TFld Try.prog 76 1 1:=⟨⟨_,_,0,Try.underlying76,rfl,by kernel_rfl,rfl⟩⟩
instance:TFld1 Try.prog 76 1 1:=⟨⟨_,_,Try.underlying76,rfl,by kernel_rfl,rfl⟩⟩
instance:TFld Try.prog 76 2 2:=⟨⟨_,_,0,Try.underlying76,rfl,by kernel_rfl,rfl⟩⟩
instance:TFld1 Try.prog 76 2 2:=⟨⟨_,_,Try.underlying76,rfl,by kernel_rfl,rfl⟩⟩
instance:TFld Try.prog 76 3 3:=⟨⟨_,_,0,Try.underlying76,rfl,by kernel_rfl,rfl⟩⟩
instance:TFld1 Try.prog 76 3 3:=⟨⟨_,_,Try.underlying76,rfl,by kernel_rfl,rfl⟩⟩
instance:TFld Try.prog 76 4 4:=⟨⟨_,_,0,Try.underlying76,rfl,by kernel_rfl,rfl⟩⟩
instance:TFld1 Try.prog 76 4 4:=⟨⟨_,_,Try.underlying76,rfl,by kernel_rfl,rfl⟩⟩
instance:TPlaces Try.prog 76 [(0,1),(1,1),(2,1),(3,1),(4,1)]:=⟨⟨_,Try.underlying76,by kernel_rfl⟩⟩
instance:TAgg Try.prog 76 5:=⟨by kernel_rfl,by kernel_rfl⟩
instance:TZero Try.prog 76 [(.pointer none),(.slice none 0 0),(.int .i64 0),(.int .i64 0),(.int .i64 0)]:=⟨by kernel_rfl⟩
instance:TNoIface Try.prog 76:=⟨⟨_,Try.underlying76,fun _ h=>by cases h⟩⟩
theorem tinfo76:(Try.prog.info? 76).map (fun i=>(i.size,i.bytes))=some (5,56):=by kernel_rfl
instance:TInfo Try.prog 76 5 56:=tinfo_of tinfo76
instance:TCell Try.prog 100:=⟨by kernel_rfl,by kernel_rfl⟩
instance:TZero Try.prog 100 [.nilFunc]:=⟨by kernel_rfl⟩
instance:TNoIface Try.prog 100:=⟨⟨_,Try.underlying100,fun _ h=>by cases h⟩⟩
theorem tinfo100:(Try.prog.info? 100).map (fun i=>(i.size,i.bytes))=some (1,8):=by kernel_rfl
instance:TInfo Try.prog 100 1 8:=tinfo_of tinfo100
end Go.Proofs.Ythkklpegjcnjoaa
namespace Go.Ab
noncomputable section
section
variable {X:CallE} {P:Program} {ro:Nat} {nt:Nat} {all rest:List Oper} {g:Gm} {ds:List Deferred} {s:St} {Q:Ex→Gm→List Deferred→St→Prop} {R:Value→St→Prop}
 {op:Op} {ty:TypeId} {pos:String} {after:Array Edge} {d:Nat} {i dj:Nat} {w b:Bool} {oj:Oper} {restD:List (Nat×Oper)} {QD:Gm→List Deferred→St→Prop} {ii:Nat} {v:Value} {x y c a:Operand} {H:Hp} {t yt:TypeId} {m n:Int} {k:IntKind} {cx cy:Code}
theorem Co (h:SV X P ro g op s (fun v s'=>WO X P ro nt all rest (up g d v) ds s' Q)) (hd:d<nt:=by decide):WO X P ro nt all (⟨some d,op,ty,pos,after,none⟩::rest) g ds s Q:=WO.cons h hd
theorem Cd (h:SV X P ro g op s (fun v s'=>WD X P ro nt all restD (up g d v) ds s' QD)) (hd:d<nt:=by decide):WD X P ro nt all ((ii,⟨some d,op,ty,pos,after,none⟩)::restD) g ds s QD:=WD.cons h hd
theorem Mv (hx:NV (og g x) v:=by constructor) (hd:d<nt:=by decide) (z:WO X P ro nt all rest (up g d v) ds s Q):WO X P ro nt all (⟨some d,.move x,ty,pos,after,none⟩::rest) g ds s Q:=WO.cons (SV.moveV hx z) hd
theorem Av (hx:NV (og g x) v:=by constructor) (hd:d<nt:=by decide) (z:WO X P ro nt all rest (up g d v) ds s Q):WO X P ro nt all (⟨some d,.assign x,ty,pos,after,none⟩::rest) g ds s Q:=WO.cons (SV.assignV hx z) hd
theorem Mw (hx:NV (og g x) v:=by constructor) (hd:d<nt:=by decide) (z:WD X P ro nt all restD (up g d v) ds s QD):WD X P ro nt all ((ii,⟨some d,.move x,ty,pos,after,none⟩)::restD) g ds s QD:=WD.cons (SV.moveV hx z) hd
theorem Aw (hx:NV (og g x) v:=by constructor) (hd:d<nt:=by decide) (z:WD X P ro nt all restD (up g d v) ds s QD):WD X P ro nt all ((ii,⟨some d,.assign x,ty,pos,after,none⟩)::restD) g ds s QD:=WD.cons (SV.assignV hx z) hd
theorem Nl (h:Q .normal g ds s):WO X P ro nt all [] g ds s Q:=WO.nil h
theorem Nz (h:QD g ds s):WD X P ro nt all [] g ds s QD:=WD.nil h
theorem Rg {id:Nat} {ops:Array Oper} (h:WO X P ro nt ops.toList ops.toList g ds s Q):WC X P ro nt (.region id ops false) g ds s Q:=WC.region h
theorem Ct (hc:og g c = .bool b:=by exact rfl) (hb:b=true:=by first | assumption | rfl) (z:WC X P ro nt cx g ds s Q):WC X P ro nt (.cond c cx cy) g ds s Q:=WC.condT hc hb z
theorem Cf (hc:og g c = .bool b:=by exact rfl) (hb:b=false:=by first | assumption | rfl) (z:WC X P ro nt cy g ds s Q):WC X P ro nt (.cond c cx cy) g ds s Q:=WC.condF hc hb z
theorem Gy (ho:nth all i=some oj:=by exact rfl) (hj:oj.dst=some dj:=by exact rfl) (hb:g dj=some (.bool b):=by exact rfl) (hw:b=w:=by first | assumption | rfl) (hd:d<nt:=by decide) (z:SV X P ro g op s (fun v s'=>WO X P ro nt all rest (up g d v) ds s' Q)) :
 WO X P ro nt all (⟨some d,op,ty,pos,after,some (i,w)⟩::rest) g ds s Q:=WO.guardY ho hj hb hw z hd
theorem Gn (ho:nth all i=some oj:=by exact rfl) (hj:oj.dst=some dj:=by exact rfl) (hb:g dj=some (.bool b):=by exact rfl) (hw:b = !w:=by first | assumption | rfl) (hd:d<nt:=by decide) (z:WO X P ro nt all rest (up g d und) ds s Q) :
 WO X P ro nt all (⟨some d,op,ty,pos,after,some (i,w)⟩::rest) g ds s Q:=WO.guardN ho hj hb hw z hd
theorem Gu (ho:nth all i=some oj:=by exact rfl) (hj:oj.dst=some dj:=by exact rfl) (hb:g dj=some und:=by exact rfl) (hd:d<nt:=by decide) (z:WO X P ro nt all rest (up g d und) ds s Q) :
 WO X P ro nt all (⟨some d,op,ty,pos,after,some (i,w)⟩::rest) g ds s Q:=WO.guardU ho hj hb z hd
theorem Hy (ho:nth all i=some oj:=by exact rfl) (hj:oj.dst=some dj:=by exact rfl) (hb:g dj=some (.bool b):=by exact rfl) (hw:b=w:=by first | assumption | rfl) (hd:d<nt:=by decide) (z:SV X P ro g op s (fun v s'=>WD X P ro nt all restD (up g d v) ds s' QD)) :
 WD X P ro nt all ((ii,⟨some d,op,ty,pos,after,some (i,w)⟩)::restD) g ds s QD:=WD.guardY ho hj hb hw z hd
theorem Hn (ho:nth all i=some oj:=by exact rfl) (hj:oj.dst=some dj:=by exact rfl) (hb:g dj=some (.bool b):=by exact rfl) (hw:b = !w:=by first | assumption | rfl) (hd:d<nt:=by decide) (z:WD X P ro nt all restD (up g d und) ds s QD) :
 WD X P ro nt all ((ii,⟨some d,op,ty,pos,after,some (i,w)⟩)::restD) g ds s QD:=WD.guardN ho hj hb hw z hd
theorem Hu (ho:nth all i=some oj:=by exact rfl) (hj:oj.dst=some dj:=by exact rfl) (hb:g dj=some und:=by exact rfl) (hd:d<nt:=by decide) (z:WD X P ro nt all restD (up g d und) ds s QD) :
 WD X P ro nt all ((ii,⟨some d,op,ty,pos,after,some (i,w)⟩)::restD) g ds s QD:=WD.guardU ho hj hb z hd
theorem Ld [TCell P t] {ν o es:Nat} {vs:List Value} {u:Value} (hM:Models ro s H:=by assumption) (hx:og g x = .pointer (some ⟨ν,o,none⟩):=by exact rfl)
 (hH:H ν=some (.row es vs):=by first | assumption | exact Hp.up_same | exact Hp.up_ne (by assumption) (by assumption) | exact Hp.up_ne (Ne.symm (by assumption)) (by assumption) | exact Hp.up_fresh (by assumption) (by assumption))
 (hv:vs[o]?=some u:=by first | assumption | exact ints_get0 (by omega) (by omega) | exact ints_get (by omega) (by omega) | rfl) (z:R u s):SV X P ro g (.load t x) s R:=SV.loadM hM hx hH hv z
theorem Sv [TCell P t] {ν o es:Nat} {vs:List Value} (hM:Models ro s H:=by assumption) (ha:og g a = .pointer (some ⟨ν,o,none⟩):=by exact rfl) (hx:CV (og g x) v:=by constructor)
 (hH:H ν=some (.row es vs):=by first | assumption | exact Hp.up_same | exact Hp.up_ne (by assumption) (by assumption) | exact Hp.up_ne (Ne.symm (by assumption)) (by assumption) | exact Hp.up_fresh (by assumption) (by assumption))
 (ho:o<vs.length:=by first | (simp only [List.length_map];omega) | (simp;done) | exact Nat.le_refl _ | (simp;omega)) (z:∀ s',s.next≤s'.next→Models ro s' (H.up ν (.row es (vs.set o v)))→R und s'):SV X P ro g (.store t a x) s R:=SV.storeV hM ha hx hH ho z
theorem Ix {t e:TypeId} {n:Nat} {x ix:Operand} [TSlice P t e n] {ν o len cap:Nat} {k:IntKind} {i:Int} (hx:og g x = .slice (some ⟨ν,o,none⟩) len cap:=by exact rfl) (hi:og g ix = .int k i:=by exact rfl) (h0:0≤i∧i<len:=by omega)
 (z:R (.pointer (some ⟨ν,o+i.toNat*n,none⟩)) s):SV X P ro g (.indexAddr t x ix) s R:=SV.indexAddr hx hi h0 z
theorem Ia {t e:TypeId} {len n:Nat} {x ix:Operand} [TArr P t len e n] {ν o:Nat} {k:IntKind} {i:Int} (hx:og g x = .pointer (some ⟨ν,o,none⟩):=by exact rfl) (hi:og g ix = .int k i:=by exact rfl) (h0:0≤i∧i<len:=by omega)
 (z:R (.pointer (some ⟨ν,o+i.toNat*n,none⟩)) s):SV X P ro g (.indexAddr t x ix) s R:=SV.indexAddrA hx hi h0 z
theorem Fa {t:TypeId} {x:Operand} {f off:Nat} [TFld P t f off] {ν o:Nat} (hx:og g x = .pointer (some ⟨ν,o,none⟩):=by exact rfl) (z:R (.pointer (some ⟨ν,o+off,none⟩)) s):SV X P ro g (.fieldAddr t x f) s R:=SV.fieldAddr hx z
theorem Np {a:Addr} (hx:og g x = .pointer (some a):=by exact rfl) (z:R (.pointer (some a)) s):SV X P ro g (.nilCheck x) s R:=SV.nilPtr hx z
theorem Ln {ts:Array TypeId} {e:TypeId} {n:Nat} [TSlice P t e n] {A:Option Addr} {len cap:Nat} (hts:ts.toList=[t]:=by exact rfl) (hx:og g x = .slice A len cap:=by exact rfl) (z:R (.int .i64 len) s):SV X P ro g (.call ⟨.builtin .len,#[x],ts⟩) s R:=SV.len hts hx z
theorem Lo {ts:Array TypeId} {e:TypeId} {n:Nat} {sz k:Nat} {v:Value} {vs:List Value} [TSlice P t e n] (hts:ts.toList=[t]:=by exact rfl) (hx:og g x=v:=by exact rfl) (hv:SlO H v sz k vs:=by assumption) (z:R (.int .i64 k) s):SV X P ro g (.call ⟨.builtin .len,#[x],ts⟩) s R:=SV.lenO hts hx hv z
theorem Ad (hx:og g x = .int .i64 m:=by exact rfl) (hy:og g y = .int .i64 n:=by exact rfl) (h : -9223372036854775808≤m+n∧m+n<9223372036854775808:=by omega) (z:R (.int .i64 (m+n)) s):SV X P ro g (.binOp .add t x y yt) s R:=SV.add64 hx hy h z
theorem Sb (hx:og g x = .int .i64 m:=by exact rfl) (hy:og g y = .int .i64 n:=by exact rfl) (h : -9223372036854775808≤m-n∧m-n<9223372036854775808:=by omega) (z:R (.int .i64 (m-n)) s):SV X P ro g (.binOp .sub t x y yt) s R:=SV.sub64 hx hy h z
theorem Lt (hx:og g x = .int k m:=by exact rfl) (hy:og g y = .int k n:=by exact rfl) (z:R (.bool (decide (m<n))) s):SV X P ro g (.binOp .lss t x y yt) s R:=SV.lss hx hy z
theorem Le (hx:og g x = .int k m:=by exact rfl) (hy:og g y = .int k n:=by exact rfl) (z:R (.bool (decide (m≤n))) s):SV X P ro g (.binOp .leq t x y yt) s R:=SV.leq hx hy z
theorem Gt (hx:og g x = .int k m:=by exact rfl) (hy:og g y = .int k n:=by exact rfl) (z:R (.bool (decide (n<m))) s):SV X P ro g (.binOp .gtr t x y yt) s R:=SV.gtr hx hy z
theorem Ge (hx:og g x = .int k m:=by exact rfl) (hy:og g y = .int k n:=by exact rfl) (z:R (.bool (decide (n≤m))) s):SV X P ro g (.binOp .geq t x y yt) s R:=SV.geq hx hy z
theorem Ei (hx:og g x = .int k m:=by exact rfl) (hy:og g y = .int k n:=by exact rfl) (z:R (.bool (decide (m=n))) s):SV X P ro g (.binOp .eql t x y yt) s R:=SV.eqlI hx hy z
theorem Ni (hx:og g x = .int k m:=by exact rfl) (hy:og g y = .int k n:=by exact rfl) (z:R (.bool (decide (m≠n))) s):SV X P ro g (.binOp .neq t x y yt) s R:=SV.neqI hx hy z
theorem Rm (hx:og g x = .int k m:=by exact rfl) (hy:og g y = .int k n:=by exact rfl) (h:n≠0:=by omega) (z:R (.int k (m.tmod n)) s):SV X P ro g (.binOp .rem t x y yt) s R:=SV.rem hx hy h z
theorem Pt (hc:og g c = .bool b:=by exact rfl) (hb:b=true:=by first | assumption | rfl) (hx:NV (og g x) v:=by constructor) (z:R v s):SV X P ro g (.pick c x y) s R:=SV.pickTV hc hb hx z
theorem Pf (hc:og g c = .bool b:=by exact rfl) (hb:b=false:=by first | assumption | rfl) (hx:NV (og g y) v:=by constructor) (z:R v s):SV X P ro g (.pick c x y) s R:=SV.pickFV hc hb hx z
theorem Nn (hx:og g x = .bool b:=by exact rfl) (hb:b=true:=by first | assumption | rfl) (z:R (.bool false) s):SV X P ro g (.unOp .not t x) s R:=SV.notT hx hb z
theorem Nf (hx:og g x = .bool b:=by exact rfl) (hb:b=false:=by first | assumption | rfl) (z:R (.bool true) s):SV X P ro g (.unOp .not t x) s R:=SV.notF hx hb z
theorem Et {i:Nat} {vs:Array Value} {v:Value} (hx:og g x = .tuple vs:=by exact rfl) (h:nth vs.toList i=some v:=by exact rfl) (z:R v s):SV X P ro g (.extract x i) s R:=SV.extract hx h z
theorem Mq (hx:NV (og g x) v:=by constructor) (z:R v s):SV X P ro g (.move x) s R:=SV.moveV hx z
theorem Bs {t e:TypeId} {sz len:Nat} {zz l:List Value} {ps:Array (Nat×Operand)} [TSlice P t e sz] [TZero P e zz] (hM:Models ro s H:=by assumption)
 (hf:fillL (fun i=>some (i*sz,sz)) (repeatL zz len) (ps.toList.map fun (i,x)=>(i,og g x))=some l:=by exact rfl) (hb:(Nat.ble (len*sz) 16777216&&Nat.beq zz.length sz)=true:=by exact rfl)
 (z:∀ a s',H a=none→(∀ ν o,H ν=some o→ν≠a)→s.next≤s'.next→Models ro s' (H.up a (.row sz l))→R (.slice (some ⟨a,0,none⟩) len len) s'):SV X P ro g (.buildSlice t len ps) s R:=SV.buildSliceM hM hf hb z
theorem Al {e:TypeId} {zz:List Value} [TZero P e zz] (hM:Models ro s H:=by assumption) (z:∀ a s',H a=none→(∀ ν o,H ν=some o→ν≠a)→s.next≤s'.next→Models ro s' (H.up a (.row 0 zz))→R (.pointer (some ⟨a,0,none⟩)) s'):SV X P ro g (.alloc e) s R:=SV.allocM hM z
theorem WC.dr {id:Nat} {ops:Array Oper} (l:List Nat) {Q:Ex→Gm→List Deferred→St→Prop} (hd:drawOk P ops=true:=by kernel_rfl) (hl:canonOf P ops=pickOps ops.toList l:=by kernel_rfl)
 (hc:calm P (befOf ops) (pickOps ops.toList l)=true:=by kernel_rfl) (z:WD X P ro nt ops.toList (pickOps ops.toList l) g ds s (Q .normal)):WC X P ro nt (.region id ops true) g ds s Q:=WC.draw l hd hl hc z
end
def lk (g:Gm):List (Nat×Value)→List (Option Value) | []=>[] | p::l=>g p.1::lk g l
def lw:List (Nat×Value)→List (Option Value) | []=>[] | p::l=>some p.2::lw l
theorem lk_h {g:Gm}:∀ {L:List (Nat×Value)},lk g L=lw L→holds g L
 | [],_=>trivial
 |(d,v)::L,h=>⟨(List.cons.inj h).1,lk_h (List.cons.inj h).2⟩
theorem Ho {g:Gm} {L:List (Nat×Value)} (h:lk g L=lw L:=by exact rfl):holds g L:=lk_h h
theorem dc (p:Prop) [Decidable p]:(p∧decide p=true)∨(¬ p∧decide p=false):=by
 by_cases h:p
 ·exact .inl ⟨h,decide_eq_true h⟩
 ·exact .inr ⟨h,decide_eq_false h⟩
theorem Bo {X:CallE} {P:Program} {ro:Nat} {s:St} {f:FuncId} {args:List Value} {fn:Func} {c:Code} {Post:Value→Hp→Prop} {nt:Nat}
 (hX:∀ f args s,f≠47→f≠86→f≠87→¬ (f=23∨f=13∨f=44)→X f args s=none) (hf:P.funcs[f]?=some fn) (hnt:fn.ntmps=nt) (hb:fn.body=some c:=by exact rfl) (hl:args.length≤nt:=by simp)
 (h1:f≠47:=by decide) (h2:f≠86:=by decide) (h3:f≠87:=by decide) (h4:¬ (f=23∨f=13∨f=44):=by decide)
 (z:WC X P ro nt c (argsG args) [] s (FinM P ro s.next fn Post)):Sp X P ro f args s Post:=Sp.of_body (hX _ _ _ h1 h2 h3 h4) hf hb hnt hl z
end
end Go.Ab
