/- What serifref12.Look comes to at every code: the first row of the table that holds the code, else the default. No condition. -/
import Derived.Test.YthkklpegjcnjoaaNum
import Derived.Test.YthkklpegjcnjoaaRefWalk
namespace Go.Proofs.Ythkklpegjcnjoaa
open Go.RowKit
noncomputable def refLookF (code:Int):Int×Int×Int:=rowFrom (fun j=>tbl.getD j 0) code 121 0
theorem ltI_lt:∀ {a b:Int},Ab.ltI a b=true→a<b
 | .ofNat a,.ofNat b,h=>by have:=Nat.blt_eq.mp h;exact Int.ofNat_lt.2 this
 | .negSucc a,.ofNat b,_=>Int.lt_of_lt_of_le (Int.negSucc_lt_zero a) (Int.natCast_nonneg b)
 | .ofNat _,.negSucc _,h=>by cases h
 | .negSucc a,.negSucc b,h=>by have:=Nat.blt_eq.mp h;omega
theorem ltI_nlt:∀ {a b:Int},Ab.ltI a b=false→¬ a<b
 | .ofNat a,.ofNat b,h=>by
  intro hlt
  have:Nat.blt a b=true:=Nat.blt_eq.mpr (Int.ofNat_lt.1 hlt)
  have h2:Nat.blt a b=false:=h
  rw [this] at h2
  cases h2
 | .negSucc _,.ofNat _,h=>by cases h
 | .ofNat a,.negSucc b,_=>fun h=>absurd (Int.lt_trans h (Int.negSucc_lt_zero b)) (Int.not_lt.2 (Int.natCast_nonneg a))
 | .negSucc a,.negSucc b,h=>by
  intro hlt
  have:Nat.blt b a=true:=Nat.blt_eq.mpr (by omega)
  have h2:Nat.blt b a=false:=h
  rw [this] at h2
  cases h2
theorem refLook_calls (code:Int) (w:World):Calls Try.prog 44 #[.int .i64 code] w fun e w'=>e = .returned (.agg #[.int .i64 (refLookF code).1,.int .i64 (refLookF code).2.1,.int .i64 (refLookF code).2.2])∧Below w.heap.size w w':=
 refLook_walk (fun j=>tbl.getD j 0) pos num_calls (fun k hk=>ltI_lt (List.all_eq_true.1 pos_lt k (List.mem_range.2 hk))) (ltI_nlt pos_end) (by simp [pos,endL]) code w
end Go.Proofs.Ythkklpegjcnjoaa
