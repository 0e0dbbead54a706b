/- The pieces of the run of LayoutNames: definitions. -/
import Derived.Test.YtnpkjkingaachaaGreatLayoutNamesSt1
namespace Go.Proofs.YtnpkjkingaachaaGreat.Pieces
open Go.Ab

noncomputable def e_box : Ent := ⟨6, [], s1, (.slice (some ⟨473, 0, none⟩) 372 372), s2⟩
noncomputable def e_load : Ent := ⟨5, [(.slice (some ⟨473, 0, none⟩) 372 372), (I 0)], s2, (.tuple #[(.pointer (some ⟨476, 0, none⟩)), (I 0)]), s3⟩
noncomputable def e_line : Ent := ⟨49, [(.pointer (some ⟨651, 0, none⟩)), (.pointer (some ⟨685, 0, none⟩)), (.int .i64 (.negSucc 0)), (I 4)], s4, (.tuple #[]), s5⟩

end Go.Proofs.YtnpkjkingaachaaGreat.Pieces
