/- A closed run: of of string 4. Printed by runs.py. No condition. -/
import Derived.Test.YtbdnfkmcfencdaaGreatDoorRung
namespace Go.Proofs.YtbdnfkmcfencdaaGreatDoor
namespace Am
open Go
def of4 : Out × Heap := (.ret (.tup [.v (.int .i64 0), .v (.int .i64 0)]), [])
theorem of4_run (m : Int) : (closedMd (kn11 m) 100000 100).call 19 [.v (.string str4)] [] (fun o H => (o, H) = of4) = (of4 = of4) := by kernel_rfl
noncomputable def kn12 (m : Int) := memoS (kn11 m) 19 str4 of4 (run_closed _ (of4_run m))
end Am
end Go.Proofs.YtbdnfkmcfencdaaGreatDoor
/- works() of law 12 answers true. No condition. -/
namespace Go.Proofs.YtbdnfkmcfencdaaGreatDoor
namespace Am
open Go
theorem works_run (m : Int) : (closedMd (kn12 m) 100000 100).call 8 [] [] (fun o H => (o, H) = (.ret (.v (.bool true)), [])) = ((Out.ret (AV.v (Value.bool true)), ([] : Heap)) = (.ret (.v (.bool true)), [])) := by kernel_rfl
theorem works (m : Int) : Run Tryz.prog (GGm m) 8 [] [] fun o H => (o, H) = (.ret (.v (.bool true)), []) := run_closed _ (works_run m)
end Am
end Go.Proofs.YtbdnfkmcfencdaaGreatDoor
