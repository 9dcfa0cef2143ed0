/- Package-level variables that are told: number, size of an element, elements. -/
import Derived.Test.YtjjmoihpjmojiaaDoorD1
namespace Go.Proofs.YtjjmoihpjmojiaaDoor.D
open Go.RowKit
/-- msg.kinds -/
def kindsD : List (List DV) := [
  [.v (.int .i64 0), .v (.int .i64 0), .v (.int .i64 0), .v (.int .i64 0), .v (.bool false)],
  [.v (.int .i64 0), .v (.int .i64 1048576), .v (.int .i64 0), .v (.int .i64 4095), .v (.bool false)],
  [.v (.int .i64 1), .v (.int .i64 1048576), .v (.int .i64 1), .v (.int .i64 4095), .v (.bool true)],
  [.v (.int .i64 1), .v (.int .i64 1048576), .v (.int .i64 1), .v (.int .i64 4095), .v (.bool false)],
  [.v (.int .i64 1), .v (.int .i64 1048576), .v (.int .i64 1), .v (.int .i64 4095), .v (.bool false)],
  [.v (.int .i64 1), .v (.int .i64 1048576), .v (.int .i64 0), .v (.int .i64 0), .v (.bool false)]]
def Gam : List (Nat × Nat × List (List DV)) := [(0, 5, kindsD)]

end Go.Proofs.YtjjmoihpjmojiaaDoor.D
