/- Plain: the fixed answers. -/
import Derived.Test.YtoihlclmilhpdaaDoorW19
namespace Go.Proofs.YtoihlclmilhpdaaDoor
open Go Go.RowKit

def line1 : W.Bs := [97, 110, 115, 119, 101, 114, 32, 110, 111, 32, 45, 51]
def line2 : W.Bs := [32, 97, 112, 112, 101, 110, 100, 32, 97, 46, 108, 111, 103, 32, 34, 120, 32, 121, 92, 110, 34, 32]
def line3 : W.Bs := [112, 111, 108, 108, 32, 48, 49]
set_option maxRecDepth 100000 in
theorem fix1 : W.parseL line1 = some { kind := 9, n := -3, yes := false } := by kernel_rfl
set_option maxRecDepth 100000 in
theorem fix3 : W.parseL line3 = none := by kernel_rfl
set_option maxRecDepth 100000 in
theorem fix2 : W.parseL line2 = some { kind := 2, name := [97, 46, 108, 111, 103], data := [120, 32, 121, 10] } := by kernel_rfl
set_option maxRecDepth 100000 in
theorem fix4 : W.printL { kind := 12, keep := [1, -2], n := 7 } = [99, 114, 97, 115, 104, 32, 49, 32, 45, 50] := by kernel_rfl
set_option maxRecDepth 100000 in
theorem fix5 : W.tellL { kind := 1, mark := { serial := 1, inode := 1, off := 3 }, text := [97, 32, 98], rules := 5, attempt := 2 } = [115, 101, 110, 116, 32, 48, 32, 49, 32, 49, 32, 48, 32, 51, 32, 50, 32, 53, 32, 34, 97, 32, 98, 34] := by kernel_rfl
end Go.Proofs.YtoihlclmilhpdaaDoor
