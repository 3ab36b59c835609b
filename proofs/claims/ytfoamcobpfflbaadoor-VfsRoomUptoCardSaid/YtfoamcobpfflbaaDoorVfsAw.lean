/- The benches' first question of the file system. -/
import Derived.Test.YtfoamcobpfflbaaDoorVfsA
namespace Go.Proofs.YtfoamcobpfflbaaDoor
open Go Go.RowKit Go.Maps
open VfsS (St)

namespace VfsT
abbrev a : ByteArray := ⟨#[97]⟩
abbrev b : ByteArray := ⟨#[98]⟩
abbrev f : ByteArray := ⟨#[102]⟩
abbrev g : ByteArray := ⟨#[103]⟩
theorem check_a : PathS.check a = 0 := by decide
theorem check_b : PathS.check b = 0 := by decide
theorem check_f : PathS.check f = 0 := by decide
theorem check_g : PathS.check g = 0 := by decide
def E1 : St := ⟨[⟨⟨#[]⟩, 0⟩], [(a, 0)], [], [⟨⟨#[]⟩, a, some 0⟩], 100, 1, -1⟩
def E2 : St := ⟨[⟨⟨#[120, 121]⟩, 0⟩], [(a, 0)], [], [⟨⟨#[]⟩, a, some 0⟩], 100, 2, -1⟩
def E3 : St := ⟨[⟨⟨#[120, 121]⟩, 2⟩], [(a, 0)], [], [⟨⟨#[]⟩, a, some 0⟩], 100, 3, -1⟩
def E4 : St := ⟨[⟨⟨#[120, 121]⟩, 2⟩], [(a, 0)], [(a, 0)], [], 100, 4, -1⟩
def E5 : St := ⟨[⟨⟨#[120, 121]⟩, 2⟩], [(b, 0)], [(a, 0)], [⟨a, b, some 0⟩], 100, 5, -1⟩
def E6 : St := ⟨[⟨⟨#[120, 121, 122]⟩, 2⟩], [(b, 0)], [(a, 0)], [⟨a, b, some 0⟩], 100, 6, -1⟩
def E7 : St := ⟨[⟨⟨#[120, 121]⟩, 2⟩], [(a, 0)], [(a, 0)], [], 100, 6, -1⟩
set_option maxRecDepth 10000
theorem e1 : VfsS.createS (VfsS.newS (100 : Int).toNat) a = (E1, 0) := by
  rw [VfsS.createS, check_a, if_neg (by decide)]; rfl
theorem e2 : VfsS.appendS E1 a ⟨#[120, 121]⟩ = (E2, 0) := by rfl
theorem e3 : VfsS.syncS E2 a = (E3, 0) := by rfl
theorem e4 : VfsS.flushAllS E3 = (E4, 0) := by rfl
theorem e5 : VfsS.renameS E4 a b = (E5, 0) := by
  rw [VfsS.renameS, check_b, show VfsS.find E4.now a = some 0 from rfl]; rfl
theorem e6 : VfsS.appendS E5 b ⟨#[122]⟩ = (E6, 0) := by rfl
theorem e7 : VfsS.crashS E6 0 0 = E7 := by rfl
theorem r7a : VfsS.readS E7 a = some ⟨#[120, 121]⟩ := by rfl
theorem r7b : VfsS.readS E7 b = none := by rfl
theorem u7 : VfsS.used E7 = 2 := by rfl
end VfsT
end Go.Proofs.YtfoamcobpfflbaaDoor
