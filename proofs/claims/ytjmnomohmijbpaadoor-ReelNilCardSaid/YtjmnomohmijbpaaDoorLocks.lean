/- Under which numbers this program holds sync.Mutex and what it calls. -/
import Derived.Test.YtjmnomohmijbpaaDoorProg
import Derived.Conc.MuLone
import Derived.KernelRfl
namespace Go.Proofs
abbrev Tryd.muLink : Go.Conc.Locks.MuLink := { lock := 24, unlock := 25, ilock := 33, iunlock := 34, lockSlow := 45, unlockSlow := 48, disable := 41, enable := 43, acquire := 44, relMerge := 46, cas32 := 42, add32 := 47, tMutex := 68, tIMutex := 66, tPMutex := 79, tPIMutex := 93, tPI32 := 95, tUP := 97, tNoCopy := 63, tU32 := 64 }
theorem Tryd.muLib : Go.Conc.Locks.MuLib Tryd.prog Tryd.muLink :=
  ⟨Tryd.func24, Tryd.func25, Tryd.func33, Tryd.func34, Tryd.func41, Tryd.func43, Tryd.func44, Tryd.func46, Tryd.func42, Tryd.func47, Tryd.underlying66, Tryd.runUnderlying66, Tryd.sizeOf66, Tryd.isAgg66, Tryd.zeroValue66, Tryd.underlying68, Tryd.runUnderlying68, Tryd.sizeOf68, Tryd.isAgg68, Tryd.zeroValue68, Tryd.underlying79, Tryd.runUnderlying79, Tryd.sizeOf79, Tryd.isAgg79, Tryd.zeroValue79, Tryd.underlying93, Tryd.runUnderlying93, Tryd.sizeOf93, Tryd.isAgg93, Tryd.zeroValue93, Tryd.underlying95, Tryd.runUnderlying95, Tryd.sizeOf95, Tryd.isAgg95, Tryd.zeroValue95, Tryd.underlying97, Tryd.runUnderlying97, Tryd.sizeOf97, Tryd.isAgg97, Tryd.zeroValue97, Tryd.underlying63, Tryd.runUnderlying63, Tryd.sizeOf63, Tryd.isAgg63, Tryd.zeroValue63, Tryd.underlying21, Tryd.runUnderlying21, Tryd.sizeOf21, Tryd.isAgg21, Tryd.zeroValue21, (by kernel_rfl)⟩
end Go.Proofs
