/- The types that the functions of this seat meet: what stands under them, their cells, bytes and zero values. Conditions: none. -/
import Derived.Test.YtbpkoehgjhofaaaProg
import Derived.Test.YtbpkoehgjhofaaaSxTab
import Derived.Test.YtbpkoehgjhofaaaSxF
import Derived.KernelRfl
namespace Go.Proofs.Ytbpkoehgjhofaaa
open Go
theorem und2 : Try.prog.underlying 2 = some (.int .i64) := by kernel_rfl
theorem inf2 : (Try.prog.info? 2).map (fun i => (i.size, i.bytes, i.zero)) = some (1, 8, some (.int .i64 0)) := by kernel_rfl
theorem und3 : Try.prog.underlying 3 = some (.int .i64) := by kernel_rfl
theorem inf3 : (Try.prog.info? 3).map (fun i => (i.size, i.bytes, i.zero)) = some (1, 8, some (.int .i64 0)) := by kernel_rfl
theorem und4 : Try.prog.underlying 4 = some (.bool) := by kernel_rfl
theorem inf4 : (Try.prog.info? 4).map (fun i => (i.size, i.bytes, i.zero)) = some (1, 1, some (.bool false)) := by kernel_rfl
theorem und5 : Try.prog.underlying 5 = some (.int .u8) := by kernel_rfl
theorem inf5 : (Try.prog.info? 5).map (fun i => (i.size, i.bytes, i.zero)) = some (1, 1, some (.int .u8 0)) := by kernel_rfl
theorem und9 : Try.prog.underlying 9 = some (.string) := by kernel_rfl
theorem inf9 : (Try.prog.info? 9).map (fun i => (i.size, i.bytes, i.zero)) = some (1, 16, some (.string ⟨#[]⟩)) := by kernel_rfl
theorem und12 : Try.prog.underlying 12 = some (.int .u64) := by kernel_rfl
theorem inf12 : (Try.prog.info? 12).map (fun i => (i.size, i.bytes, i.zero)) = some (1, 8, some (.int .u64 0)) := by kernel_rfl
theorem und20 : Try.prog.underlying 20 = some (.interface #[]) := by kernel_rfl
theorem inf20 : (Try.prog.info? 20).map (fun i => (i.size, i.bytes, i.zero)) = some (1, 16, some (.nilIface)) := by kernel_rfl
theorem und21 : Try.prog.underlying 21 = some (.int .i32) := by kernel_rfl
theorem inf21 : (Try.prog.info? 21).map (fun i => (i.size, i.bytes, i.zero)) = some (1, 4, some (.int .i32 0)) := by kernel_rfl
theorem und22 : Try.prog.underlying 22 = some (.int .u64) := by kernel_rfl
theorem inf22 : (Try.prog.info? 22).map (fun i => (i.size, i.bytes, i.zero)) = some (1, 8, some (.int .u64 0)) := by kernel_rfl
theorem und25 : Try.prog.underlying 25 = some (.int .u64) := by kernel_rfl
theorem inf25 : (Try.prog.info? 25).map (fun i => (i.size, i.bytes, i.zero)) = some (1, 8, some (.int .u64 0)) := by kernel_rfl
theorem und29 : Try.prog.underlying 29 = some (.slice 5) := by kernel_rfl
theorem inf29 : (Try.prog.info? 29).map (fun i => (i.size, i.bytes, i.zero)) = some (1, 24, some (.slice none 0 0)) := by kernel_rfl
theorem und31 : Try.prog.underlying 31 = some (.pointer 84) := by kernel_rfl
theorem inf31 : (Try.prog.info? 31).map (fun i => (i.size, i.bytes, i.zero)) = some (1, 8, some (.pointer none)) := by kernel_rfl
theorem und37 : Try.prog.underlying 37 = some (.slice 42) := by kernel_rfl
theorem inf37 : (Try.prog.info? 37).map (fun i => (i.size, i.bytes, i.zero)) = some (1, 24, some (.slice none 0 0)) := by kernel_rfl
theorem und38 : Try.prog.underlying 38 = some (.pointer 40) := by kernel_rfl
theorem inf38 : (Try.prog.info? 38).map (fun i => (i.size, i.bytes, i.zero)) = some (1, 8, some (.pointer none)) := by kernel_rfl
theorem und39 : Try.prog.underlying 39 = some (.struct #[⟨"State", 22, 0, false, "", "", 0⟩, ⟨"Drawn", 3, 1, false, "", "", 8⟩]) := by kernel_rfl
theorem inf39 : (Try.prog.info? 39).map (fun i => (i.size, i.bytes, i.zero)) = some (2, 16, some (.agg #[.int .u64 0, .int .i64 0])) := by kernel_rfl
theorem und40 : Try.prog.underlying 40 = some (.struct #[⟨"State", 22, 0, false, "", "", 0⟩, ⟨"Drawn", 3, 1, false, "", "", 8⟩]) := by kernel_rfl
theorem inf40 : (Try.prog.info? 40).map (fun i => (i.size, i.bytes, i.zero)) = some (2, 16, some (.agg #[.int .u64 0, .int .i64 0])) := by kernel_rfl
theorem und41 : Try.prog.underlying 41 = some (.struct #[⟨"Kind", 3, 0, false, "", "", 0⟩, ⟨"A", 3, 1, false, "", "", 8⟩, ⟨"B", 3, 2, false, "", "", 16⟩]) := by kernel_rfl
theorem inf41 : (Try.prog.info? 41).map (fun i => (i.size, i.bytes, i.zero)) = some (3, 24, some (.agg #[.int .i64 0, .int .i64 0, .int .i64 0])) := by kernel_rfl
theorem und42 : Try.prog.underlying 42 = some (.struct #[⟨"Kind", 3, 0, false, "", "", 0⟩, ⟨"A", 3, 1, false, "", "", 8⟩, ⟨"B", 3, 2, false, "", "", 16⟩]) := by kernel_rfl
theorem inf42 : (Try.prog.info? 42).map (fun i => (i.size, i.bytes, i.zero)) = some (3, 24, some (.agg #[.int .i64 0, .int .i64 0, .int .i64 0])) := by kernel_rfl
theorem und46 : Try.prog.underlying 46 = some (.slice 55) := by kernel_rfl
theorem inf46 : (Try.prog.info? 46).map (fun i => (i.size, i.bytes, i.zero)) = some (1, 24, some (.slice none 0 0)) := by kernel_rfl
theorem und48 : Try.prog.underlying 48 = some (.pointer 90) := by kernel_rfl
theorem inf48 : (Try.prog.info? 48).map (fun i => (i.size, i.bytes, i.zero)) = some (1, 8, some (.pointer none)) := by kernel_rfl
theorem und50 : Try.prog.underlying 50 = some (.pointer 53) := by kernel_rfl
theorem inf50 : (Try.prog.info? 50).map (fun i => (i.size, i.bytes, i.zero)) = some (1, 8, some (.pointer none)) := by kernel_rfl
theorem und51 : Try.prog.underlying 51 = some (.slice 96) := by kernel_rfl
theorem inf51 : (Try.prog.info? 51).map (fun i => (i.size, i.bytes, i.zero)) = some (1, 24, some (.slice none 0 0)) := by kernel_rfl
theorem und52 : Try.prog.underlying 52 = some (.struct #[⟨"Hosts", 3, 0, false, "", "", 0⟩, ⟨"Fails", 3, 1, false, "", "", 8⟩, ⟨"Eject", 3, 2, false, "", "", 16⟩, ⟨"Panic", 3, 3, false, "", "", 24⟩, ⟨"Seen", 3, 4, false, "", "", 32⟩, ⟨"All", 51, 5, false, "", "", 40⟩]) := by kernel_rfl
theorem inf52 : (Try.prog.info? 52).map (fun i => (i.size, i.bytes, i.zero)) = some (6, 64, some (.agg #[.int .i64 0, .int .i64 0, .int .i64 0, .int .i64 0, .int .i64 0, .slice none 0 0])) := by kernel_rfl
theorem und53 : Try.prog.underlying 53 = some (.struct #[⟨"Hosts", 3, 0, false, "", "", 0⟩, ⟨"Fails", 3, 1, false, "", "", 8⟩, ⟨"Eject", 3, 2, false, "", "", 16⟩, ⟨"Panic", 3, 3, false, "", "", 24⟩, ⟨"Seen", 3, 4, false, "", "", 32⟩, ⟨"All", 51, 5, false, "", "", 40⟩]) := by kernel_rfl
theorem inf53 : (Try.prog.info? 53).map (fun i => (i.size, i.bytes, i.zero)) = some (6, 64, some (.agg #[.int .i64 0, .int .i64 0, .int .i64 0, .int .i64 0, .int .i64 0, .slice none 0 0])) := by kernel_rfl
theorem und54 : Try.prog.underlying 54 = some (.struct #[⟨"Kind", 3, 0, false, "", "", 0⟩, ⟨"Now", 3, 1, false, "", "", 8⟩, ⟨"Host", 3, 2, false, "", "", 16⟩, ⟨"Ok", 4, 3, false, "", "", 24⟩]) := by kernel_rfl
theorem inf54 : (Try.prog.info? 54).map (fun i => (i.size, i.bytes, i.zero)) = some (4, 32, some (.agg #[.int .i64 0, .int .i64 0, .int .i64 0, .bool false])) := by kernel_rfl
theorem und55 : Try.prog.underlying 55 = some (.struct #[⟨"Kind", 3, 0, false, "", "", 0⟩, ⟨"Now", 3, 1, false, "", "", 8⟩, ⟨"Host", 3, 2, false, "", "", 16⟩, ⟨"Ok", 4, 3, false, "", "", 24⟩]) := by kernel_rfl
theorem inf55 : (Try.prog.info? 55).map (fun i => (i.size, i.bytes, i.zero)) = some (4, 32, some (.agg #[.int .i64 0, .int .i64 0, .int .i64 0, .bool false])) := by kernel_rfl
theorem und56 : Try.prog.underlying 56 = some (.int .i64) := by kernel_rfl
theorem inf56 : (Try.prog.info? 56).map (fun i => (i.size, i.bytes, i.zero)) = some (1, 8, some (.int .i64 0)) := by kernel_rfl
theorem und59 : Try.prog.underlying 59 = some (.slice 4) := by kernel_rfl
theorem inf59 : (Try.prog.info? 59).map (fun i => (i.size, i.bytes, i.zero)) = some (1, 24, some (.slice none 0 0)) := by kernel_rfl
theorem und66 : Try.prog.underlying 66 = some (.slice 3) := by kernel_rfl
theorem inf66 : (Try.prog.info? 66).map (fun i => (i.size, i.bytes, i.zero)) = some (1, 24, some (.slice none 0 0)) := by kernel_rfl
theorem und68 : Try.prog.underlying 68 = some (.slice 48) := by kernel_rfl
theorem inf68 : (Try.prog.info? 68).map (fun i => (i.size, i.bytes, i.zero)) = some (1, 24, some (.slice none 0 0)) := by kernel_rfl
theorem und70 : Try.prog.underlying 70 = some (.slice 76) := by kernel_rfl
theorem inf70 : (Try.prog.info? 70).map (fun i => (i.size, i.bytes, i.zero)) = some (1, 24, some (.slice none 0 0)) := by kernel_rfl
theorem und71 : Try.prog.underlying 71 = some (.pointer 101) := by kernel_rfl
theorem inf71 : (Try.prog.info? 71).map (fun i => (i.size, i.bytes, i.zero)) = some (1, 8, some (.pointer none)) := by kernel_rfl
theorem und73 : Try.prog.underlying 73 = some (.pointer 81) := by kernel_rfl
theorem inf73 : (Try.prog.info? 73).map (fun i => (i.size, i.bytes, i.zero)) = some (1, 8, some (.pointer none)) := by kernel_rfl
theorem und75 : Try.prog.underlying 75 = some (.struct #[⟨"Kind", 3, 0, false, "", "", 0⟩, ⟨"X", 3, 1, false, "", "", 8⟩, ⟨"A", 3, 2, false, "", "", 16⟩, ⟨"B", 3, 3, false, "", "", 24⟩]) := by kernel_rfl
theorem inf75 : (Try.prog.info? 75).map (fun i => (i.size, i.bytes, i.zero)) = some (4, 32, some (.agg #[.int .i64 0, .int .i64 0, .int .i64 0, .int .i64 0])) := by kernel_rfl
theorem und76 : Try.prog.underlying 76 = some (.struct #[⟨"Kind", 3, 0, false, "", "", 0⟩, ⟨"X", 3, 1, false, "", "", 8⟩, ⟨"A", 3, 2, false, "", "", 16⟩, ⟨"B", 3, 3, false, "", "", 24⟩]) := by kernel_rfl
theorem inf76 : (Try.prog.info? 76).map (fun i => (i.size, i.bytes, i.zero)) = some (4, 32, some (.agg #[.int .i64 0, .int .i64 0, .int .i64 0, .int .i64 0])) := by kernel_rfl
theorem und80 : Try.prog.underlying 80 = some (.struct #[⟨"Budget", 3, 0, false, "", "", 0⟩, ⟨"Dice", 40, 1, false, "", "", 8⟩, ⟨"Holds", 66, 3, false, "", "", 24⟩]) := by kernel_rfl
theorem inf80 : (Try.prog.info? 80).map (fun i => (i.size, i.bytes, i.zero)) = some (4, 48, some (.agg #[.int .i64 0, .int .u64 0, .int .i64 0, .slice none 0 0])) := by kernel_rfl
theorem und81 : Try.prog.underlying 81 = some (.struct #[⟨"Budget", 3, 0, false, "", "", 0⟩, ⟨"Dice", 40, 1, false, "", "", 8⟩, ⟨"Holds", 66, 3, false, "", "", 24⟩]) := by kernel_rfl
theorem inf81 : (Try.prog.info? 81).map (fun i => (i.size, i.bytes, i.zero)) = some (4, 48, some (.agg #[.int .i64 0, .int .u64 0, .int .i64 0, .slice none 0 0])) := by kernel_rfl
theorem und83 : Try.prog.underlying 83 = some (.struct #[⟨"state", 22, 0, false, "", "barbican/dice", 0⟩, ⟨"drawn", 3, 1, false, "", "barbican/dice", 8⟩]) := by kernel_rfl
theorem inf83 : (Try.prog.info? 83).map (fun i => (i.size, i.bytes, i.zero)) = some (2, 16, some (.agg #[.int .u64 0, .int .i64 0])) := by kernel_rfl
theorem und84 : Try.prog.underlying 84 = some (.struct #[⟨"state", 22, 0, false, "", "barbican/dice", 0⟩, ⟨"drawn", 3, 1, false, "", "barbican/dice", 8⟩]) := by kernel_rfl
theorem inf84 : (Try.prog.info? 84).map (fun i => (i.size, i.bytes, i.zero)) = some (2, 16, some (.agg #[.int .u64 0, .int .i64 0])) := by kernel_rfl
theorem und88 : Try.prog.underlying 88 = some (.slice 94) := by kernel_rfl
theorem inf88 : (Try.prog.info? 88).map (fun i => (i.size, i.bytes, i.zero)) = some (1, 24, some (.slice none 0 0)) := by kernel_rfl
theorem und89 : Try.prog.underlying 89 = some (.struct #[⟨"fails", 3, 0, false, "", "barbican/health", 0⟩, ⟨"eject", 3, 1, false, "", "barbican/health", 8⟩, ⟨"panic", 3, 2, false, "", "barbican/health", 16⟩, ⟨"hosts", 88, 3, false, "", "barbican/health", 24⟩, ⟨"seen", 3, 4, false, "", "barbican/health", 48⟩, ⟨"ejections", 3, 5, false, "", "barbican/health", 56⟩]) := by kernel_rfl
theorem inf89 : (Try.prog.info? 89).map (fun i => (i.size, i.bytes, i.zero)) = some (6, 64, some (.agg #[.int .i64 0, .int .i64 0, .int .i64 0, .slice none 0 0, .int .i64 0, .int .i64 0])) := by kernel_rfl
theorem und90 : Try.prog.underlying 90 = some (.struct #[⟨"fails", 3, 0, false, "", "barbican/health", 0⟩, ⟨"eject", 3, 1, false, "", "barbican/health", 8⟩, ⟨"panic", 3, 2, false, "", "barbican/health", 16⟩, ⟨"hosts", 88, 3, false, "", "barbican/health", 24⟩, ⟨"seen", 3, 4, false, "", "barbican/health", 48⟩, ⟨"ejections", 3, 5, false, "", "barbican/health", 56⟩]) := by kernel_rfl
theorem inf90 : (Try.prog.info? 90).map (fun i => (i.size, i.bytes, i.zero)) = some (6, 64, some (.agg #[.int .i64 0, .int .i64 0, .int .i64 0, .slice none 0 0, .int .i64 0, .int .i64 0])) := by kernel_rfl
theorem und92 : Try.prog.underlying 92 = some (.pointer 94) := by kernel_rfl
theorem inf92 : (Try.prog.info? 92).map (fun i => (i.size, i.bytes, i.zero)) = some (1, 8, some (.pointer none)) := by kernel_rfl
theorem und93 : Try.prog.underlying 93 = some (.struct #[⟨"row", 3, 0, false, "", "barbican/health", 0⟩, ⟨"until", 3, 1, false, "", "barbican/health", 8⟩]) := by kernel_rfl
theorem inf93 : (Try.prog.info? 93).map (fun i => (i.size, i.bytes, i.zero)) = some (2, 16, some (.agg #[.int .i64 0, .int .i64 0])) := by kernel_rfl
theorem und94 : Try.prog.underlying 94 = some (.struct #[⟨"row", 3, 0, false, "", "barbican/health", 0⟩, ⟨"until", 3, 1, false, "", "barbican/health", 8⟩]) := by kernel_rfl
theorem inf94 : (Try.prog.info? 94).map (fun i => (i.size, i.bytes, i.zero)) = some (2, 16, some (.agg #[.int .i64 0, .int .i64 0])) := by kernel_rfl
theorem und95 : Try.prog.underlying 95 = some (.struct #[⟨"Now", 3, 0, false, "", "", 0⟩, ⟨"Host", 3, 1, false, "", "", 8⟩, ⟨"Ok", 4, 2, false, "", "", 16⟩]) := by kernel_rfl
theorem inf95 : (Try.prog.info? 95).map (fun i => (i.size, i.bytes, i.zero)) = some (3, 24, some (.agg #[.int .i64 0, .int .i64 0, .bool false])) := by kernel_rfl
theorem und96 : Try.prog.underlying 96 = some (.struct #[⟨"Now", 3, 0, false, "", "", 0⟩, ⟨"Host", 3, 1, false, "", "", 8⟩, ⟨"Ok", 4, 2, false, "", "", 16⟩]) := by kernel_rfl
theorem inf96 : (Try.prog.info? 96).map (fun i => (i.size, i.bytes, i.zero)) = some (3, 24, some (.agg #[.int .i64 0, .int .i64 0, .bool false])) := by kernel_rfl
theorem und99 : Try.prog.underlying 99 = some (.map 3 102) := by kernel_rfl
theorem inf99 : (Try.prog.info? 99).map (fun i => (i.size, i.bytes, i.zero)) = some (1, 8, some (.map none)) := by kernel_rfl
theorem und100 : Try.prog.underlying 100 = some (.struct #[⟨"budget", 3, 0, false, "", "barbican/retry", 0⟩, ⟨"dice", 31, 1, false, "", "barbican/retry", 8⟩, ⟨"holds", 99, 2, false, "", "barbican/retry", 16⟩]) := by kernel_rfl
theorem inf100 : (Try.prog.info? 100).map (fun i => (i.size, i.bytes, i.zero)) = some (3, 24, some (.agg #[.int .i64 0, .pointer none, .map none])) := by kernel_rfl
theorem und101 : Try.prog.underlying 101 = some (.struct #[⟨"budget", 3, 0, false, "", "barbican/retry", 0⟩, ⟨"dice", 31, 1, false, "", "barbican/retry", 8⟩, ⟨"holds", 99, 2, false, "", "barbican/retry", 16⟩]) := by kernel_rfl
theorem inf101 : (Try.prog.info? 101).map (fun i => (i.size, i.bytes, i.zero)) = some (3, 24, some (.agg #[.int .i64 0, .pointer none, .map none])) := by kernel_rfl
theorem und102 : Try.prog.underlying 102 = some (.struct #[]) := by kernel_rfl
theorem inf102 : (Try.prog.info? 102).map (fun i => (i.size, i.bytes, i.zero)) = some (0, 0, some (.agg #[])) := by kernel_rfl
theorem und110 : Try.prog.underlying 110 = some (.int .u32) := by kernel_rfl
theorem inf110 : (Try.prog.info? 110).map (fun i => (i.size, i.bytes, i.zero)) = some (1, 4, some (.int .u32 0)) := by kernel_rfl
theorem und114 : Try.prog.underlying 114 = some (.pointer 5) := by kernel_rfl
theorem inf114 : (Try.prog.info? 114).map (fun i => (i.size, i.bytes, i.zero)) = some (1, 8, some (.pointer none)) := by kernel_rfl
theorem und119 : Try.prog.underlying 119 = some (.unsafePointer) := by kernel_rfl
theorem inf119 : (Try.prog.info? 119).map (fun i => (i.size, i.bytes, i.zero)) = some (1, 8, some (.pointer none)) := by kernel_rfl
theorem follows_ok : Try.prog.follows .mixedOrders = true := by kernel_rfl
def rows : List Sx.TRow := [
  ⟨2, .int .i64, 1, 8, .int .i64 0, []⟩,
  ⟨3, .int .i64, 1, 8, .int .i64 0, []⟩,
  ⟨4, .bool, 1, 1, .bool false, []⟩,
  ⟨5, .int .u8, 1, 1, .int .u8 0, []⟩,
  ⟨9, .string, 1, 16, .string ⟨#[]⟩, []⟩,
  ⟨12, .int .u64, 1, 8, .int .u64 0, []⟩,
  ⟨20, .interface #[], 1, 16, .nilIface, []⟩,
  ⟨21, .int .i32, 1, 4, .int .i32 0, []⟩,
  ⟨22, .int .u64, 1, 8, .int .u64 0, []⟩,
  ⟨25, .int .u64, 1, 8, .int .u64 0, []⟩,
  ⟨29, .slice 5, 1, 24, .slice none 0 0, []⟩,
  ⟨31, .pointer 84, 1, 8, .pointer none, []⟩,
  ⟨37, .slice 42, 1, 24, .slice none 0 0, []⟩,
  ⟨38, .pointer 40, 1, 8, .pointer none, []⟩,
  ⟨39, .struct #[⟨"State", 22, 0, false, "", "", 0⟩, ⟨"Drawn", 3, 1, false, "", "", 8⟩], 2, 16, .agg #[.int .u64 0, .int .i64 0], [0, 1]⟩,
  ⟨40, .struct #[⟨"State", 22, 0, false, "", "", 0⟩, ⟨"Drawn", 3, 1, false, "", "", 8⟩], 2, 16, .agg #[.int .u64 0, .int .i64 0], [0, 1]⟩,
  ⟨41, .struct #[⟨"Kind", 3, 0, false, "", "", 0⟩, ⟨"A", 3, 1, false, "", "", 8⟩, ⟨"B", 3, 2, false, "", "", 16⟩], 3, 24, .agg #[.int .i64 0, .int .i64 0, .int .i64 0], [0, 1, 2]⟩,
  ⟨42, .struct #[⟨"Kind", 3, 0, false, "", "", 0⟩, ⟨"A", 3, 1, false, "", "", 8⟩, ⟨"B", 3, 2, false, "", "", 16⟩], 3, 24, .agg #[.int .i64 0, .int .i64 0, .int .i64 0], [0, 1, 2]⟩,
  ⟨46, .slice 55, 1, 24, .slice none 0 0, []⟩,
  ⟨48, .pointer 90, 1, 8, .pointer none, []⟩,
  ⟨50, .pointer 53, 1, 8, .pointer none, []⟩,
  ⟨51, .slice 96, 1, 24, .slice none 0 0, []⟩,
  ⟨52, .struct #[⟨"Hosts", 3, 0, false, "", "", 0⟩, ⟨"Fails", 3, 1, false, "", "", 8⟩, ⟨"Eject", 3, 2, false, "", "", 16⟩, ⟨"Panic", 3, 3, false, "", "", 24⟩, ⟨"Seen", 3, 4, false, "", "", 32⟩, ⟨"All", 51, 5, false, "", "", 40⟩], 6, 64, .agg #[.int .i64 0, .int .i64 0, .int .i64 0, .int .i64 0, .int .i64 0, .slice none 0 0], [0, 1, 2, 3, 4, 5]⟩,
  ⟨53, .struct #[⟨"Hosts", 3, 0, false, "", "", 0⟩, ⟨"Fails", 3, 1, false, "", "", 8⟩, ⟨"Eject", 3, 2, false, "", "", 16⟩, ⟨"Panic", 3, 3, false, "", "", 24⟩, ⟨"Seen", 3, 4, false, "", "", 32⟩, ⟨"All", 51, 5, false, "", "", 40⟩], 6, 64, .agg #[.int .i64 0, .int .i64 0, .int .i64 0, .int .i64 0, .int .i64 0, .slice none 0 0], [0, 1, 2, 3, 4, 5]⟩,
  ⟨54, .struct #[⟨"Kind", 3, 0, false, "", "", 0⟩, ⟨"Now", 3, 1, false, "", "", 8⟩, ⟨"Host", 3, 2, false, "", "", 16⟩, ⟨"Ok", 4, 3, false, "", "", 24⟩], 4, 32, .agg #[.int .i64 0, .int .i64 0, .int .i64 0, .bool false], [0, 1, 2, 3]⟩,
  ⟨55, .struct #[⟨"Kind", 3, 0, false, "", "", 0⟩, ⟨"Now", 3, 1, false, "", "", 8⟩, ⟨"Host", 3, 2, false, "", "", 16⟩, ⟨"Ok", 4, 3, false, "", "", 24⟩], 4, 32, .agg #[.int .i64 0, .int .i64 0, .int .i64 0, .bool false], [0, 1, 2, 3]⟩,
  ⟨56, .int .i64, 1, 8, .int .i64 0, []⟩,
  ⟨59, .slice 4, 1, 24, .slice none 0 0, []⟩,
  ⟨66, .slice 3, 1, 24, .slice none 0 0, []⟩,
  ⟨68, .slice 48, 1, 24, .slice none 0 0, []⟩,
  ⟨70, .slice 76, 1, 24, .slice none 0 0, []⟩,
  ⟨71, .pointer 101, 1, 8, .pointer none, []⟩,
  ⟨73, .pointer 81, 1, 8, .pointer none, []⟩,
  ⟨75, .struct #[⟨"Kind", 3, 0, false, "", "", 0⟩, ⟨"X", 3, 1, false, "", "", 8⟩, ⟨"A", 3, 2, false, "", "", 16⟩, ⟨"B", 3, 3, false, "", "", 24⟩], 4, 32, .agg #[.int .i64 0, .int .i64 0, .int .i64 0, .int .i64 0], [0, 1, 2, 3]⟩,
  ⟨76, .struct #[⟨"Kind", 3, 0, false, "", "", 0⟩, ⟨"X", 3, 1, false, "", "", 8⟩, ⟨"A", 3, 2, false, "", "", 16⟩, ⟨"B", 3, 3, false, "", "", 24⟩], 4, 32, .agg #[.int .i64 0, .int .i64 0, .int .i64 0, .int .i64 0], [0, 1, 2, 3]⟩,
  ⟨80, .struct #[⟨"Budget", 3, 0, false, "", "", 0⟩, ⟨"Dice", 40, 1, false, "", "", 8⟩, ⟨"Holds", 66, 3, false, "", "", 24⟩], 4, 48, .agg #[.int .i64 0, .int .u64 0, .int .i64 0, .slice none 0 0], [0, 1, 3]⟩,
  ⟨81, .struct #[⟨"Budget", 3, 0, false, "", "", 0⟩, ⟨"Dice", 40, 1, false, "", "", 8⟩, ⟨"Holds", 66, 3, false, "", "", 24⟩], 4, 48, .agg #[.int .i64 0, .int .u64 0, .int .i64 0, .slice none 0 0], [0, 1, 3]⟩,
  ⟨83, .struct #[⟨"state", 22, 0, false, "", "barbican/dice", 0⟩, ⟨"drawn", 3, 1, false, "", "barbican/dice", 8⟩], 2, 16, .agg #[.int .u64 0, .int .i64 0], [0, 1]⟩,
  ⟨84, .struct #[⟨"state", 22, 0, false, "", "barbican/dice", 0⟩, ⟨"drawn", 3, 1, false, "", "barbican/dice", 8⟩], 2, 16, .agg #[.int .u64 0, .int .i64 0], [0, 1]⟩,
  ⟨88, .slice 94, 1, 24, .slice none 0 0, []⟩,
  ⟨89, .struct #[⟨"fails", 3, 0, false, "", "barbican/health", 0⟩, ⟨"eject", 3, 1, false, "", "barbican/health", 8⟩, ⟨"panic", 3, 2, false, "", "barbican/health", 16⟩, ⟨"hosts", 88, 3, false, "", "barbican/health", 24⟩, ⟨"seen", 3, 4, false, "", "barbican/health", 48⟩, ⟨"ejections", 3, 5, false, "", "barbican/health", 56⟩], 6, 64, .agg #[.int .i64 0, .int .i64 0, .int .i64 0, .slice none 0 0, .int .i64 0, .int .i64 0], [0, 1, 2, 3, 4, 5]⟩,
  ⟨90, .struct #[⟨"fails", 3, 0, false, "", "barbican/health", 0⟩, ⟨"eject", 3, 1, false, "", "barbican/health", 8⟩, ⟨"panic", 3, 2, false, "", "barbican/health", 16⟩, ⟨"hosts", 88, 3, false, "", "barbican/health", 24⟩, ⟨"seen", 3, 4, false, "", "barbican/health", 48⟩, ⟨"ejections", 3, 5, false, "", "barbican/health", 56⟩], 6, 64, .agg #[.int .i64 0, .int .i64 0, .int .i64 0, .slice none 0 0, .int .i64 0, .int .i64 0], [0, 1, 2, 3, 4, 5]⟩,
  ⟨92, .pointer 94, 1, 8, .pointer none, []⟩,
  ⟨93, .struct #[⟨"row", 3, 0, false, "", "barbican/health", 0⟩, ⟨"until", 3, 1, false, "", "barbican/health", 8⟩], 2, 16, .agg #[.int .i64 0, .int .i64 0], [0, 1]⟩,
  ⟨94, .struct #[⟨"row", 3, 0, false, "", "barbican/health", 0⟩, ⟨"until", 3, 1, false, "", "barbican/health", 8⟩], 2, 16, .agg #[.int .i64 0, .int .i64 0], [0, 1]⟩,
  ⟨95, .struct #[⟨"Now", 3, 0, false, "", "", 0⟩, ⟨"Host", 3, 1, false, "", "", 8⟩, ⟨"Ok", 4, 2, false, "", "", 16⟩], 3, 24, .agg #[.int .i64 0, .int .i64 0, .bool false], [0, 1, 2]⟩,
  ⟨96, .struct #[⟨"Now", 3, 0, false, "", "", 0⟩, ⟨"Host", 3, 1, false, "", "", 8⟩, ⟨"Ok", 4, 2, false, "", "", 16⟩], 3, 24, .agg #[.int .i64 0, .int .i64 0, .bool false], [0, 1, 2]⟩,
  ⟨99, .map 3 102, 1, 8, .map none, []⟩,
  ⟨100, .struct #[⟨"budget", 3, 0, false, "", "barbican/retry", 0⟩, ⟨"dice", 31, 1, false, "", "barbican/retry", 8⟩, ⟨"holds", 99, 2, false, "", "barbican/retry", 16⟩], 3, 24, .agg #[.int .i64 0, .pointer none, .map none], [0, 1, 2]⟩,
  ⟨101, .struct #[⟨"budget", 3, 0, false, "", "barbican/retry", 0⟩, ⟨"dice", 31, 1, false, "", "barbican/retry", 8⟩, ⟨"holds", 99, 2, false, "", "barbican/retry", 16⟩], 3, 24, .agg #[.int .i64 0, .pointer none, .map none], [0, 1, 2]⟩,
  ⟨102, .struct #[], 0, 0, .agg #[], []⟩,
  ⟨110, .int .u32, 1, 4, .int .u32 0, []⟩,
  ⟨114, .pointer 5, 1, 8, .pointer none, []⟩,
  ⟨119, .unsafePointer, 1, 8, .pointer none, []⟩]
def TT : Sx.Tbl := Sx.tbl rows
theorem TT_ok : TT.Ok Try.prog := Sx.tbl_ok (by
  simp only [rows, Sx.RowsOk]
  exact ⟨⟨und2, inf2⟩, ⟨und3, inf3⟩, ⟨und4, inf4⟩, ⟨und5, inf5⟩, ⟨und9, inf9⟩, ⟨und12, inf12⟩, ⟨und20, inf20⟩, ⟨und21, inf21⟩, ⟨und22, inf22⟩, ⟨und25, inf25⟩, ⟨und29, inf29⟩, ⟨und31, inf31⟩, ⟨und37, inf37⟩, ⟨und38, inf38⟩, ⟨und39, inf39⟩, ⟨und40, inf40⟩, ⟨und41, inf41⟩, ⟨und42, inf42⟩, ⟨und46, inf46⟩, ⟨und48, inf48⟩, ⟨und50, inf50⟩, ⟨und51, inf51⟩, ⟨und52, inf52⟩, ⟨und53, inf53⟩, ⟨und54, inf54⟩, ⟨und55, inf55⟩, ⟨und56, inf56⟩, ⟨und59, inf59⟩, ⟨und66, inf66⟩, ⟨und68, inf68⟩, ⟨und70, inf70⟩, ⟨und71, inf71⟩, ⟨und73, inf73⟩, ⟨und75, inf75⟩, ⟨und76, inf76⟩, ⟨und80, inf80⟩, ⟨und81, inf81⟩, ⟨und83, inf83⟩, ⟨und84, inf84⟩, ⟨und88, inf88⟩, ⟨und89, inf89⟩, ⟨und90, inf90⟩, ⟨und92, inf92⟩, ⟨und93, inf93⟩, ⟨und94, inf94⟩, ⟨und95, inf95⟩, ⟨und96, inf96⟩, ⟨und99, inf99⟩, ⟨und100, inf100⟩, ⟨und101, inf101⟩, ⟨und102, inf102⟩, ⟨und110, inf110⟩, ⟨und114, inf114⟩, ⟨und119, inf119⟩, trivial⟩) (by kernel_rfl)
end Go.Proofs.Ytbpkoehgjhofaaa
