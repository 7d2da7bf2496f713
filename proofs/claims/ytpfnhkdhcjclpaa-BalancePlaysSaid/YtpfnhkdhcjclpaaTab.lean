/- The types that the functions of this seat meet: what stands under them, their cells, bytes and zero values. Conditions: none. -/
import Derived.Test.YtpfnhkdhcjclpaaProg
import Derived.Test.YtpfnhkdhcjclpaaSxTab
import Derived.Test.YtpfnhkdhcjclpaaSxF
import Derived.KernelRfl
namespace Go.Proofs.Ytpfnhkdhcjclpaa
open Go
theorem und2 : Try.prog.underlying 2 = some (.int .i64) := by kernel_rfl
set_option maxRecDepth 100000 in
theorem inf2 : (Try.prog.info? 2).map (fun i => (i.size, i.bytes, i.zero)) = some (1, 8, some (.int .i64 0)) := by kernel_rfl
theorem und3 : Try.prog.underlying 3 = some (.int .i64) := by kernel_rfl
set_option maxRecDepth 100000 in
theorem inf3 : (Try.prog.info? 3).map (fun i => (i.size, i.bytes, i.zero)) = some (1, 8, some (.int .i64 0)) := by kernel_rfl
theorem und4 : Try.prog.underlying 4 = some (.bool) := by kernel_rfl
set_option maxRecDepth 100000 in
theorem inf4 : (Try.prog.info? 4).map (fun i => (i.size, i.bytes, i.zero)) = some (1, 1, some (.bool false)) := by kernel_rfl
theorem und5 : Try.prog.underlying 5 = some (.int .u8) := by kernel_rfl
set_option maxRecDepth 100000 in
theorem inf5 : (Try.prog.info? 5).map (fun i => (i.size, i.bytes, i.zero)) = some (1, 1, some (.int .u8 0)) := by kernel_rfl
theorem und9 : Try.prog.underlying 9 = some (.string) := by kernel_rfl
set_option maxRecDepth 100000 in
theorem inf9 : (Try.prog.info? 9).map (fun i => (i.size, i.bytes, i.zero)) = some (1, 16, some (.string ⟨#[]⟩)) := by kernel_rfl
theorem und12 : Try.prog.underlying 12 = some (.int .u64) := by kernel_rfl
set_option maxRecDepth 100000 in
theorem inf12 : (Try.prog.info? 12).map (fun i => (i.size, i.bytes, i.zero)) = some (1, 8, some (.int .u64 0)) := by kernel_rfl
theorem und20 : Try.prog.underlying 20 = some (.interface #[]) := by kernel_rfl
set_option maxRecDepth 100000 in
theorem inf20 : (Try.prog.info? 20).map (fun i => (i.size, i.bytes, i.zero)) = some (1, 16, some (.nilIface)) := by kernel_rfl
theorem und21 : Try.prog.underlying 21 = some (.int .i32) := by kernel_rfl
set_option maxRecDepth 100000 in
theorem inf21 : (Try.prog.info? 21).map (fun i => (i.size, i.bytes, i.zero)) = some (1, 4, some (.int .i32 0)) := by kernel_rfl
theorem und23 : Try.prog.underlying 23 = some (.pointer 69) := by kernel_rfl
set_option maxRecDepth 100000 in
theorem inf23 : (Try.prog.info? 23).map (fun i => (i.size, i.bytes, i.zero)) = some (1, 8, some (.pointer none)) := by kernel_rfl
theorem und25 : Try.prog.underlying 25 = some (.struct #[⟨"Kind", 3, 0, false, "", "", 0⟩, ⟨"Conn", 3, 1, false, "", "", 8⟩, ⟨"Closed", 3, 2, false, "", "", 16⟩]) := by kernel_rfl
set_option maxRecDepth 100000 in
theorem inf25 : (Try.prog.info? 25).map (fun i => (i.size, i.bytes, i.zero)) = some (3, 24, some (.agg #[.int .i64 0, .int .i64 0, .int .i64 0])) := by kernel_rfl
theorem und26 : Try.prog.underlying 26 = some (.struct #[⟨"Kind", 3, 0, false, "", "", 0⟩, ⟨"Conn", 3, 1, false, "", "", 8⟩, ⟨"Closed", 3, 2, false, "", "", 16⟩]) := by kernel_rfl
set_option maxRecDepth 100000 in
theorem inf26 : (Try.prog.info? 26).map (fun i => (i.size, i.bytes, i.zero)) = some (3, 24, some (.agg #[.int .i64 0, .int .i64 0, .int .i64 0])) := by kernel_rfl
theorem und27 : Try.prog.underlying 27 = some (.int .i64) := by kernel_rfl
set_option maxRecDepth 100000 in
theorem inf27 : (Try.prog.info? 27).map (fun i => (i.size, i.bytes, i.zero)) = some (1, 8, some (.int .i64 0)) := by kernel_rfl
theorem und32 : Try.prog.underlying 32 = some (.slice 3) := by kernel_rfl
set_option maxRecDepth 100000 in
theorem inf32 : (Try.prog.info? 32).map (fun i => (i.size, i.bytes, i.zero)) = some (1, 24, some (.slice none 0 0)) := by kernel_rfl
theorem und33 : Try.prog.underlying 33 = some (.slice 4) := by kernel_rfl
set_option maxRecDepth 100000 in
theorem inf33 : (Try.prog.info? 33).map (fun i => (i.size, i.bytes, i.zero)) = some (1, 24, some (.slice none 0 0)) := by kernel_rfl
theorem und38 : Try.prog.underlying 38 = some (.slice 40) := by kernel_rfl
set_option maxRecDepth 100000 in
theorem inf38 : (Try.prog.info? 38).map (fun i => (i.size, i.bytes, i.zero)) = some (1, 24, some (.slice none 0 0)) := by kernel_rfl
theorem und39 : Try.prog.underlying 39 = some (.struct #[⟨"Kind", 3, 0, false, "", "", 0⟩, ⟨"A", 3, 1, false, "", "", 8⟩, ⟨"B", 3, 2, false, "", "", 16⟩]) := by kernel_rfl
set_option maxRecDepth 100000 in
theorem inf39 : (Try.prog.info? 39).map (fun i => (i.size, i.bytes, i.zero)) = some (3, 24, some (.agg #[.int .i64 0, .int .i64 0, .int .i64 0])) := by kernel_rfl
theorem und40 : Try.prog.underlying 40 = some (.struct #[⟨"Kind", 3, 0, false, "", "", 0⟩, ⟨"A", 3, 1, false, "", "", 8⟩, ⟨"B", 3, 2, false, "", "", 16⟩]) := by kernel_rfl
set_option maxRecDepth 100000 in
theorem inf40 : (Try.prog.info? 40).map (fun i => (i.size, i.bytes, i.zero)) = some (3, 24, some (.agg #[.int .i64 0, .int .i64 0, .int .i64 0])) := by kernel_rfl
theorem und46 : Try.prog.underlying 46 = some (.slice 9) := by kernel_rfl
set_option maxRecDepth 100000 in
theorem inf46 : (Try.prog.info? 46).map (fun i => (i.size, i.bytes, i.zero)) = some (1, 24, some (.slice none 0 0)) := by kernel_rfl
theorem und47 : Try.prog.underlying 47 = some (.slice 53) := by kernel_rfl
set_option maxRecDepth 100000 in
theorem inf47 : (Try.prog.info? 47).map (fun i => (i.size, i.bytes, i.zero)) = some (1, 24, some (.slice none 0 0)) := by kernel_rfl
theorem und48 : Try.prog.underlying 48 = some (.pointer 84) := by kernel_rfl
set_option maxRecDepth 100000 in
theorem inf48 : (Try.prog.info? 48).map (fun i => (i.size, i.bytes, i.zero)) = some (1, 8, some (.pointer none)) := by kernel_rfl
theorem und50 : Try.prog.underlying 50 = some (.pointer 98) := by kernel_rfl
set_option maxRecDepth 100000 in
theorem inf50 : (Try.prog.info? 50).map (fun i => (i.size, i.bytes, i.zero)) = some (1, 8, some (.pointer none)) := by kernel_rfl
theorem und52 : Try.prog.underlying 52 = some (.struct #[⟨"Open", 33, 0, false, "", "", 0⟩, ⟨"Loads", 32, 1, false, "", "", 24⟩, ⟨"Key", 9, 2, false, "", "", 48⟩]) := by kernel_rfl
set_option maxRecDepth 100000 in
theorem inf52 : (Try.prog.info? 52).map (fun i => (i.size, i.bytes, i.zero)) = some (3, 64, some (.agg #[.slice none 0 0, .slice none 0 0, .string ⟨#[]⟩])) := by kernel_rfl
theorem und53 : Try.prog.underlying 53 = some (.struct #[⟨"Open", 33, 0, false, "", "", 0⟩, ⟨"Loads", 32, 1, false, "", "", 24⟩, ⟨"Key", 9, 2, false, "", "", 48⟩]) := by kernel_rfl
set_option maxRecDepth 100000 in
theorem inf53 : (Try.prog.info? 53).map (fun i => (i.size, i.bytes, i.zero)) = some (3, 64, some (.agg #[.slice none 0 0, .slice none 0 0, .string ⟨#[]⟩])) := by kernel_rfl
theorem und60 : Try.prog.underlying 60 = some (.pointer 64) := by kernel_rfl
set_option maxRecDepth 100000 in
theorem inf60 : (Try.prog.info? 60).map (fun i => (i.size, i.bytes, i.zero)) = some (1, 8, some (.pointer none)) := by kernel_rfl
theorem und61 : Try.prog.underlying 61 = some (.slice 136) := by kernel_rfl
set_option maxRecDepth 100000 in
theorem inf61 : (Try.prog.info? 61).map (fun i => (i.size, i.bytes, i.zero)) = some (1, 24, some (.slice none 0 0)) := by kernel_rfl
theorem und62 : Try.prog.underlying 62 = some (.slice 134) := by kernel_rfl
set_option maxRecDepth 100000 in
theorem inf62 : (Try.prog.info? 62).map (fun i => (i.size, i.bytes, i.zero)) = some (1, 24, some (.slice none 0 0)) := by kernel_rfl
theorem und63 : Try.prog.underlying 63 = some (.struct #[⟨"Most", 3, 0, false, "", "", 0⟩, ⟨"Pending", 3, 1, false, "", "", 8⟩, ⟨"Opened", 3, 2, false, "", "", 16⟩, ⟨"Conns", 61, 3, false, "", "", 24⟩, ⟨"Queue", 62, 4, false, "", "", 48⟩]) := by kernel_rfl
set_option maxRecDepth 100000 in
theorem inf63 : (Try.prog.info? 63).map (fun i => (i.size, i.bytes, i.zero)) = some (5, 72, some (.agg #[.int .i64 0, .int .i64 0, .int .i64 0, .slice none 0 0, .slice none 0 0])) := by kernel_rfl
theorem und64 : Try.prog.underlying 64 = some (.struct #[⟨"Most", 3, 0, false, "", "", 0⟩, ⟨"Pending", 3, 1, false, "", "", 8⟩, ⟨"Opened", 3, 2, false, "", "", 16⟩, ⟨"Conns", 61, 3, false, "", "", 24⟩, ⟨"Queue", 62, 4, false, "", "", 48⟩]) := by kernel_rfl
set_option maxRecDepth 100000 in
theorem inf64 : (Try.prog.info? 64).map (fun i => (i.size, i.bytes, i.zero)) = some (5, 72, some (.agg #[.int .i64 0, .int .i64 0, .int .i64 0, .slice none 0 0, .slice none 0 0])) := by kernel_rfl
theorem und66 : Try.prog.underlying 66 = some (.map 3 75) := by kernel_rfl
set_option maxRecDepth 100000 in
theorem inf66 : (Try.prog.info? 66).map (fun i => (i.size, i.bytes, i.zero)) = some (1, 8, some (.map none)) := by kernel_rfl
theorem und67 : Try.prog.underlying 67 = some (.slice 71) := by kernel_rfl
set_option maxRecDepth 100000 in
theorem inf67 : (Try.prog.info? 67).map (fun i => (i.size, i.bytes, i.zero)) = some (1, 24, some (.slice none 0 0)) := by kernel_rfl
theorem und68 : Try.prog.underlying 68 = some (.struct #[⟨"most", 3, 0, false, "", "barbican/pool", 0⟩, ⟨"pending", 3, 1, false, "", "barbican/pool", 8⟩, ⟨"conns", 66, 2, false, "", "barbican/pool", 16⟩, ⟨"opened", 3, 3, false, "", "barbican/pool", 24⟩, ⟨"queue", 67, 4, false, "", "barbican/pool", 32⟩]) := by kernel_rfl
set_option maxRecDepth 100000 in
theorem inf68 : (Try.prog.info? 68).map (fun i => (i.size, i.bytes, i.zero)) = some (5, 56, some (.agg #[.int .i64 0, .int .i64 0, .map none, .int .i64 0, .slice none 0 0])) := by kernel_rfl
theorem und69 : Try.prog.underlying 69 = some (.struct #[⟨"most", 3, 0, false, "", "barbican/pool", 0⟩, ⟨"pending", 3, 1, false, "", "barbican/pool", 8⟩, ⟨"conns", 66, 2, false, "", "barbican/pool", 16⟩, ⟨"opened", 3, 3, false, "", "barbican/pool", 24⟩, ⟨"queue", 67, 4, false, "", "barbican/pool", 32⟩]) := by kernel_rfl
set_option maxRecDepth 100000 in
theorem inf69 : (Try.prog.info? 69).map (fun i => (i.size, i.bytes, i.zero)) = some (5, 56, some (.agg #[.int .i64 0, .int .i64 0, .map none, .int .i64 0, .slice none 0 0])) := by kernel_rfl
theorem und70 : Try.prog.underlying 70 = some (.struct #[⟨"x", 3, 0, false, "", "barbican/pool", 0⟩, ⟨"host", 3, 1, false, "", "barbican/pool", 8⟩]) := by kernel_rfl
set_option maxRecDepth 100000 in
theorem inf70 : (Try.prog.info? 70).map (fun i => (i.size, i.bytes, i.zero)) = some (2, 16, some (.agg #[.int .i64 0, .int .i64 0])) := by kernel_rfl
theorem und71 : Try.prog.underlying 71 = some (.struct #[⟨"x", 3, 0, false, "", "barbican/pool", 0⟩, ⟨"host", 3, 1, false, "", "barbican/pool", 8⟩]) := by kernel_rfl
set_option maxRecDepth 100000 in
theorem inf71 : (Try.prog.info? 71).map (fun i => (i.size, i.bytes, i.zero)) = some (2, 16, some (.agg #[.int .i64 0, .int .i64 0])) := by kernel_rfl
theorem und74 : Try.prog.underlying 74 = some (.struct #[⟨"host", 3, 0, false, "", "barbican/pool", 0⟩, ⟨"by", 3, 1, false, "", "barbican/pool", 8⟩, ⟨"busy", 4, 2, false, "", "barbican/pool", 16⟩]) := by kernel_rfl
set_option maxRecDepth 100000 in
theorem inf74 : (Try.prog.info? 74).map (fun i => (i.size, i.bytes, i.zero)) = some (3, 24, some (.agg #[.int .i64 0, .int .i64 0, .bool false])) := by kernel_rfl
theorem und75 : Try.prog.underlying 75 = some (.struct #[⟨"host", 3, 0, false, "", "barbican/pool", 0⟩, ⟨"by", 3, 1, false, "", "barbican/pool", 8⟩, ⟨"busy", 4, 2, false, "", "barbican/pool", 16⟩]) := by kernel_rfl
set_option maxRecDepth 100000 in
theorem inf75 : (Try.prog.info? 75).map (fun i => (i.size, i.bytes, i.zero)) = some (3, 24, some (.agg #[.int .i64 0, .int .i64 0, .bool false])) := by kernel_rfl
theorem und80 : Try.prog.underlying 80 = some (.pointer 118) := by kernel_rfl
set_option maxRecDepth 100000 in
theorem inf80 : (Try.prog.info? 80).map (fun i => (i.size, i.bytes, i.zero)) = some (1, 8, some (.pointer none)) := by kernel_rfl
theorem und82 : Try.prog.underlying 82 = some (.slice 89) := by kernel_rfl
set_option maxRecDepth 100000 in
theorem inf82 : (Try.prog.info? 82).map (fun i => (i.size, i.bytes, i.zero)) = some (1, 24, some (.slice none 0 0)) := by kernel_rfl
theorem und83 : Try.prog.underlying 83 = some (.struct #[⟨"policy", 3, 0, false, "", "barbican/balance", 0⟩, ⟨"hosts", 3, 1, false, "", "barbican/balance", 8⟩, ⟨"last", 3, 2, false, "", "barbican/balance", 16⟩, ⟨"dice", 80, 3, false, "", "barbican/balance", 24⟩, ⟨"ring", 82, 4, false, "", "barbican/balance", 32⟩]) := by kernel_rfl
set_option maxRecDepth 100000 in
theorem inf83 : (Try.prog.info? 83).map (fun i => (i.size, i.bytes, i.zero)) = some (5, 56, some (.agg #[.int .i64 0, .int .i64 0, .int .i64 0, .pointer none, .slice none 0 0])) := by kernel_rfl
theorem und84 : Try.prog.underlying 84 = some (.struct #[⟨"policy", 3, 0, false, "", "barbican/balance", 0⟩, ⟨"hosts", 3, 1, false, "", "barbican/balance", 8⟩, ⟨"last", 3, 2, false, "", "barbican/balance", 16⟩, ⟨"dice", 80, 3, false, "", "barbican/balance", 24⟩, ⟨"ring", 82, 4, false, "", "barbican/balance", 32⟩]) := by kernel_rfl
set_option maxRecDepth 100000 in
theorem inf84 : (Try.prog.info? 84).map (fun i => (i.size, i.bytes, i.zero)) = some (5, 56, some (.agg #[.int .i64 0, .int .i64 0, .int .i64 0, .pointer none, .slice none 0 0])) := by kernel_rfl
theorem und85 : Try.prog.underlying 85 = some (.int .u64) := by kernel_rfl
set_option maxRecDepth 100000 in
theorem inf85 : (Try.prog.info? 85).map (fun i => (i.size, i.bytes, i.zero)) = some (1, 8, some (.int .u64 0)) := by kernel_rfl
theorem und88 : Try.prog.underlying 88 = some (.struct #[⟨"at", 85, 0, false, "", "barbican/balance", 0⟩, ⟨"host", 3, 1, false, "", "barbican/balance", 8⟩]) := by kernel_rfl
set_option maxRecDepth 100000 in
theorem inf88 : (Try.prog.info? 88).map (fun i => (i.size, i.bytes, i.zero)) = some (2, 16, some (.agg #[.int .u64 0, .int .i64 0])) := by kernel_rfl
theorem und89 : Try.prog.underlying 89 = some (.struct #[⟨"at", 85, 0, false, "", "barbican/balance", 0⟩, ⟨"host", 3, 1, false, "", "barbican/balance", 8⟩]) := by kernel_rfl
set_option maxRecDepth 100000 in
theorem inf89 : (Try.prog.info? 89).map (fun i => (i.size, i.bytes, i.zero)) = some (2, 16, some (.agg #[.int .u64 0, .int .i64 0])) := by kernel_rfl
theorem und95 : Try.prog.underlying 95 = some (.struct #[⟨"State", 85, 0, false, "", "", 0⟩, ⟨"Drawn", 3, 1, false, "", "", 8⟩]) := by kernel_rfl
set_option maxRecDepth 100000 in
theorem inf95 : (Try.prog.info? 95).map (fun i => (i.size, i.bytes, i.zero)) = some (2, 16, some (.agg #[.int .u64 0, .int .i64 0])) := by kernel_rfl
theorem und96 : Try.prog.underlying 96 = some (.struct #[⟨"State", 85, 0, false, "", "", 0⟩, ⟨"Drawn", 3, 1, false, "", "", 8⟩]) := by kernel_rfl
set_option maxRecDepth 100000 in
theorem inf96 : (Try.prog.info? 96).map (fun i => (i.size, i.bytes, i.zero)) = some (2, 16, some (.agg #[.int .u64 0, .int .i64 0])) := by kernel_rfl
theorem und97 : Try.prog.underlying 97 = some (.struct #[⟨"Policy", 3, 0, false, "", "", 0⟩, ⟨"Last", 3, 1, false, "", "", 8⟩, ⟨"Hosts", 46, 2, false, "", "", 16⟩, ⟨"Dice", 96, 3, false, "", "", 40⟩]) := by kernel_rfl
set_option maxRecDepth 100000 in
theorem inf97 : (Try.prog.info? 97).map (fun i => (i.size, i.bytes, i.zero)) = some (5, 56, some (.agg #[.int .i64 0, .int .i64 0, .slice none 0 0, .int .u64 0, .int .i64 0])) := by kernel_rfl
theorem und98 : Try.prog.underlying 98 = some (.struct #[⟨"Policy", 3, 0, false, "", "", 0⟩, ⟨"Last", 3, 1, false, "", "", 8⟩, ⟨"Hosts", 46, 2, false, "", "", 16⟩, ⟨"Dice", 96, 3, false, "", "", 40⟩]) := by kernel_rfl
set_option maxRecDepth 100000 in
theorem inf98 : (Try.prog.info? 98).map (fun i => (i.size, i.bytes, i.zero)) = some (5, 56, some (.agg #[.int .i64 0, .int .i64 0, .slice none 0 0, .int .u64 0, .int .i64 0])) := by kernel_rfl
theorem und107 : Try.prog.underlying 107 = some (.struct #[⟨"Kind", 3, 0, false, "", "", 0⟩, ⟨"Conn", 3, 1, false, "", "", 8⟩, ⟨"Closed", 3, 2, false, "", "", 16⟩]) := by kernel_rfl
set_option maxRecDepth 100000 in
theorem inf107 : (Try.prog.info? 107).map (fun i => (i.size, i.bytes, i.zero)) = some (3, 24, some (.agg #[.int .i64 0, .int .i64 0, .int .i64 0])) := by kernel_rfl
theorem und117 : Try.prog.underlying 117 = some (.struct #[⟨"state", 85, 0, false, "", "barbican/dice", 0⟩, ⟨"drawn", 3, 1, false, "", "barbican/dice", 8⟩]) := by kernel_rfl
set_option maxRecDepth 100000 in
theorem inf117 : (Try.prog.info? 117).map (fun i => (i.size, i.bytes, i.zero)) = some (2, 16, some (.agg #[.int .u64 0, .int .i64 0])) := by kernel_rfl
theorem und118 : Try.prog.underlying 118 = some (.struct #[⟨"state", 85, 0, false, "", "barbican/dice", 0⟩, ⟨"drawn", 3, 1, false, "", "barbican/dice", 8⟩]) := by kernel_rfl
set_option maxRecDepth 100000 in
theorem inf118 : (Try.prog.info? 118).map (fun i => (i.size, i.bytes, i.zero)) = some (2, 16, some (.agg #[.int .u64 0, .int .i64 0])) := by kernel_rfl
theorem und119 : Try.prog.underlying 119 = some (.int .u64) := by kernel_rfl
set_option maxRecDepth 100000 in
theorem inf119 : (Try.prog.info? 119).map (fun i => (i.size, i.bytes, i.zero)) = some (1, 8, some (.int .u64 0)) := by kernel_rfl
theorem und129 : Try.prog.underlying 129 = some (.pointer 96) := by kernel_rfl
set_option maxRecDepth 100000 in
theorem inf129 : (Try.prog.info? 129).map (fun i => (i.size, i.bytes, i.zero)) = some (1, 8, some (.pointer none)) := by kernel_rfl
theorem und133 : Try.prog.underlying 133 = some (.struct #[⟨"X", 3, 0, false, "", "", 0⟩, ⟨"Host", 3, 1, false, "", "", 8⟩]) := by kernel_rfl
set_option maxRecDepth 100000 in
theorem inf133 : (Try.prog.info? 133).map (fun i => (i.size, i.bytes, i.zero)) = some (2, 16, some (.agg #[.int .i64 0, .int .i64 0])) := by kernel_rfl
theorem und134 : Try.prog.underlying 134 = some (.struct #[⟨"X", 3, 0, false, "", "", 0⟩, ⟨"Host", 3, 1, false, "", "", 8⟩]) := by kernel_rfl
set_option maxRecDepth 100000 in
theorem inf134 : (Try.prog.info? 134).map (fun i => (i.size, i.bytes, i.zero)) = some (2, 16, some (.agg #[.int .i64 0, .int .i64 0])) := by kernel_rfl
theorem und135 : Try.prog.underlying 135 = some (.struct #[⟨"Number", 3, 0, false, "", "", 0⟩, ⟨"Host", 3, 1, false, "", "", 8⟩, ⟨"X", 3, 2, false, "", "", 16⟩, ⟨"Busy", 4, 3, false, "", "", 24⟩]) := by kernel_rfl
set_option maxRecDepth 100000 in
theorem inf135 : (Try.prog.info? 135).map (fun i => (i.size, i.bytes, i.zero)) = some (4, 32, some (.agg #[.int .i64 0, .int .i64 0, .int .i64 0, .bool false])) := by kernel_rfl
theorem und136 : Try.prog.underlying 136 = some (.struct #[⟨"Number", 3, 0, false, "", "", 0⟩, ⟨"Host", 3, 1, false, "", "", 8⟩, ⟨"X", 3, 2, false, "", "", 16⟩, ⟨"Busy", 4, 3, false, "", "", 24⟩]) := by kernel_rfl
set_option maxRecDepth 100000 in
theorem inf136 : (Try.prog.info? 136).map (fun i => (i.size, i.bytes, i.zero)) = some (4, 32, some (.agg #[.int .i64 0, .int .i64 0, .int .i64 0, .bool false])) := by kernel_rfl
theorem und142 : Try.prog.underlying 142 = some (.int .i64) := by kernel_rfl
set_option maxRecDepth 100000 in
theorem inf142 : (Try.prog.info? 142).map (fun i => (i.size, i.bytes, i.zero)) = some (1, 8, some (.int .i64 0)) := by kernel_rfl
theorem und149 : Try.prog.underlying 149 = some (.int .u32) := by kernel_rfl
set_option maxRecDepth 100000 in
theorem inf149 : (Try.prog.info? 149).map (fun i => (i.size, i.bytes, i.zero)) = some (1, 4, some (.int .u32 0)) := by kernel_rfl
theorem und152 : Try.prog.underlying 152 = some (.int .u64) := by kernel_rfl
set_option maxRecDepth 100000 in
theorem inf152 : (Try.prog.info? 152).map (fun i => (i.size, i.bytes, i.zero)) = some (1, 8, some (.int .u64 0)) := by kernel_rfl
theorem und155 : Try.prog.underlying 155 = some (.pointer 3) := by kernel_rfl
set_option maxRecDepth 100000 in
theorem inf155 : (Try.prog.info? 155).map (fun i => (i.size, i.bytes, i.zero)) = some (1, 8, some (.pointer none)) := by kernel_rfl
theorem und159 : Try.prog.underlying 159 = some (.pointer 152) := by kernel_rfl
set_option maxRecDepth 100000 in
theorem inf159 : (Try.prog.info? 159).map (fun i => (i.size, i.bytes, i.zero)) = some (1, 8, some (.pointer none)) := by kernel_rfl
theorem und179 : Try.prog.underlying 179 = some (.pointer 5) := by kernel_rfl
set_option maxRecDepth 100000 in
theorem inf179 : (Try.prog.info? 179).map (fun i => (i.size, i.bytes, i.zero)) = some (1, 8, some (.pointer none)) := by kernel_rfl
theorem und184 : Try.prog.underlying 184 = some (.unsafePointer) := by kernel_rfl
set_option maxRecDepth 100000 in
theorem inf184 : (Try.prog.info? 184).map (fun i => (i.size, i.bytes, i.zero)) = some (1, 8, some (.pointer none)) := by kernel_rfl
theorem follows_ok : Try.prog.follows .mixedOrders = true := by kernel_rfl
set_option maxRecDepth 100000 in
def rows : List Sx.TRow := [
  ⟨2, .int .i64, 1, 8, .int .i64 0, []⟩,
  ⟨3, .int .i64, 1, 8, .int .i64 0, []⟩,
  ⟨4, .bool, 1, 1, .bool false, []⟩,
  ⟨5, .int .u8, 1, 1, .int .u8 0, []⟩,
  ⟨9, .string, 1, 16, .string ⟨#[]⟩, []⟩,
  ⟨12, .int .u64, 1, 8, .int .u64 0, []⟩,
  ⟨20, .interface #[], 1, 16, .nilIface, []⟩,
  ⟨21, .int .i32, 1, 4, .int .i32 0, []⟩,
  ⟨23, .pointer 69, 1, 8, .pointer none, []⟩,
  ⟨25, .struct #[⟨"Kind", 3, 0, false, "", "", 0⟩, ⟨"Conn", 3, 1, false, "", "", 8⟩, ⟨"Closed", 3, 2, false, "", "", 16⟩], 3, 24, .agg #[.int .i64 0, .int .i64 0, .int .i64 0], [0, 1, 2]⟩,
  ⟨26, .struct #[⟨"Kind", 3, 0, false, "", "", 0⟩, ⟨"Conn", 3, 1, false, "", "", 8⟩, ⟨"Closed", 3, 2, false, "", "", 16⟩], 3, 24, .agg #[.int .i64 0, .int .i64 0, .int .i64 0], [0, 1, 2]⟩,
  ⟨27, .int .i64, 1, 8, .int .i64 0, []⟩,
  ⟨32, .slice 3, 1, 24, .slice none 0 0, []⟩,
  ⟨33, .slice 4, 1, 24, .slice none 0 0, []⟩,
  ⟨38, .slice 40, 1, 24, .slice none 0 0, []⟩,
  ⟨39, .struct #[⟨"Kind", 3, 0, false, "", "", 0⟩, ⟨"A", 3, 1, false, "", "", 8⟩, ⟨"B", 3, 2, false, "", "", 16⟩], 3, 24, .agg #[.int .i64 0, .int .i64 0, .int .i64 0], [0, 1, 2]⟩,
  ⟨40, .struct #[⟨"Kind", 3, 0, false, "", "", 0⟩, ⟨"A", 3, 1, false, "", "", 8⟩, ⟨"B", 3, 2, false, "", "", 16⟩], 3, 24, .agg #[.int .i64 0, .int .i64 0, .int .i64 0], [0, 1, 2]⟩,
  ⟨46, .slice 9, 1, 24, .slice none 0 0, []⟩,
  ⟨47, .slice 53, 1, 24, .slice none 0 0, []⟩,
  ⟨48, .pointer 84, 1, 8, .pointer none, []⟩,
  ⟨50, .pointer 98, 1, 8, .pointer none, []⟩,
  ⟨52, .struct #[⟨"Open", 33, 0, false, "", "", 0⟩, ⟨"Loads", 32, 1, false, "", "", 24⟩, ⟨"Key", 9, 2, false, "", "", 48⟩], 3, 64, .agg #[.slice none 0 0, .slice none 0 0, .string ⟨#[]⟩], [0, 1, 2]⟩,
  ⟨53, .struct #[⟨"Open", 33, 0, false, "", "", 0⟩, ⟨"Loads", 32, 1, false, "", "", 24⟩, ⟨"Key", 9, 2, false, "", "", 48⟩], 3, 64, .agg #[.slice none 0 0, .slice none 0 0, .string ⟨#[]⟩], [0, 1, 2]⟩,
  ⟨60, .pointer 64, 1, 8, .pointer none, []⟩,
  ⟨61, .slice 136, 1, 24, .slice none 0 0, []⟩,
  ⟨62, .slice 134, 1, 24, .slice none 0 0, []⟩,
  ⟨63, .struct #[⟨"Most", 3, 0, false, "", "", 0⟩, ⟨"Pending", 3, 1, false, "", "", 8⟩, ⟨"Opened", 3, 2, false, "", "", 16⟩, ⟨"Conns", 61, 3, false, "", "", 24⟩, ⟨"Queue", 62, 4, false, "", "", 48⟩], 5, 72, .agg #[.int .i64 0, .int .i64 0, .int .i64 0, .slice none 0 0, .slice none 0 0], [0, 1, 2, 3, 4]⟩,
  ⟨64, .struct #[⟨"Most", 3, 0, false, "", "", 0⟩, ⟨"Pending", 3, 1, false, "", "", 8⟩, ⟨"Opened", 3, 2, false, "", "", 16⟩, ⟨"Conns", 61, 3, false, "", "", 24⟩, ⟨"Queue", 62, 4, false, "", "", 48⟩], 5, 72, .agg #[.int .i64 0, .int .i64 0, .int .i64 0, .slice none 0 0, .slice none 0 0], [0, 1, 2, 3, 4]⟩,
  ⟨66, .map 3 75, 1, 8, .map none, []⟩,
  ⟨67, .slice 71, 1, 24, .slice none 0 0, []⟩,
  ⟨68, .struct #[⟨"most", 3, 0, false, "", "barbican/pool", 0⟩, ⟨"pending", 3, 1, false, "", "barbican/pool", 8⟩, ⟨"conns", 66, 2, false, "", "barbican/pool", 16⟩, ⟨"opened", 3, 3, false, "", "barbican/pool", 24⟩, ⟨"queue", 67, 4, false, "", "barbican/pool", 32⟩], 5, 56, .agg #[.int .i64 0, .int .i64 0, .map none, .int .i64 0, .slice none 0 0], [0, 1, 2, 3, 4]⟩,
  ⟨69, .struct #[⟨"most", 3, 0, false, "", "barbican/pool", 0⟩, ⟨"pending", 3, 1, false, "", "barbican/pool", 8⟩, ⟨"conns", 66, 2, false, "", "barbican/pool", 16⟩, ⟨"opened", 3, 3, false, "", "barbican/pool", 24⟩, ⟨"queue", 67, 4, false, "", "barbican/pool", 32⟩], 5, 56, .agg #[.int .i64 0, .int .i64 0, .map none, .int .i64 0, .slice none 0 0], [0, 1, 2, 3, 4]⟩,
  ⟨70, .struct #[⟨"x", 3, 0, false, "", "barbican/pool", 0⟩, ⟨"host", 3, 1, false, "", "barbican/pool", 8⟩], 2, 16, .agg #[.int .i64 0, .int .i64 0], [0, 1]⟩,
  ⟨71, .struct #[⟨"x", 3, 0, false, "", "barbican/pool", 0⟩, ⟨"host", 3, 1, false, "", "barbican/pool", 8⟩], 2, 16, .agg #[.int .i64 0, .int .i64 0], [0, 1]⟩,
  ⟨74, .struct #[⟨"host", 3, 0, false, "", "barbican/pool", 0⟩, ⟨"by", 3, 1, false, "", "barbican/pool", 8⟩, ⟨"busy", 4, 2, false, "", "barbican/pool", 16⟩], 3, 24, .agg #[.int .i64 0, .int .i64 0, .bool false], [0, 1, 2]⟩,
  ⟨75, .struct #[⟨"host", 3, 0, false, "", "barbican/pool", 0⟩, ⟨"by", 3, 1, false, "", "barbican/pool", 8⟩, ⟨"busy", 4, 2, false, "", "barbican/pool", 16⟩], 3, 24, .agg #[.int .i64 0, .int .i64 0, .bool false], [0, 1, 2]⟩,
  ⟨80, .pointer 118, 1, 8, .pointer none, []⟩,
  ⟨82, .slice 89, 1, 24, .slice none 0 0, []⟩,
  ⟨83, .struct #[⟨"policy", 3, 0, false, "", "barbican/balance", 0⟩, ⟨"hosts", 3, 1, false, "", "barbican/balance", 8⟩, ⟨"last", 3, 2, false, "", "barbican/balance", 16⟩, ⟨"dice", 80, 3, false, "", "barbican/balance", 24⟩, ⟨"ring", 82, 4, false, "", "barbican/balance", 32⟩], 5, 56, .agg #[.int .i64 0, .int .i64 0, .int .i64 0, .pointer none, .slice none 0 0], [0, 1, 2, 3, 4]⟩,
  ⟨84, .struct #[⟨"policy", 3, 0, false, "", "barbican/balance", 0⟩, ⟨"hosts", 3, 1, false, "", "barbican/balance", 8⟩, ⟨"last", 3, 2, false, "", "barbican/balance", 16⟩, ⟨"dice", 80, 3, false, "", "barbican/balance", 24⟩, ⟨"ring", 82, 4, false, "", "barbican/balance", 32⟩], 5, 56, .agg #[.int .i64 0, .int .i64 0, .int .i64 0, .pointer none, .slice none 0 0], [0, 1, 2, 3, 4]⟩,
  ⟨85, .int .u64, 1, 8, .int .u64 0, []⟩,
  ⟨88, .struct #[⟨"at", 85, 0, false, "", "barbican/balance", 0⟩, ⟨"host", 3, 1, false, "", "barbican/balance", 8⟩], 2, 16, .agg #[.int .u64 0, .int .i64 0], [0, 1]⟩,
  ⟨89, .struct #[⟨"at", 85, 0, false, "", "barbican/balance", 0⟩, ⟨"host", 3, 1, false, "", "barbican/balance", 8⟩], 2, 16, .agg #[.int .u64 0, .int .i64 0], [0, 1]⟩,
  ⟨95, .struct #[⟨"State", 85, 0, false, "", "", 0⟩, ⟨"Drawn", 3, 1, false, "", "", 8⟩], 2, 16, .agg #[.int .u64 0, .int .i64 0], [0, 1]⟩,
  ⟨96, .struct #[⟨"State", 85, 0, false, "", "", 0⟩, ⟨"Drawn", 3, 1, false, "", "", 8⟩], 2, 16, .agg #[.int .u64 0, .int .i64 0], [0, 1]⟩,
  ⟨97, .struct #[⟨"Policy", 3, 0, false, "", "", 0⟩, ⟨"Last", 3, 1, false, "", "", 8⟩, ⟨"Hosts", 46, 2, false, "", "", 16⟩, ⟨"Dice", 96, 3, false, "", "", 40⟩], 5, 56, .agg #[.int .i64 0, .int .i64 0, .slice none 0 0, .int .u64 0, .int .i64 0], [0, 1, 2, 3]⟩,
  ⟨98, .struct #[⟨"Policy", 3, 0, false, "", "", 0⟩, ⟨"Last", 3, 1, false, "", "", 8⟩, ⟨"Hosts", 46, 2, false, "", "", 16⟩, ⟨"Dice", 96, 3, false, "", "", 40⟩], 5, 56, .agg #[.int .i64 0, .int .i64 0, .slice none 0 0, .int .u64 0, .int .i64 0], [0, 1, 2, 3]⟩,
  ⟨107, .struct #[⟨"Kind", 3, 0, false, "", "", 0⟩, ⟨"Conn", 3, 1, false, "", "", 8⟩, ⟨"Closed", 3, 2, false, "", "", 16⟩], 3, 24, .agg #[.int .i64 0, .int .i64 0, .int .i64 0], [0, 1, 2]⟩,
  ⟨117, .struct #[⟨"state", 85, 0, false, "", "barbican/dice", 0⟩, ⟨"drawn", 3, 1, false, "", "barbican/dice", 8⟩], 2, 16, .agg #[.int .u64 0, .int .i64 0], [0, 1]⟩,
  ⟨118, .struct #[⟨"state", 85, 0, false, "", "barbican/dice", 0⟩, ⟨"drawn", 3, 1, false, "", "barbican/dice", 8⟩], 2, 16, .agg #[.int .u64 0, .int .i64 0], [0, 1]⟩,
  ⟨119, .int .u64, 1, 8, .int .u64 0, []⟩,
  ⟨129, .pointer 96, 1, 8, .pointer none, []⟩,
  ⟨133, .struct #[⟨"X", 3, 0, false, "", "", 0⟩, ⟨"Host", 3, 1, false, "", "", 8⟩], 2, 16, .agg #[.int .i64 0, .int .i64 0], [0, 1]⟩,
  ⟨134, .struct #[⟨"X", 3, 0, false, "", "", 0⟩, ⟨"Host", 3, 1, false, "", "", 8⟩], 2, 16, .agg #[.int .i64 0, .int .i64 0], [0, 1]⟩,
  ⟨135, .struct #[⟨"Number", 3, 0, false, "", "", 0⟩, ⟨"Host", 3, 1, false, "", "", 8⟩, ⟨"X", 3, 2, false, "", "", 16⟩, ⟨"Busy", 4, 3, false, "", "", 24⟩], 4, 32, .agg #[.int .i64 0, .int .i64 0, .int .i64 0, .bool false], [0, 1, 2, 3]⟩,
  ⟨136, .struct #[⟨"Number", 3, 0, false, "", "", 0⟩, ⟨"Host", 3, 1, false, "", "", 8⟩, ⟨"X", 3, 2, false, "", "", 16⟩, ⟨"Busy", 4, 3, false, "", "", 24⟩], 4, 32, .agg #[.int .i64 0, .int .i64 0, .int .i64 0, .bool false], [0, 1, 2, 3]⟩,
  ⟨142, .int .i64, 1, 8, .int .i64 0, []⟩,
  ⟨149, .int .u32, 1, 4, .int .u32 0, []⟩,
  ⟨152, .int .u64, 1, 8, .int .u64 0, []⟩,
  ⟨155, .pointer 3, 1, 8, .pointer none, []⟩,
  ⟨159, .pointer 152, 1, 8, .pointer none, []⟩,
  ⟨179, .pointer 5, 1, 8, .pointer none, []⟩,
  ⟨184, .unsafePointer, 1, 8, .pointer none, []⟩]
def TT : Sx.Tbl := Sx.tbl rows
set_option maxRecDepth 100000 in
theorem TT_ok : TT.Ok Try.prog := Sx.tbl_ok (show Sx.RowsOk Try.prog rows from (And.intro (And.intro und2 inf2) (And.intro (And.intro und3 inf3) (And.intro (And.intro und4 inf4) (And.intro (And.intro und5 inf5) (And.intro (And.intro und9 inf9) (And.intro (And.intro und12 inf12) (And.intro (And.intro und20 inf20) (And.intro (And.intro und21 inf21) (And.intro (And.intro und23 inf23) (And.intro (And.intro und25 inf25) (And.intro (And.intro und26 inf26) (And.intro (And.intro und27 inf27) (And.intro (And.intro und32 inf32) (And.intro (And.intro und33 inf33) (And.intro (And.intro und38 inf38) (And.intro (And.intro und39 inf39) (And.intro (And.intro und40 inf40) (And.intro (And.intro und46 inf46) (And.intro (And.intro und47 inf47) (And.intro (And.intro und48 inf48) (And.intro (And.intro und50 inf50) (And.intro (And.intro und52 inf52) (And.intro (And.intro und53 inf53) (And.intro (And.intro und60 inf60) (And.intro (And.intro und61 inf61) (And.intro (And.intro und62 inf62) (And.intro (And.intro und63 inf63) (And.intro (And.intro und64 inf64) (And.intro (And.intro und66 inf66) (And.intro (And.intro und67 inf67) (And.intro (And.intro und68 inf68) (And.intro (And.intro und69 inf69) (And.intro (And.intro und70 inf70) (And.intro (And.intro und71 inf71) (And.intro (And.intro und74 inf74) (And.intro (And.intro und75 inf75) (And.intro (And.intro und80 inf80) (And.intro (And.intro und82 inf82) (And.intro (And.intro und83 inf83) (And.intro (And.intro und84 inf84) (And.intro (And.intro und85 inf85) (And.intro (And.intro und88 inf88) (And.intro (And.intro und89 inf89) (And.intro (And.intro und95 inf95) (And.intro (And.intro und96 inf96) (And.intro (And.intro und97 inf97) (And.intro (And.intro und98 inf98) (And.intro (And.intro und107 inf107) (And.intro (And.intro und117 inf117) (And.intro (And.intro und118 inf118) (And.intro (And.intro und119 inf119) (And.intro (And.intro und129 inf129) (And.intro (And.intro und133 inf133) (And.intro (And.intro und134 inf134) (And.intro (And.intro und135 inf135) (And.intro (And.intro und136 inf136) (And.intro (And.intro und142 inf142) (And.intro (And.intro und149 inf149) (And.intro (And.intro und152 inf152) (And.intro (And.intro und155 inf155) (And.intro (And.intro und159 inf159) (And.intro (And.intro und179 inf179) (And.intro (And.intro und184 inf184) trivial)))))))))))))))))))))))))))))))))))))))))))))))))))))))))))))))) (by kernel_rfl)
end Go.Proofs.Ytpfnhkdhcjclpaa
