/- Type assertions of segments (gen_segt.py). -/
import Derived.Test.YthibnhgbgmpjoaaDoorHBase
namespace Go.Proofs.YthibnhgbgmpjoaaDoor
open Go.RowKit
@[go_sem] theorem asNil_Bare (w : World) : (Instr.typeAssert .nilIface 46 69 true).run Tryd.prog w = .ok (.tuple #[.agg #[.int .i64 0], .bool false]) w := by kernel_rfl
@[go_sem] theorem asBare_Bare (v : Value) (w : World) : (Instr.typeAssert (.iface 69 v) 46 69 true).run Tryd.prog w = .ok (.tuple #[v, .bool true]) w := by kernel_rfl
@[go_sem] theorem asPlain_Bare (v : Value) (w : World) : (Instr.typeAssert (.iface 97 v) 46 69 true).run Tryd.prog w = .ok (.tuple #[.agg #[.int .i64 0], .bool false]) w := by kernel_rfl
@[go_sem] theorem asQuants_Bare (v : Value) (w : World) : (Instr.typeAssert (.iface 115 v) 46 69 true).run Tryd.prog w = .ok (.tuple #[.agg #[.int .i64 0], .bool false]) w := by kernel_rfl
@[go_sem] theorem asHuffs_Bare (v : Value) (w : World) : (Instr.typeAssert (.iface 119 v) 46 69 true).run Tryd.prog w = .ok (.tuple #[.agg #[.int .i64 0], .bool false]) w := by kernel_rfl
@[go_sem] theorem asFrame_Bare (v : Value) (w : World) : (Instr.typeAssert (.iface 123 v) 46 69 true).run Tryd.prog w = .ok (.tuple #[.agg #[.int .i64 0], .bool false]) w := by kernel_rfl
@[go_sem] theorem asScan_Bare (v : Value) (w : World) : (Instr.typeAssert (.iface 105 v) 46 69 true).run Tryd.prog w = .ok (.tuple #[.agg #[.int .i64 0], .bool false]) w := by kernel_rfl
@[go_sem] theorem asRestart_Bare (v : Value) (w : World) : (Instr.typeAssert (.iface 94 v) 46 69 true).run Tryd.prog w = .ok (.tuple #[.agg #[.int .i64 0], .bool false]) w := by kernel_rfl
@[go_sem] theorem asNil_Plain (w : World) : (Instr.typeAssert .nilIface 46 97 true).run Tryd.prog w = .ok (.tuple #[.agg #[.int .i64 0, .string ByteArray.empty], .bool false]) w := by kernel_rfl
@[go_sem] theorem asBare_Plain (v : Value) (w : World) : (Instr.typeAssert (.iface 69 v) 46 97 true).run Tryd.prog w = .ok (.tuple #[.agg #[.int .i64 0, .string ByteArray.empty], .bool false]) w := by kernel_rfl
@[go_sem] theorem asPlain_Plain (v : Value) (w : World) : (Instr.typeAssert (.iface 97 v) 46 97 true).run Tryd.prog w = .ok (.tuple #[v, .bool true]) w := by kernel_rfl
@[go_sem] theorem asQuants_Plain (v : Value) (w : World) : (Instr.typeAssert (.iface 115 v) 46 97 true).run Tryd.prog w = .ok (.tuple #[.agg #[.int .i64 0, .string ByteArray.empty], .bool false]) w := by kernel_rfl
@[go_sem] theorem asHuffs_Plain (v : Value) (w : World) : (Instr.typeAssert (.iface 119 v) 46 97 true).run Tryd.prog w = .ok (.tuple #[.agg #[.int .i64 0, .string ByteArray.empty], .bool false]) w := by kernel_rfl
@[go_sem] theorem asFrame_Plain (v : Value) (w : World) : (Instr.typeAssert (.iface 123 v) 46 97 true).run Tryd.prog w = .ok (.tuple #[.agg #[.int .i64 0, .string ByteArray.empty], .bool false]) w := by kernel_rfl
@[go_sem] theorem asScan_Plain (v : Value) (w : World) : (Instr.typeAssert (.iface 105 v) 46 97 true).run Tryd.prog w = .ok (.tuple #[.agg #[.int .i64 0, .string ByteArray.empty], .bool false]) w := by kernel_rfl
@[go_sem] theorem asRestart_Plain (v : Value) (w : World) : (Instr.typeAssert (.iface 94 v) 46 97 true).run Tryd.prog w = .ok (.tuple #[.agg #[.int .i64 0, .string ByteArray.empty], .bool false]) w := by kernel_rfl
@[go_sem] theorem asNil_Quants (w : World) : (Instr.typeAssert .nilIface 46 115 true).run Tryd.prog w = .ok (.tuple #[.agg #[.slice none 0 0], .bool false]) w := by kernel_rfl
@[go_sem] theorem asBare_Quants (v : Value) (w : World) : (Instr.typeAssert (.iface 69 v) 46 115 true).run Tryd.prog w = .ok (.tuple #[.agg #[.slice none 0 0], .bool false]) w := by kernel_rfl
@[go_sem] theorem asPlain_Quants (v : Value) (w : World) : (Instr.typeAssert (.iface 97 v) 46 115 true).run Tryd.prog w = .ok (.tuple #[.agg #[.slice none 0 0], .bool false]) w := by kernel_rfl
@[go_sem] theorem asQuants_Quants (v : Value) (w : World) : (Instr.typeAssert (.iface 115 v) 46 115 true).run Tryd.prog w = .ok (.tuple #[v, .bool true]) w := by kernel_rfl
@[go_sem] theorem asHuffs_Quants (v : Value) (w : World) : (Instr.typeAssert (.iface 119 v) 46 115 true).run Tryd.prog w = .ok (.tuple #[.agg #[.slice none 0 0], .bool false]) w := by kernel_rfl
@[go_sem] theorem asFrame_Quants (v : Value) (w : World) : (Instr.typeAssert (.iface 123 v) 46 115 true).run Tryd.prog w = .ok (.tuple #[.agg #[.slice none 0 0], .bool false]) w := by kernel_rfl
@[go_sem] theorem asScan_Quants (v : Value) (w : World) : (Instr.typeAssert (.iface 105 v) 46 115 true).run Tryd.prog w = .ok (.tuple #[.agg #[.slice none 0 0], .bool false]) w := by kernel_rfl
@[go_sem] theorem asRestart_Quants (v : Value) (w : World) : (Instr.typeAssert (.iface 94 v) 46 115 true).run Tryd.prog w = .ok (.tuple #[.agg #[.slice none 0 0], .bool false]) w := by kernel_rfl
@[go_sem] theorem asNil_Huffs (w : World) : (Instr.typeAssert .nilIface 46 119 true).run Tryd.prog w = .ok (.tuple #[.agg #[.slice none 0 0], .bool false]) w := by kernel_rfl
@[go_sem] theorem asBare_Huffs (v : Value) (w : World) : (Instr.typeAssert (.iface 69 v) 46 119 true).run Tryd.prog w = .ok (.tuple #[.agg #[.slice none 0 0], .bool false]) w := by kernel_rfl
@[go_sem] theorem asPlain_Huffs (v : Value) (w : World) : (Instr.typeAssert (.iface 97 v) 46 119 true).run Tryd.prog w = .ok (.tuple #[.agg #[.slice none 0 0], .bool false]) w := by kernel_rfl
@[go_sem] theorem asQuants_Huffs (v : Value) (w : World) : (Instr.typeAssert (.iface 115 v) 46 119 true).run Tryd.prog w = .ok (.tuple #[.agg #[.slice none 0 0], .bool false]) w := by kernel_rfl
@[go_sem] theorem asHuffs_Huffs (v : Value) (w : World) : (Instr.typeAssert (.iface 119 v) 46 119 true).run Tryd.prog w = .ok (.tuple #[v, .bool true]) w := by kernel_rfl
@[go_sem] theorem asFrame_Huffs (v : Value) (w : World) : (Instr.typeAssert (.iface 123 v) 46 119 true).run Tryd.prog w = .ok (.tuple #[.agg #[.slice none 0 0], .bool false]) w := by kernel_rfl
@[go_sem] theorem asScan_Huffs (v : Value) (w : World) : (Instr.typeAssert (.iface 105 v) 46 119 true).run Tryd.prog w = .ok (.tuple #[.agg #[.slice none 0 0], .bool false]) w := by kernel_rfl
@[go_sem] theorem asRestart_Huffs (v : Value) (w : World) : (Instr.typeAssert (.iface 94 v) 46 119 true).run Tryd.prog w = .ok (.tuple #[.agg #[.slice none 0 0], .bool false]) w := by kernel_rfl
@[go_sem] theorem asNil_Frame (w : World) : (Instr.typeAssert .nilIface 46 123 true).run Tryd.prog w = .ok (.tuple #[.agg #[.int .i64 0, .int .i64 0, .int .i64 0, .slice none 0 0], .bool false]) w := by kernel_rfl
@[go_sem] theorem asBare_Frame (v : Value) (w : World) : (Instr.typeAssert (.iface 69 v) 46 123 true).run Tryd.prog w = .ok (.tuple #[.agg #[.int .i64 0, .int .i64 0, .int .i64 0, .slice none 0 0], .bool false]) w := by kernel_rfl
@[go_sem] theorem asPlain_Frame (v : Value) (w : World) : (Instr.typeAssert (.iface 97 v) 46 123 true).run Tryd.prog w = .ok (.tuple #[.agg #[.int .i64 0, .int .i64 0, .int .i64 0, .slice none 0 0], .bool false]) w := by kernel_rfl
@[go_sem] theorem asQuants_Frame (v : Value) (w : World) : (Instr.typeAssert (.iface 115 v) 46 123 true).run Tryd.prog w = .ok (.tuple #[.agg #[.int .i64 0, .int .i64 0, .int .i64 0, .slice none 0 0], .bool false]) w := by kernel_rfl
@[go_sem] theorem asHuffs_Frame (v : Value) (w : World) : (Instr.typeAssert (.iface 119 v) 46 123 true).run Tryd.prog w = .ok (.tuple #[.agg #[.int .i64 0, .int .i64 0, .int .i64 0, .slice none 0 0], .bool false]) w := by kernel_rfl
@[go_sem] theorem asFrame_Frame (v : Value) (w : World) : (Instr.typeAssert (.iface 123 v) 46 123 true).run Tryd.prog w = .ok (.tuple #[v, .bool true]) w := by kernel_rfl
@[go_sem] theorem asScan_Frame (v : Value) (w : World) : (Instr.typeAssert (.iface 105 v) 46 123 true).run Tryd.prog w = .ok (.tuple #[.agg #[.int .i64 0, .int .i64 0, .int .i64 0, .slice none 0 0], .bool false]) w := by kernel_rfl
@[go_sem] theorem asRestart_Frame (v : Value) (w : World) : (Instr.typeAssert (.iface 94 v) 46 123 true).run Tryd.prog w = .ok (.tuple #[.agg #[.int .i64 0, .int .i64 0, .int .i64 0, .slice none 0 0], .bool false]) w := by kernel_rfl
@[go_sem] theorem asNil_Scan (w : World) : (Instr.typeAssert .nilIface 46 105 true).run Tryd.prog w = .ok (.tuple #[.agg #[.slice none 0 0, .int .i64 0, .int .i64 0, .int .i64 0, .int .i64 0], .bool false]) w := by kernel_rfl
@[go_sem] theorem asBare_Scan (v : Value) (w : World) : (Instr.typeAssert (.iface 69 v) 46 105 true).run Tryd.prog w = .ok (.tuple #[.agg #[.slice none 0 0, .int .i64 0, .int .i64 0, .int .i64 0, .int .i64 0], .bool false]) w := by kernel_rfl
@[go_sem] theorem asPlain_Scan (v : Value) (w : World) : (Instr.typeAssert (.iface 97 v) 46 105 true).run Tryd.prog w = .ok (.tuple #[.agg #[.slice none 0 0, .int .i64 0, .int .i64 0, .int .i64 0, .int .i64 0], .bool false]) w := by kernel_rfl
@[go_sem] theorem asQuants_Scan (v : Value) (w : World) : (Instr.typeAssert (.iface 115 v) 46 105 true).run Tryd.prog w = .ok (.tuple #[.agg #[.slice none 0 0, .int .i64 0, .int .i64 0, .int .i64 0, .int .i64 0], .bool false]) w := by kernel_rfl
@[go_sem] theorem asHuffs_Scan (v : Value) (w : World) : (Instr.typeAssert (.iface 119 v) 46 105 true).run Tryd.prog w = .ok (.tuple #[.agg #[.slice none 0 0, .int .i64 0, .int .i64 0, .int .i64 0, .int .i64 0], .bool false]) w := by kernel_rfl
@[go_sem] theorem asFrame_Scan (v : Value) (w : World) : (Instr.typeAssert (.iface 123 v) 46 105 true).run Tryd.prog w = .ok (.tuple #[.agg #[.slice none 0 0, .int .i64 0, .int .i64 0, .int .i64 0, .int .i64 0], .bool false]) w := by kernel_rfl
@[go_sem] theorem asScan_Scan (v : Value) (w : World) : (Instr.typeAssert (.iface 105 v) 46 105 true).run Tryd.prog w = .ok (.tuple #[v, .bool true]) w := by kernel_rfl
@[go_sem] theorem asRestart_Scan (v : Value) (w : World) : (Instr.typeAssert (.iface 94 v) 46 105 true).run Tryd.prog w = .ok (.tuple #[.agg #[.slice none 0 0, .int .i64 0, .int .i64 0, .int .i64 0, .int .i64 0], .bool false]) w := by kernel_rfl
@[go_sem] theorem asNil_Restart (w : World) : (Instr.typeAssert .nilIface 46 94 true).run Tryd.prog w = .ok (.tuple #[.agg #[.int .i64 0], .bool false]) w := by kernel_rfl
@[go_sem] theorem asBare_Restart (v : Value) (w : World) : (Instr.typeAssert (.iface 69 v) 46 94 true).run Tryd.prog w = .ok (.tuple #[.agg #[.int .i64 0], .bool false]) w := by kernel_rfl
@[go_sem] theorem asPlain_Restart (v : Value) (w : World) : (Instr.typeAssert (.iface 97 v) 46 94 true).run Tryd.prog w = .ok (.tuple #[.agg #[.int .i64 0], .bool false]) w := by kernel_rfl
@[go_sem] theorem asQuants_Restart (v : Value) (w : World) : (Instr.typeAssert (.iface 115 v) 46 94 true).run Tryd.prog w = .ok (.tuple #[.agg #[.int .i64 0], .bool false]) w := by kernel_rfl
@[go_sem] theorem asHuffs_Restart (v : Value) (w : World) : (Instr.typeAssert (.iface 119 v) 46 94 true).run Tryd.prog w = .ok (.tuple #[.agg #[.int .i64 0], .bool false]) w := by kernel_rfl
@[go_sem] theorem asFrame_Restart (v : Value) (w : World) : (Instr.typeAssert (.iface 123 v) 46 94 true).run Tryd.prog w = .ok (.tuple #[.agg #[.int .i64 0], .bool false]) w := by kernel_rfl
@[go_sem] theorem asScan_Restart (v : Value) (w : World) : (Instr.typeAssert (.iface 105 v) 46 94 true).run Tryd.prog w = .ok (.tuple #[.agg #[.int .i64 0], .bool false]) w := by kernel_rfl
@[go_sem] theorem asRestart_Restart (v : Value) (w : World) : (Instr.typeAssert (.iface 94 v) 46 94 true).run Tryd.prog w = .ok (.tuple #[v, .bool true]) w := by kernel_rfl
end Go.Proofs.YthibnhgbgmpjoaaDoor
