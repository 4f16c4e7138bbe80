/- The program's types and functions, as instances. Written by a program of this repo's own (ty.py). -/
import Derived.Test.YtkmjldihlgchdaaL19
import Derived.Test.YtkmjldihlgchdaaProg
set_option linter.unusedVariables false
namespace Go.Proofs.Ytkmjldihlgchdaa.M
theorem tf {P : Program} {s f off ft : Nat} {fs : Array Field} (h : P.underlying s = some (.struct fs)) (h2 : (fs[f]?).map (fun x => (x.offset, x.type)) = some (off, ft)) (h3 : (P.info? ft).map (fun i => i.size != 0) = some true) : TF P s f off ft := by
  obtain ⟨fl, e1, e2⟩ := Option.map_eq_some_iff.1 h2
  obtain ⟨i, e3, e4⟩ := Option.map_eq_some_iff.1 h3
  simp only [Prod.mk.injEq] at e2
  exact ⟨fs, fl, h, e1, e2.1, e2.2, i, e3, by simpa using e4⟩
theorem ti {P : Program} {t size bytes : Nat} {z : Value} (h : (P.info? t).map (fun i => (i.size, i.bytes, i.zero)) = some (size, bytes, some z)) : TI P t size bytes z := by
  obtain ⟨i, e1, e2⟩ := Option.map_eq_some_iff.1 h
  simp only [Prod.mk.injEq] at e2
  exact ⟨i, e1, e2.1, e2.2.1, e2.2.2⟩
theorem t2 {P : Program} {t : Nat} {k1 k2 : IntKind} (f1 f2 : Field) (h : P.underlying t = some (.struct #[f1, f2])) (h2 : (f1.name != "_" && f2.name != "_" && f1.offset == 0 && f2.offset == 1) = true) (h3 : P.underlying f1.type = some (.int k1)) (h4 : P.underlying f2.type = some (.int k2)) (h5 : P.stoodInHeld t = false) (h6 : P.eqGuardType P.depth t = false) : T2 P t k1 k2 := by
  simp at h2
  exact ⟨f1, f2, h, h2.1.1.1, h2.1.1.2, h2.1.2, h2.2, h3, h4, h5, h6⟩
instance tu2 : TU Try.prog 2 (.int .i64) := ⟨Try.underlying2⟩
instance ti2 : TI Try.prog 2 1 8 (.int .i64 0) := ti (by kernel_rfl)
instance tz2 : TZ Try.prog 2 [.int .i64 0] := tz (by kernel_rfl)
instance tu3 : TU Try.prog 3 (.int .i64) := ⟨Try.underlying3⟩
instance ti3 : TI Try.prog 3 1 8 (.int .i64 0) := ti (by kernel_rfl)
instance tz3 : TZ Try.prog 3 [.int .i64 0] := tz (by kernel_rfl)
instance tu4 : TU Try.prog 4 (.bool) := ⟨Try.underlying4⟩
instance ti4 : TI Try.prog 4 1 1 (.bool false) := ti (by kernel_rfl)
instance tz4 : TZ Try.prog 4 [.bool false] := tz (by kernel_rfl)
instance tu5 : TU Try.prog 5 (.int .u8) := ⟨Try.underlying5⟩
instance ti5 : TI Try.prog 5 1 1 (.int .u8 0) := ti (by kernel_rfl)
instance tz5 : TZ Try.prog 5 [.int .u8 0] := tz (by kernel_rfl)
instance tu9 : TU Try.prog 9 (.string) := ⟨Try.underlying9⟩
instance tu12 : TU Try.prog 12 (.int .u64) := ⟨Try.underlying12⟩
instance ti12 : TI Try.prog 12 1 8 (.int .u64 0) := ti (by kernel_rfl)
instance tz12 : TZ Try.prog 12 [.int .u64 0] := tz (by kernel_rfl)
def td13 : Array Field := #[{ name := "msg", type := 9, offset := 0, embedded := false, tag := "", pkgPath := "runtime", byteOffset := 0 }, { name := "addr", type := 12, offset := 1, embedded := false, tag := "", pkgPath := "runtime", byteOffset := 16 }]
instance tu13 : TU Try.prog 13 (.struct td13) := ⟨Try.underlying13⟩
instance tf13_0 : TF Try.prog 13 0 0 9 := tf Try.underlying13 rfl (by kernel_rfl)
instance tf13_1 : TF Try.prog 13 1 1 12 := tf Try.underlying13 rfl (by kernel_rfl)
def td19 : Array Field := #[{ name := "typ", type := 17, offset := 0, embedded := false, tag := "", pkgPath := "internal/runtime/maps", byteOffset := 0 }]
instance tu19 : TU Try.prog 19 (.struct td19) := ⟨Try.underlying19⟩
instance tf19_0 : TF Try.prog 19 0 0 17 := tf Try.underlying19 rfl (by kernel_rfl)
instance tb19 : TB Try.prog 19 [(0, 1)] [.pointer none] := tb (fs := td19) Try.underlying19 (by kernel_rfl) (by kernel_rfl)
instance ti19 : TI Try.prog 19 1 8 (.agg #[.pointer none]) := ti (by kernel_rfl)
instance tz19 : TZ Try.prog 19 [.pointer none] := tz (by kernel_rfl)
instance tu21 : TU Try.prog 21 (.int .i32) := ⟨Try.underlying21⟩
instance ti21 : TI Try.prog 21 1 4 (.int .i32 0) := ti (by kernel_rfl)
instance tz21 : TZ Try.prog 21 [.int .i32 0] := tz (by kernel_rfl)
instance tu22 : TU Try.prog 22 (.int .u64) := ⟨Try.underlying22⟩
instance ti22 : TI Try.prog 22 1 8 (.int .u64 0) := ti (by kernel_rfl)
instance tz22 : TZ Try.prog 22 [.int .u64 0] := tz (by kernel_rfl)
def td23 : Array Field := #[{ name := "Node", type := 3, offset := 0, embedded := false, tag := "", pkgPath := "", byteOffset := 0 }, { name := "Serial", type := 22, offset := 1, embedded := false, tag := "", pkgPath := "", byteOffset := 8 }]
instance tu23 : TU Try.prog 23 (.struct td23) := ⟨Try.underlying23⟩
instance tf23_0 : TF Try.prog 23 0 0 3 := tf Try.underlying23 rfl (by kernel_rfl)
instance tf23_1 : TF Try.prog 23 1 1 22 := tf Try.underlying23 rfl (by kernel_rfl)
instance tb23 : TB Try.prog 23 [(0, 1), (1, 1)] [.int .i64 0, .int .u64 0] := tb (fs := td23) Try.underlying23 (by kernel_rfl) (by kernel_rfl)
instance t2_23 : T2 Try.prog 23 .i64 .u64 := t2 td23[0] td23[1] Try.underlying23 rfl Try.underlying3 Try.underlying22 (by kernel_rfl) (by kernel_rfl)
instance ti23 : TI Try.prog 23 2 16 (.agg #[.int .i64 0, .int .u64 0]) := ti (by kernel_rfl)
instance tz23 : TZ Try.prog 23 [.int .i64 0, .int .u64 0] := tz (by kernel_rfl)
def td24 : Array Field := #[{ name := "Node", type := 3, offset := 0, embedded := false, tag := "", pkgPath := "", byteOffset := 0 }, { name := "Serial", type := 22, offset := 1, embedded := false, tag := "", pkgPath := "", byteOffset := 8 }]
instance tu24 : TU Try.prog 24 (.struct td24) := ⟨Try.underlying24⟩
instance tf24_0 : TF Try.prog 24 0 0 3 := tf Try.underlying24 rfl (by kernel_rfl)
instance tf24_1 : TF Try.prog 24 1 1 22 := tf Try.underlying24 rfl (by kernel_rfl)
instance tb24 : TB Try.prog 24 [(0, 1), (1, 1)] [.int .i64 0, .int .u64 0] := tb (fs := td24) Try.underlying24 (by kernel_rfl) (by kernel_rfl)
instance t2_24 : T2 Try.prog 24 .i64 .u64 := t2 td24[0] td24[1] Try.underlying24 rfl Try.underlying3 Try.underlying22 (by kernel_rfl) (by kernel_rfl)
instance ti24 : TI Try.prog 24 2 16 (.agg #[.int .i64 0, .int .u64 0]) := ti (by kernel_rfl)
instance tz24 : TZ Try.prog 24 [.int .i64 0, .int .u64 0] := tz (by kernel_rfl)
instance tu25 : TU Try.prog 25 (.slice 45) := ⟨Try.underlying25⟩
instance ti25 : TI Try.prog 25 1 24 (.slice none 0 0) := ti (by kernel_rfl)
instance tz25 : TZ Try.prog 25 [.slice none 0 0] := tz (by kernel_rfl)
instance tu26 : TU Try.prog 26 (.slice 47) := ⟨Try.underlying26⟩
instance ti26 : TI Try.prog 26 1 24 (.slice none 0 0) := ti (by kernel_rfl)
instance tz26 : TZ Try.prog 26 [.slice none 0 0] := tz (by kernel_rfl)
def td27 : Array Field := #[{ name := "Stir", type := 22, offset := 0, embedded := false, tag := "", pkgPath := "", byteOffset := 0 }, { name := "Rows", type := 25, offset := 1, embedded := false, tag := "", pkgPath := "", byteOffset := 8 }, { name := "Outs", type := 26, offset := 2, embedded := false, tag := "", pkgPath := "", byteOffset := 32 }, { name := "Ok", type := 4, offset := 3, embedded := false, tag := "", pkgPath := "", byteOffset := 56 }]
instance tu27 : TU Try.prog 27 (.struct td27) := ⟨Try.underlying27⟩
instance tf27_0 : TF Try.prog 27 0 0 22 := tf Try.underlying27 rfl (by kernel_rfl)
instance tf27_1 : TF Try.prog 27 1 1 25 := tf Try.underlying27 rfl (by kernel_rfl)
instance tf27_2 : TF Try.prog 27 2 2 26 := tf Try.underlying27 rfl (by kernel_rfl)
instance tf27_3 : TF Try.prog 27 3 3 4 := tf Try.underlying27 rfl (by kernel_rfl)
instance tb27 : TB Try.prog 27 [(0, 1), (1, 1), (2, 1), (3, 1)] [.int .u64 0, .slice none 0 0, .slice none 0 0, .bool false] := tb (fs := td27) Try.underlying27 (by kernel_rfl) (by kernel_rfl)
instance ti27 : TI Try.prog 27 4 64 (.agg #[.int .u64 0, .slice none 0 0, .slice none 0 0, .bool false]) := ti (by kernel_rfl)
instance tz27 : TZ Try.prog 27 [.int .u64 0, .slice none 0 0, .slice none 0 0, .bool false] := tz (by kernel_rfl)
def td28 : Array Field := #[{ name := "Stir", type := 22, offset := 0, embedded := false, tag := "", pkgPath := "", byteOffset := 0 }, { name := "Rows", type := 25, offset := 1, embedded := false, tag := "", pkgPath := "", byteOffset := 8 }, { name := "Outs", type := 26, offset := 2, embedded := false, tag := "", pkgPath := "", byteOffset := 32 }, { name := "Ok", type := 4, offset := 3, embedded := false, tag := "", pkgPath := "", byteOffset := 56 }]
instance tu28 : TU Try.prog 28 (.struct td28) := ⟨Try.underlying28⟩
instance tf28_0 : TF Try.prog 28 0 0 22 := tf Try.underlying28 rfl (by kernel_rfl)
instance tf28_1 : TF Try.prog 28 1 1 25 := tf Try.underlying28 rfl (by kernel_rfl)
instance tf28_2 : TF Try.prog 28 2 2 26 := tf Try.underlying28 rfl (by kernel_rfl)
instance tf28_3 : TF Try.prog 28 3 3 4 := tf Try.underlying28 rfl (by kernel_rfl)
instance tb28 : TB Try.prog 28 [(0, 1), (1, 1), (2, 1), (3, 1)] [.int .u64 0, .slice none 0 0, .slice none 0 0, .bool false] := tb (fs := td28) Try.underlying28 (by kernel_rfl) (by kernel_rfl)
instance ti28 : TI Try.prog 28 4 64 (.agg #[.int .u64 0, .slice none 0 0, .slice none 0 0, .bool false]) := ti (by kernel_rfl)
instance tz28 : TZ Try.prog 28 [.int .u64 0, .slice none 0 0, .slice none 0 0, .bool false] := tz (by kernel_rfl)
instance tu30 : TU Try.prog 30 (.slice 22) := ⟨Try.underlying30⟩
instance ti30 : TI Try.prog 30 1 24 (.slice none 0 0) := ti (by kernel_rfl)
instance tz30 : TZ Try.prog 30 [.slice none 0 0] := tz (by kernel_rfl)
def td31 : Array Field := #[{ name := "Code", type := 3, offset := 0, embedded := false, tag := "", pkgPath := "", byteOffset := 0 }, { name := "List", type := 30, offset := 1, embedded := false, tag := "", pkgPath := "", byteOffset := 8 }]
instance tu31 : TU Try.prog 31 (.struct td31) := ⟨Try.underlying31⟩
instance tf31_0 : TF Try.prog 31 0 0 3 := tf Try.underlying31 rfl (by kernel_rfl)
instance tf31_1 : TF Try.prog 31 1 1 30 := tf Try.underlying31 rfl (by kernel_rfl)
instance tb31 : TB Try.prog 31 [(0, 1), (1, 1)] [.int .i64 0, .slice none 0 0] := tb (fs := td31) Try.underlying31 (by kernel_rfl) (by kernel_rfl)
instance ti31 : TI Try.prog 31 2 32 (.agg #[.int .i64 0, .slice none 0 0]) := ti (by kernel_rfl)
instance tz31 : TZ Try.prog 31 [.int .i64 0, .slice none 0 0] := tz (by kernel_rfl)
def td32 : Array Field := #[{ name := "Code", type := 3, offset := 0, embedded := false, tag := "", pkgPath := "", byteOffset := 0 }, { name := "List", type := 30, offset := 1, embedded := false, tag := "", pkgPath := "", byteOffset := 8 }]
instance tu32 : TU Try.prog 32 (.struct td32) := ⟨Try.underlying32⟩
instance tf32_0 : TF Try.prog 32 0 0 3 := tf Try.underlying32 rfl (by kernel_rfl)
instance tf32_1 : TF Try.prog 32 1 1 30 := tf Try.underlying32 rfl (by kernel_rfl)
instance tb32 : TB Try.prog 32 [(0, 1), (1, 1)] [.int .i64 0, .slice none 0 0] := tb (fs := td32) Try.underlying32 (by kernel_rfl) (by kernel_rfl)
instance ti32 : TI Try.prog 32 2 32 (.agg #[.int .i64 0, .slice none 0 0]) := ti (by kernel_rfl)
instance tz32 : TZ Try.prog 32 [.int .i64 0, .slice none 0 0] := tz (by kernel_rfl)
instance tu43 : TU Try.prog 43 (.slice 24) := ⟨Try.underlying43⟩
instance ti43 : TI Try.prog 43 1 24 (.slice none 0 0) := ti (by kernel_rfl)
instance tz43 : TZ Try.prog 43 [.slice none 0 0] := tz (by kernel_rfl)
def td44 : Array Field := #[{ name := "In", type := 22, offset := 0, embedded := false, tag := "", pkgPath := "", byteOffset := 0 }, { name := "Outs", type := 43, offset := 1, embedded := false, tag := "", pkgPath := "", byteOffset := 8 }]
instance tu44 : TU Try.prog 44 (.struct td44) := ⟨Try.underlying44⟩
instance tf44_0 : TF Try.prog 44 0 0 22 := tf Try.underlying44 rfl (by kernel_rfl)
instance tf44_1 : TF Try.prog 44 1 1 43 := tf Try.underlying44 rfl (by kernel_rfl)
instance tb44 : TB Try.prog 44 [(0, 1), (1, 1)] [.int .u64 0, .slice none 0 0] := tb (fs := td44) Try.underlying44 (by kernel_rfl) (by kernel_rfl)
instance ti44 : TI Try.prog 44 2 32 (.agg #[.int .u64 0, .slice none 0 0]) := ti (by kernel_rfl)
instance tz44 : TZ Try.prog 44 [.int .u64 0, .slice none 0 0] := tz (by kernel_rfl)
def td45 : Array Field := #[{ name := "In", type := 22, offset := 0, embedded := false, tag := "", pkgPath := "", byteOffset := 0 }, { name := "Outs", type := 43, offset := 1, embedded := false, tag := "", pkgPath := "", byteOffset := 8 }]
instance tu45 : TU Try.prog 45 (.struct td45) := ⟨Try.underlying45⟩
instance tf45_0 : TF Try.prog 45 0 0 22 := tf Try.underlying45 rfl (by kernel_rfl)
instance tf45_1 : TF Try.prog 45 1 1 43 := tf Try.underlying45 rfl (by kernel_rfl)
instance tb45 : TB Try.prog 45 [(0, 1), (1, 1)] [.int .u64 0, .slice none 0 0] := tb (fs := td45) Try.underlying45 (by kernel_rfl) (by kernel_rfl)
instance ti45 : TI Try.prog 45 2 32 (.agg #[.int .u64 0, .slice none 0 0]) := ti (by kernel_rfl)
instance tz45 : TZ Try.prog 45 [.int .u64 0, .slice none 0 0] := tz (by kernel_rfl)
def td46 : Array Field := #[{ name := "ID", type := 24, offset := 0, embedded := false, tag := "", pkgPath := "", byteOffset := 0 }, { name := "Rank", type := 3, offset := 2, embedded := false, tag := "", pkgPath := "", byteOffset := 16 }]
instance tu46 : TU Try.prog 46 (.struct td46) := ⟨Try.underlying46⟩
instance tf46_0 : TF Try.prog 46 0 0 24 := tf Try.underlying46 rfl (by kernel_rfl)
instance tf46_1 : TF Try.prog 46 1 2 3 := tf Try.underlying46 rfl (by kernel_rfl)
instance tb46 : TB Try.prog 46 [(0, 2), (2, 1)] [.int .i64 0, .int .u64 0, .int .i64 0] := tb (fs := td46) Try.underlying46 (by kernel_rfl) (by kernel_rfl)
instance ti46 : TI Try.prog 46 3 24 (.agg #[.int .i64 0, .int .u64 0, .int .i64 0]) := ti (by kernel_rfl)
instance tz46 : TZ Try.prog 46 [.int .i64 0, .int .u64 0, .int .i64 0] := tz (by kernel_rfl)
def td47 : Array Field := #[{ name := "ID", type := 24, offset := 0, embedded := false, tag := "", pkgPath := "", byteOffset := 0 }, { name := "Rank", type := 3, offset := 2, embedded := false, tag := "", pkgPath := "", byteOffset := 16 }]
instance tu47 : TU Try.prog 47 (.struct td47) := ⟨Try.underlying47⟩
instance tf47_0 : TF Try.prog 47 0 0 24 := tf Try.underlying47 rfl (by kernel_rfl)
instance tf47_1 : TF Try.prog 47 1 2 3 := tf Try.underlying47 rfl (by kernel_rfl)
instance tb47 : TB Try.prog 47 [(0, 2), (2, 1)] [.int .i64 0, .int .u64 0, .int .i64 0] := tb (fs := td47) Try.underlying47 (by kernel_rfl) (by kernel_rfl)
instance ti47 : TI Try.prog 47 3 24 (.agg #[.int .i64 0, .int .u64 0, .int .i64 0]) := ti (by kernel_rfl)
instance tz47 : TZ Try.prog 47 [.int .i64 0, .int .u64 0, .int .i64 0] := tz (by kernel_rfl)
instance tu62 : TU Try.prog 62 (.int .u64) := ⟨Try.underlying62⟩
instance ti62 : TI Try.prog 62 1 8 (.int .u64 0) := ti (by kernel_rfl)
instance tz62 : TZ Try.prog 62 [.int .u64 0] := tz (by kernel_rfl)
instance tu64 : TU Try.prog 64 (.int .i64) := ⟨Try.underlying64⟩
instance ti64 : TI Try.prog 64 1 8 (.int .i64 0) := ti (by kernel_rfl)
instance tz64 : TZ Try.prog 64 [.int .i64 0] := tz (by kernel_rfl)
instance tu73 : TU Try.prog 73 (.int .u32) := ⟨Try.underlying73⟩
instance ti73 : TI Try.prog 73 1 4 (.int .u32 0) := ti (by kernel_rfl)
instance tz73 : TZ Try.prog 73 [.int .u32 0] := tz (by kernel_rfl)
instance tu75 : TU Try.prog 75 (.int .u64) := ⟨Try.underlying75⟩
instance ti75 : TI Try.prog 75 1 8 (.int .u64 0) := ti (by kernel_rfl)
instance tz75 : TZ Try.prog 75 [.int .u64 0] := tz (by kernel_rfl)
instance tu79 : TU Try.prog 79 (.pointer 3) := ⟨Try.underlying79⟩
instance ti79 : TI Try.prog 79 1 8 (.pointer none) := ti (by kernel_rfl)
instance tz79 : TZ Try.prog 79 [.pointer none] := tz (by kernel_rfl)
instance tu82 : TU Try.prog 82 (.pointer 75) := ⟨Try.underlying82⟩
instance ti82 : TI Try.prog 82 1 8 (.pointer none) := ti (by kernel_rfl)
instance tz82 : TZ Try.prog 82 [.pointer none] := tz (by kernel_rfl)
instance tu95 : TU Try.prog 95 (.pointer 5) := ⟨Try.underlying95⟩
instance ti95 : TI Try.prog 95 1 8 (.pointer none) := ti (by kernel_rfl)
instance tz95 : TZ Try.prog 95 [.pointer none] := tz (by kernel_rfl)
instance cf3 : CF Try.prog 3 := ⟨Try.call3⟩
instance cf4 : CF Try.prog 4 := ⟨Try.call4⟩
instance cf5 : CF Try.prog 5 := ⟨Try.call5⟩
instance cf6 : CF Try.prog 6 := ⟨Try.call6⟩
instance cf7 : CF Try.prog 7 := ⟨Try.call7⟩
instance cf8 : CF Try.prog 8 := ⟨Try.call8⟩
instance cf9 : CF Try.prog 9 := ⟨Try.call9⟩
instance cf10 : CF Try.prog 10 := ⟨Try.call10⟩
instance cf11 : CF Try.prog 11 := ⟨Try.call11⟩
instance cf12 : CF Try.prog 12 := ⟨Try.call12⟩
instance cf13 : CF Try.prog 13 := ⟨Try.call13⟩
instance cf14 : CF Try.prog 14 := ⟨Try.call14⟩
instance cf15 : CF Try.prog 15 := ⟨Try.call15⟩
instance cf16 : CF Try.prog 16 := ⟨Try.call16⟩
instance cf17 : CF Try.prog 17 := ⟨Try.call17⟩
instance cf18 : CF Try.prog 18 := ⟨Try.call18⟩
instance cf19 : CF Try.prog 19 := ⟨Try.call19⟩
instance cf20 : CF Try.prog 20 := ⟨Try.call20⟩
instance cf21 : CF Try.prog 21 := ⟨Try.call21⟩
instance cf22 : CF Try.prog 22 := ⟨Try.call22⟩
instance cf23 : CF Try.prog 23 := ⟨Try.call23⟩
instance cf24 : CF Try.prog 24 := ⟨Try.call24⟩
instance cf25 : CF Try.prog 25 := ⟨Try.call25⟩
instance cf26 : CF Try.prog 26 := ⟨Try.call26⟩
instance cf27 : CF Try.prog 27 := ⟨Try.call27⟩
instance cf28 : CF Try.prog 28 := ⟨Try.call28⟩
instance cf29 : CF Try.prog 29 := ⟨Try.call29⟩
instance cf30 : CF Try.prog 30 := ⟨Try.call30⟩
instance cf31 : CF Try.prog 31 := ⟨Try.call31⟩
instance cf32 : CF Try.prog 32 := ⟨Try.call32⟩
instance cf33 : CF Try.prog 33 := ⟨Try.call33⟩
instance cf34 : CF Try.prog 34 := ⟨Try.call34⟩
instance cf35 : CF Try.prog 35 := ⟨Try.call35⟩
instance cf36 : CF Try.prog 36 := ⟨Try.call36⟩
instance cf37 : CF Try.prog 37 := ⟨Try.call37⟩
instance cf38 : CF Try.prog 38 := ⟨Try.call38⟩
instance cf39 : CF Try.prog 39 := ⟨Try.call39⟩
instance cf40 : CF Try.prog 40 := ⟨Try.call40⟩
instance cf41 : CF Try.prog 41 := ⟨Try.call41⟩
instance cf42 : CF Try.prog 42 := ⟨Try.call42⟩
instance cf43 : CF Try.prog 43 := ⟨Try.call43⟩
instance cf44 : CF Try.prog 44 := ⟨Try.call44⟩
instance cf45 : CF Try.prog 45 := ⟨Try.call45⟩
def tab : Tab := ⟨[(13, 0, 0), (13, 1, 1), (19, 0, 0), (23, 0, 0), (23, 1, 1), (24, 0, 0), (24, 1, 1), (27, 0, 0), (27, 1, 1), (27, 2, 2), (27, 3, 3), (28, 0, 0), (28, 1, 1), (28, 2, 2), (28, 3, 3), (31, 0, 0), (31, 1, 1), (32, 0, 0), (32, 1, 1), (44, 0, 0), (44, 1, 1), (45, 0, 0), (45, 1, 1), (46, 0, 0), (46, 1, 2), (47, 0, 0), (47, 1, 2)], [(25, 2), (26, 3), (30, 1), (43, 2)], [(2, .i64), (3, .i64), (5, .u8), (12, .u64), (21, .i32), (22, .u64), (62, .u64), (64, .i64), (73, .u32), (75, .u64)]⟩
instance hasTab : HasTab Try.prog tab := ⟨(fcons ⟨_, tf13_0⟩ (fcons ⟨_, tf13_1⟩ (fcons ⟨_, tf19_0⟩ (fcons ⟨_, tf23_0⟩ (fcons ⟨_, tf23_1⟩ (fcons ⟨_, tf24_0⟩ (fcons ⟨_, tf24_1⟩ (fcons ⟨_, tf27_0⟩ (fcons ⟨_, tf27_1⟩ (fcons ⟨_, tf27_2⟩ (fcons ⟨_, tf27_3⟩ (fcons ⟨_, tf28_0⟩ (fcons ⟨_, tf28_1⟩ (fcons ⟨_, tf28_2⟩ (fcons ⟨_, tf28_3⟩ (fcons ⟨_, tf31_0⟩ (fcons ⟨_, tf31_1⟩ (fcons ⟨_, tf32_0⟩ (fcons ⟨_, tf32_1⟩ (fcons ⟨_, tf44_0⟩ (fcons ⟨_, tf44_1⟩ (fcons ⟨_, tf45_0⟩ (fcons ⟨_, tf45_1⟩ (fcons ⟨_, tf46_0⟩ (fcons ⟨_, tf46_1⟩ (fcons ⟨_, tf47_0⟩ (fcons ⟨_, tf47_1⟩ fnil))))))))))))))))))))))))))), (fcons ⟨_, _, _, tu25, ti45⟩ (fcons ⟨_, _, _, tu26, ti47⟩ (fcons ⟨_, _, _, tu30, ti22⟩ (fcons ⟨_, _, _, tu43, ti24⟩ fnil)))), (fcons tu2 (fcons tu3 (fcons tu5 (fcons tu12 (fcons tu21 (fcons tu22 (fcons tu62 (fcons tu64 (fcons tu73 (fcons tu75 fnil))))))))))⟩
theorem mixed : Try.prog.follows .mixedOrders = true := by kernel_rfl
end Go.Proofs.Ytkmjldihlgchdaa.M
