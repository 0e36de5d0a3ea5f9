/-
  What the types and functions of this seat are: sizes, zero values, bodies. No conditions.
-/
import Derived.Test.YtnemoodjbekngaaAbOwn
import Derived.Test.YtnemoodjbekngaaProg
import Derived.KernelRfl
namespace Go.Ab.Ytnemoodjbekngaa
open Go Go.Ab Go.Proofs

theorem sz0 : sizeAt Try.prog 0 = some 1 := by kernel_rfl
theorem sz1 : sizeAt Try.prog 1 = some 1 := by kernel_rfl
theorem sz2 : sizeAt Try.prog 2 = some 1 := by kernel_rfl
theorem sz3 : sizeAt Try.prog 3 = some 1 := by kernel_rfl
theorem sz4 : sizeAt Try.prog 4 = some 1 := by kernel_rfl
theorem sz5 : sizeAt Try.prog 5 = some 1 := by kernel_rfl
theorem sz6 : sizeAt Try.prog 6 = some 1 := by kernel_rfl
theorem sz7 : sizeAt Try.prog 7 = some 4 := by kernel_rfl
theorem sz8 : sizeAt Try.prog 8 = some 4 := by kernel_rfl
theorem sz9 : sizeAt Try.prog 9 = some 1 := by kernel_rfl
theorem sz10 : sizeAt Try.prog 10 = some 1 := by kernel_rfl
theorem sz11 : sizeAt Try.prog 11 = some 1 := by kernel_rfl
theorem sz12 : sizeAt Try.prog 12 = some 1 := by kernel_rfl
theorem sz13 : sizeAt Try.prog 13 = some 2 := by kernel_rfl
theorem sz14 : sizeAt Try.prog 14 = some 2 := by kernel_rfl
theorem sz15 : sizeAt Try.prog 15 = some 1 := by kernel_rfl
theorem sz16 : sizeAt Try.prog 16 = some 1 := by kernel_rfl
theorem sz17 : sizeAt Try.prog 17 = some 1 := by kernel_rfl
theorem sz18 : sizeAt Try.prog 18 = some 1 := by kernel_rfl
theorem sz19 : sizeAt Try.prog 19 = some 1 := by kernel_rfl
theorem sz20 : sizeAt Try.prog 20 = some 1 := by kernel_rfl
theorem sz21 : sizeAt Try.prog 21 = some 1 := by kernel_rfl
theorem sz22 : sizeAt Try.prog 22 = some 1 := by kernel_rfl
theorem sz23 : sizeAt Try.prog 23 = some 1 := by kernel_rfl
theorem sz24 : sizeAt Try.prog 24 = some 1 := by kernel_rfl
theorem sz25 : sizeAt Try.prog 25 = some 1 := by kernel_rfl
theorem sz26 : sizeAt Try.prog 26 = some 1 := by kernel_rfl
theorem sz27 : sizeAt Try.prog 27 = some 1 := by kernel_rfl
theorem sz28 : sizeAt Try.prog 28 = some 1 := by kernel_rfl
theorem sz29 : sizeAt Try.prog 29 = some 1 := by kernel_rfl
theorem sz30 : sizeAt Try.prog 30 = some 3 := by kernel_rfl
theorem sz31 : sizeAt Try.prog 31 = some 3 := by kernel_rfl
theorem sz32 : sizeAt Try.prog 32 = some 1 := by kernel_rfl
theorem sz33 : sizeAt Try.prog 33 = some 1 := by kernel_rfl
theorem sz34 : sizeAt Try.prog 34 = some 1 := by kernel_rfl
theorem sz35 : sizeAt Try.prog 35 = some 1 := by kernel_rfl
theorem sz36 : sizeAt Try.prog 36 = some 1 := by kernel_rfl
theorem sz37 : sizeAt Try.prog 37 = some 1 := by kernel_rfl
theorem sz38 : sizeAt Try.prog 38 = some 1 := by kernel_rfl
theorem sz39 : sizeAt Try.prog 39 = some 1 := by kernel_rfl
theorem sz40 : sizeAt Try.prog 40 = some 1 := by kernel_rfl
theorem sz41 : sizeAt Try.prog 41 = some 1 := by kernel_rfl
theorem sz42 : sizeAt Try.prog 42 = some 1 := by kernel_rfl
theorem sz43 : sizeAt Try.prog 43 = some 1 := by kernel_rfl
theorem sz44 : sizeAt Try.prog 44 = some 1 := by kernel_rfl
theorem sz45 : sizeAt Try.prog 45 = some 1 := by kernel_rfl
theorem sz46 : sizeAt Try.prog 46 = some 1 := by kernel_rfl
theorem sz47 : sizeAt Try.prog 47 = some 1 := by kernel_rfl
theorem sz48 : sizeAt Try.prog 48 = some 1 := by kernel_rfl
theorem sz49 : sizeAt Try.prog 49 = some 1 := by kernel_rfl
theorem sz50 : sizeAt Try.prog 50 = some 1 := by kernel_rfl
theorem sz51 : sizeAt Try.prog 51 = some 8 := by kernel_rfl
theorem sz52 : sizeAt Try.prog 52 = some 8 := by kernel_rfl
theorem sz53 : sizeAt Try.prog 53 = some 1 := by kernel_rfl
theorem sz54 : sizeAt Try.prog 54 = some 1 := by kernel_rfl
theorem sz55 : sizeAt Try.prog 55 = some 1 := by kernel_rfl
theorem sz56 : sizeAt Try.prog 56 = some 1 := by kernel_rfl
theorem sz57 : sizeAt Try.prog 57 = some 1 := by kernel_rfl
theorem sz58 : sizeAt Try.prog 58 = some 1 := by kernel_rfl
theorem sz59 : sizeAt Try.prog 59 = some 1 := by kernel_rfl
theorem sz60 : sizeAt Try.prog 60 = some 2 := by kernel_rfl
theorem sz61 : sizeAt Try.prog 61 = some 2 := by kernel_rfl
theorem sz62 : sizeAt Try.prog 62 = some 1 := by kernel_rfl
theorem sz63 : sizeAt Try.prog 63 = some 1 := by kernel_rfl
theorem sz64 : sizeAt Try.prog 64 = some 1 := by kernel_rfl
theorem sz65 : sizeAt Try.prog 65 = some 1 := by kernel_rfl
theorem sz66 : sizeAt Try.prog 66 = some 1 := by kernel_rfl
theorem sz67 : sizeAt Try.prog 67 = some 1 := by kernel_rfl
theorem sz68 : sizeAt Try.prog 68 = some 4 := by kernel_rfl
theorem sz69 : sizeAt Try.prog 69 = some 4 := by kernel_rfl
theorem sz70 : sizeAt Try.prog 70 = some 0 := by kernel_rfl
theorem sz71 : sizeAt Try.prog 71 = some 0 := by kernel_rfl
theorem sz72 : sizeAt Try.prog 72 = some 0 := by kernel_rfl
theorem sz73 : sizeAt Try.prog 73 = some 1 := by kernel_rfl
theorem sz74 : sizeAt Try.prog 74 = some 1 := by kernel_rfl
theorem sz75 : sizeAt Try.prog 75 = some 1 := by kernel_rfl
theorem sz76 : sizeAt Try.prog 76 = some 1 := by kernel_rfl
theorem sz77 : sizeAt Try.prog 77 = some 1 := by kernel_rfl
theorem sz78 : sizeAt Try.prog 78 = some 1 := by kernel_rfl
theorem sz79 : sizeAt Try.prog 79 = some 1 := by kernel_rfl
theorem sz80 : sizeAt Try.prog 80 = some 1 := by kernel_rfl
theorem sz81 : sizeAt Try.prog 81 = some 11 := by kernel_rfl
theorem sz82 : sizeAt Try.prog 82 = some 11 := by kernel_rfl
theorem sz83 : sizeAt Try.prog 83 = some 1 := by kernel_rfl
theorem ag0 : aggAt Try.prog 0 = some false := by kernel_rfl
theorem ag1 : aggAt Try.prog 1 = some false := by kernel_rfl
theorem ag2 : aggAt Try.prog 2 = some false := by kernel_rfl
theorem ag3 : aggAt Try.prog 3 = some false := by kernel_rfl
theorem ag4 : aggAt Try.prog 4 = some false := by kernel_rfl
theorem ag5 : aggAt Try.prog 5 = some false := by kernel_rfl
theorem ag6 : aggAt Try.prog 6 = some false := by kernel_rfl
theorem ag7 : aggAt Try.prog 7 = some true := by kernel_rfl
theorem ag8 : aggAt Try.prog 8 = some true := by kernel_rfl
theorem ag9 : aggAt Try.prog 9 = some false := by kernel_rfl
theorem ag10 : aggAt Try.prog 10 = some false := by kernel_rfl
theorem ag11 : aggAt Try.prog 11 = some false := by kernel_rfl
theorem ag12 : aggAt Try.prog 12 = some false := by kernel_rfl
theorem ag13 : aggAt Try.prog 13 = some true := by kernel_rfl
theorem ag14 : aggAt Try.prog 14 = some true := by kernel_rfl
theorem ag15 : aggAt Try.prog 15 = some false := by kernel_rfl
theorem ag16 : aggAt Try.prog 16 = some false := by kernel_rfl
theorem ag17 : aggAt Try.prog 17 = some false := by kernel_rfl
theorem ag18 : aggAt Try.prog 18 = some true := by kernel_rfl
theorem ag19 : aggAt Try.prog 19 = some true := by kernel_rfl
theorem ag20 : aggAt Try.prog 20 = some false := by kernel_rfl
theorem ag21 : aggAt Try.prog 21 = some false := by kernel_rfl
theorem ag22 : aggAt Try.prog 22 = some false := by kernel_rfl
theorem ag23 : aggAt Try.prog 23 = some false := by kernel_rfl
theorem ag24 : aggAt Try.prog 24 = some false := by kernel_rfl
theorem ag25 : aggAt Try.prog 25 = some false := by kernel_rfl
theorem ag26 : aggAt Try.prog 26 = some false := by kernel_rfl
theorem ag27 : aggAt Try.prog 27 = some false := by kernel_rfl
theorem ag28 : aggAt Try.prog 28 = some false := by kernel_rfl
theorem ag29 : aggAt Try.prog 29 = some false := by kernel_rfl
theorem ag30 : aggAt Try.prog 30 = some true := by kernel_rfl
theorem ag31 : aggAt Try.prog 31 = some true := by kernel_rfl
theorem ag32 : aggAt Try.prog 32 = some false := by kernel_rfl
theorem ag33 : aggAt Try.prog 33 = some false := by kernel_rfl
theorem ag34 : aggAt Try.prog 34 = some false := by kernel_rfl
theorem ag35 : aggAt Try.prog 35 = some false := by kernel_rfl
theorem ag36 : aggAt Try.prog 36 = some false := by kernel_rfl
theorem ag37 : aggAt Try.prog 37 = some false := by kernel_rfl
theorem ag38 : aggAt Try.prog 38 = some false := by kernel_rfl
theorem ag39 : aggAt Try.prog 39 = some false := by kernel_rfl
theorem ag40 : aggAt Try.prog 40 = some false := by kernel_rfl
theorem ag41 : aggAt Try.prog 41 = some false := by kernel_rfl
theorem ag42 : aggAt Try.prog 42 = some false := by kernel_rfl
theorem ag43 : aggAt Try.prog 43 = some false := by kernel_rfl
theorem ag44 : aggAt Try.prog 44 = some false := by kernel_rfl
theorem ag45 : aggAt Try.prog 45 = some false := by kernel_rfl
theorem ag46 : aggAt Try.prog 46 = some false := by kernel_rfl
theorem ag47 : aggAt Try.prog 47 = some false := by kernel_rfl
theorem ag48 : aggAt Try.prog 48 = some false := by kernel_rfl
theorem ag49 : aggAt Try.prog 49 = some false := by kernel_rfl
theorem ag50 : aggAt Try.prog 50 = some false := by kernel_rfl
theorem ag51 : aggAt Try.prog 51 = some true := by kernel_rfl
theorem ag52 : aggAt Try.prog 52 = some true := by kernel_rfl
theorem ag53 : aggAt Try.prog 53 = some false := by kernel_rfl
theorem ag54 : aggAt Try.prog 54 = some false := by kernel_rfl
theorem ag55 : aggAt Try.prog 55 = some false := by kernel_rfl
theorem ag56 : aggAt Try.prog 56 = some false := by kernel_rfl
theorem ag57 : aggAt Try.prog 57 = some false := by kernel_rfl
theorem ag58 : aggAt Try.prog 58 = some false := by kernel_rfl
theorem ag59 : aggAt Try.prog 59 = some false := by kernel_rfl
theorem ag60 : aggAt Try.prog 60 = some true := by kernel_rfl
theorem ag61 : aggAt Try.prog 61 = some true := by kernel_rfl
theorem ag62 : aggAt Try.prog 62 = some false := by kernel_rfl
theorem ag63 : aggAt Try.prog 63 = some false := by kernel_rfl
theorem ag64 : aggAt Try.prog 64 = some false := by kernel_rfl
theorem ag65 : aggAt Try.prog 65 = some false := by kernel_rfl
theorem ag66 : aggAt Try.prog 66 = some false := by kernel_rfl
theorem ag67 : aggAt Try.prog 67 = some false := by kernel_rfl
theorem ag68 : aggAt Try.prog 68 = some true := by kernel_rfl
theorem ag69 : aggAt Try.prog 69 = some true := by kernel_rfl
theorem ag70 : aggAt Try.prog 70 = some true := by kernel_rfl
theorem ag71 : aggAt Try.prog 71 = some true := by kernel_rfl
theorem ag72 : aggAt Try.prog 72 = some true := by kernel_rfl
theorem ag73 : aggAt Try.prog 73 = some false := by kernel_rfl
theorem ag74 : aggAt Try.prog 74 = some false := by kernel_rfl
theorem ag75 : aggAt Try.prog 75 = some false := by kernel_rfl
theorem ag76 : aggAt Try.prog 76 = some false := by kernel_rfl
theorem ag77 : aggAt Try.prog 77 = some false := by kernel_rfl
theorem ag78 : aggAt Try.prog 78 = some false := by kernel_rfl
theorem ag79 : aggAt Try.prog 79 = some false := by kernel_rfl
theorem ag80 : aggAt Try.prog 80 = some false := by kernel_rfl
theorem ag81 : aggAt Try.prog 81 = some true := by kernel_rfl
theorem ag82 : aggAt Try.prog 82 = some true := by kernel_rfl
theorem ag83 : aggAt Try.prog 83 = some false := by kernel_rfl
@[go_sem] theorem zr0 : zeroOf Try.prog 0 = some [Value.tuple #[]] := by kernel_rfl
@[go_sem] theorem zr1 : zeroOf Try.prog 1 = some [Value.nilFunc] := by kernel_rfl
@[go_sem] theorem zr2 : zeroOf Try.prog 2 = some [Value.int IntKind.i64 0] := by kernel_rfl
@[go_sem] theorem zr3 : zeroOf Try.prog 3 = some [Value.int IntKind.i64 0] := by kernel_rfl
@[go_sem] theorem zr4 : zeroOf Try.prog 4 = some [Value.bool false] := by kernel_rfl
@[go_sem] theorem zr5 : zeroOf Try.prog 5 = some [Value.int IntKind.u8 0] := by kernel_rfl
@[go_sem] theorem zr6 : zeroOf Try.prog 6 = some [Value.int IntKind.u8 0] := by kernel_rfl
@[go_sem] theorem zr7 : zeroOf Try.prog 7 = some [Value.int IntKind.i64 0, Value.int IntKind.i64 0, Value.bool false, Value.int IntKind.u8 0] := by kernel_rfl
@[go_sem] theorem zr8 : zeroOf Try.prog 8 = some [Value.int IntKind.i64 0, Value.int IntKind.i64 0, Value.bool false, Value.int IntKind.u8 0] := by kernel_rfl
@[go_sem] theorem zr9 : zeroOf Try.prog 9 = some [Value.string ⟨#[]⟩] := by kernel_rfl
@[go_sem] theorem zr10 : zeroOf Try.prog 10 = some [Value.string ⟨#[]⟩] := by kernel_rfl
@[go_sem] theorem zr11 : zeroOf Try.prog 11 = some [Value.string ⟨#[]⟩] := by kernel_rfl
@[go_sem] theorem zr12 : zeroOf Try.prog 12 = some [Value.int IntKind.u64 0] := by kernel_rfl
@[go_sem] theorem zr13 : zeroOf Try.prog 13 = some [Value.string ⟨#[]⟩, Value.int IntKind.u64 0] := by kernel_rfl
@[go_sem] theorem zr14 : zeroOf Try.prog 14 = some [Value.string ⟨#[]⟩, Value.int IntKind.u64 0] := by kernel_rfl
@[go_sem] theorem zr15 : zeroOf Try.prog 15 = some [Value.pointer none] := by kernel_rfl
@[go_sem] theorem zr16 : zeroOf Try.prog 16 = some [Value.pointer none] := by kernel_rfl
@[go_sem] theorem zr17 : zeroOf Try.prog 17 = some [Value.pointer none] := by kernel_rfl
@[go_sem] theorem zr18 : zeroOf Try.prog 18 = some [Value.pointer none] := by kernel_rfl
@[go_sem] theorem zr19 : zeroOf Try.prog 19 = some [Value.pointer none] := by kernel_rfl
@[go_sem] theorem zr20 : zeroOf Try.prog 20 = some [Value.nilIface] := by kernel_rfl
@[go_sem] theorem zr21 : zeroOf Try.prog 21 = some [Value.int IntKind.i32 0] := by kernel_rfl
@[go_sem] theorem zr22 : zeroOf Try.prog 22 = some [Value.nilFunc] := by kernel_rfl
@[go_sem] theorem zr23 : zeroOf Try.prog 23 = some [Value.nilFunc] := by kernel_rfl
@[go_sem] theorem zr24 : zeroOf Try.prog 24 = some [Value.nilFunc] := by kernel_rfl
@[go_sem] theorem zr25 : zeroOf Try.prog 25 = some [Value.nilFunc] := by kernel_rfl
@[go_sem] theorem zr26 : zeroOf Try.prog 26 = some [Value.slice none 0 0] := by kernel_rfl
@[go_sem] theorem zr27 : zeroOf Try.prog 27 = some [Value.nilFunc] := by kernel_rfl
@[go_sem] theorem zr28 : zeroOf Try.prog 28 = some [Value.slice none 0 0] := by kernel_rfl
@[go_sem] theorem zr29 : zeroOf Try.prog 29 = some [Value.slice none 0 0] := by kernel_rfl
@[go_sem] theorem zr30 : zeroOf Try.prog 30 = some [Value.slice none 0 0, Value.slice none 0 0, Value.slice none 0 0] := by kernel_rfl
@[go_sem] theorem zr31 : zeroOf Try.prog 31 = some [Value.slice none 0 0, Value.slice none 0 0, Value.slice none 0 0] := by kernel_rfl
@[go_sem] theorem zr32 : zeroOf Try.prog 32 = some [Value.nilFunc] := by kernel_rfl
@[go_sem] theorem zr33 : zeroOf Try.prog 33 = some [Value.tuple #[Value.slice none 0 0, Value.slice none 0 0, Value.slice none 0 0]] := by kernel_rfl
@[go_sem] theorem zr34 : zeroOf Try.prog 34 = some [Value.nilFunc] := by kernel_rfl
@[go_sem] theorem zr35 : zeroOf Try.prog 35 = some [Value.nilFunc] := by kernel_rfl
@[go_sem] theorem zr36 : zeroOf Try.prog 36 = some [Value.nilFunc] := by kernel_rfl
@[go_sem] theorem zr37 : zeroOf Try.prog 37 = some [Value.tuple #[Value.int IntKind.i32 0, Value.int IntKind.i64 0]] := by kernel_rfl
@[go_sem] theorem zr38 : zeroOf Try.prog 38 = some [Value.nilFunc] := by kernel_rfl
@[go_sem] theorem zr39 : zeroOf Try.prog 39 = some [Value.nilFunc] := by kernel_rfl
@[go_sem] theorem zr40 : zeroOf Try.prog 40 = some [Value.nilFunc] := by kernel_rfl
@[go_sem] theorem zr41 : zeroOf Try.prog 41 = some [Value.nilFunc] := by kernel_rfl
@[go_sem] theorem zr42 : zeroOf Try.prog 42 = some [Value.nilFunc] := by kernel_rfl
@[go_sem] theorem zr43 : zeroOf Try.prog 43 = some [Value.nilFunc] := by kernel_rfl
@[go_sem] theorem zr44 : zeroOf Try.prog 44 = some [Value.nilFunc] := by kernel_rfl
@[go_sem] theorem zr45 : zeroOf Try.prog 45 = some [Value.tuple #[Value.string ⟨#[]⟩, Value.bool false]] := by kernel_rfl
@[go_sem] theorem zr46 : zeroOf Try.prog 46 = some [Value.nilFunc] := by kernel_rfl
@[go_sem] theorem zr47 : zeroOf Try.prog 47 = some [Value.nilFunc] := by kernel_rfl
@[go_sem] theorem zr48 : zeroOf Try.prog 48 = some [Value.slice none 0 0] := by kernel_rfl
@[go_sem] theorem zr49 : zeroOf Try.prog 49 = some [Value.nilFunc] := by kernel_rfl
@[go_sem] theorem zr50 : zeroOf Try.prog 50 = some [Value.pointer none] := by kernel_rfl
@[go_sem] theorem zr51 : zeroOf Try.prog 51 = some [Value.slice none 0 0, Value.slice none 0 0, Value.slice none 0 0, Value.slice none 0 0, Value.bool false, Value.int IntKind.i64 0, Value.bool false, Value.bool false] := by kernel_rfl
@[go_sem] theorem zr52 : zeroOf Try.prog 52 = some [Value.slice none 0 0, Value.slice none 0 0, Value.slice none 0 0, Value.slice none 0 0, Value.bool false, Value.int IntKind.i64 0, Value.bool false, Value.bool false] := by kernel_rfl
@[go_sem] theorem zr53 : zeroOf Try.prog 53 = some [Value.nilFunc] := by kernel_rfl
@[go_sem] theorem zr54 : zeroOf Try.prog 54 = some [Value.nilFunc] := by kernel_rfl
@[go_sem] theorem zr55 : zeroOf Try.prog 55 = some [Value.int IntKind.u64 0] := by kernel_rfl
@[go_sem] theorem zr56 : zeroOf Try.prog 56 = some [Value.tuple #[Value.int IntKind.i64 0, Value.bool false]] := by kernel_rfl
@[go_sem] theorem zr57 : zeroOf Try.prog 57 = some [Value.nilFunc] := by kernel_rfl
@[go_sem] theorem zr58 : zeroOf Try.prog 58 = some [Value.nilFunc] := by kernel_rfl
@[go_sem] theorem zr59 : zeroOf Try.prog 59 = some [Value.nilFunc] := by kernel_rfl
@[go_sem] theorem zr60 : zeroOf Try.prog 60 = some [Value.string ⟨#[]⟩, Value.string ⟨#[]⟩] := by kernel_rfl
@[go_sem] theorem zr61 : zeroOf Try.prog 61 = some [Value.string ⟨#[]⟩, Value.string ⟨#[]⟩] := by kernel_rfl
@[go_sem] theorem zr62 : zeroOf Try.prog 62 = some [Value.slice none 0 0] := by kernel_rfl
@[go_sem] theorem zr63 : zeroOf Try.prog 63 = some [Value.nilFunc] := by kernel_rfl
@[go_sem] theorem zr64 : zeroOf Try.prog 64 = some [Value.nilFunc] := by kernel_rfl
@[go_sem] theorem zr65 : zeroOf Try.prog 65 = some [Value.nilFunc] := by kernel_rfl
@[go_sem] theorem zr66 : zeroOf Try.prog 66 = some [Value.nilFunc] := by kernel_rfl
@[go_sem] theorem zr67 : zeroOf Try.prog 67 = some [Value.nilFunc] := by kernel_rfl
@[go_sem] theorem zr68 : zeroOf Try.prog 68 = some [Value.pointer none, Value.pointer none, Value.pointer none, Value.string ⟨#[]⟩] := by kernel_rfl
@[go_sem] theorem zr69 : zeroOf Try.prog 69 = some [Value.pointer none, Value.pointer none, Value.pointer none, Value.string ⟨#[]⟩] := by kernel_rfl
@[go_sem] theorem zr70 : zeroOf Try.prog 70 = some [] := by kernel_rfl
@[go_sem] theorem zr71 : zeroOf Try.prog 71 = some [] := by kernel_rfl
@[go_sem] theorem zr72 : zeroOf Try.prog 72 = some [] := by kernel_rfl
@[go_sem] theorem zr73 : zeroOf Try.prog 73 = some [Value.nilFunc] := by kernel_rfl
@[go_sem] theorem zr74 : zeroOf Try.prog 74 = some [Value.int IntKind.u32 0] := by kernel_rfl
@[go_sem] theorem zr75 : zeroOf Try.prog 75 = some [Value.int IntKind.u8 0] := by kernel_rfl
@[go_sem] theorem zr76 : zeroOf Try.prog 76 = some [Value.int IntKind.u8 0] := by kernel_rfl
@[go_sem] theorem zr77 : zeroOf Try.prog 77 = some [Value.nilFunc] := by kernel_rfl
@[go_sem] theorem zr78 : zeroOf Try.prog 78 = some [Value.pointer none] := by kernel_rfl
@[go_sem] theorem zr79 : zeroOf Try.prog 79 = some [Value.int IntKind.i32 0] := by kernel_rfl
@[go_sem] theorem zr80 : zeroOf Try.prog 80 = some [Value.int IntKind.i32 0] := by kernel_rfl
@[go_sem] theorem zr81 : zeroOf Try.prog 81 = some [Value.int IntKind.u64 0, Value.int IntKind.u64 0, Value.int IntKind.u32 0, Value.int IntKind.u8 0, Value.int IntKind.u8 0, Value.int IntKind.u8 0, Value.int IntKind.u8 0, Value.nilFunc, Value.pointer none, Value.int IntKind.i32 0, Value.int IntKind.i32 0] := by kernel_rfl
@[go_sem] theorem zr82 : zeroOf Try.prog 82 = some [Value.int IntKind.u64 0, Value.int IntKind.u64 0, Value.int IntKind.u32 0, Value.int IntKind.u8 0, Value.int IntKind.u8 0, Value.int IntKind.u8 0, Value.int IntKind.u8 0, Value.nilFunc, Value.pointer none, Value.int IntKind.i32 0, Value.int IntKind.i32 0] := by kernel_rfl
@[go_sem] theorem zr83 : zeroOf Try.prog 83 = some [Value.pointer none] := by kernel_rfl
theorem el26 : elemAt Try.prog 26 = some 5 := by kernel_rfl
theorem el28 : elemAt Try.prog 28 = some 9 := by kernel_rfl
theorem el29 : elemAt Try.prog 29 = some 3 := by kernel_rfl
theorem el48 : elemAt Try.prog 48 = some 4 := by kernel_rfl
theorem el62 : elemAt Try.prog 62 = some 61 := by kernel_rfl
theorem by0 : ∃ i, Try.prog.info? 0 = some i ∧ (i.size, i.bytes) = (1, 0) := ⟨_, rfl, by kernel_rfl⟩
theorem by1 : ∃ i, Try.prog.info? 1 = some i ∧ (i.size, i.bytes) = (1, 8) := ⟨_, rfl, by kernel_rfl⟩
theorem by2 : ∃ i, Try.prog.info? 2 = some i ∧ (i.size, i.bytes) = (1, 8) := ⟨_, rfl, by kernel_rfl⟩
theorem by3 : ∃ i, Try.prog.info? 3 = some i ∧ (i.size, i.bytes) = (1, 8) := ⟨_, rfl, by kernel_rfl⟩
theorem by4 : ∃ i, Try.prog.info? 4 = some i ∧ (i.size, i.bytes) = (1, 1) := ⟨_, rfl, by kernel_rfl⟩
theorem by5 : ∃ i, Try.prog.info? 5 = some i ∧ (i.size, i.bytes) = (1, 1) := ⟨_, rfl, by kernel_rfl⟩
theorem by6 : ∃ i, Try.prog.info? 6 = some i ∧ (i.size, i.bytes) = (1, 1) := ⟨_, rfl, by kernel_rfl⟩
theorem by7 : ∃ i, Try.prog.info? 7 = some i ∧ (i.size, i.bytes) = (4, 24) := ⟨_, rfl, by kernel_rfl⟩
theorem by8 : ∃ i, Try.prog.info? 8 = some i ∧ (i.size, i.bytes) = (4, 24) := ⟨_, rfl, by kernel_rfl⟩
theorem by9 : ∃ i, Try.prog.info? 9 = some i ∧ (i.size, i.bytes) = (1, 16) := ⟨_, rfl, by kernel_rfl⟩
theorem by10 : ∃ i, Try.prog.info? 10 = some i ∧ (i.size, i.bytes) = (1, 16) := ⟨_, rfl, by kernel_rfl⟩
theorem by11 : ∃ i, Try.prog.info? 11 = some i ∧ (i.size, i.bytes) = (1, 16) := ⟨_, rfl, by kernel_rfl⟩
theorem by12 : ∃ i, Try.prog.info? 12 = some i ∧ (i.size, i.bytes) = (1, 8) := ⟨_, rfl, by kernel_rfl⟩
theorem by13 : ∃ i, Try.prog.info? 13 = some i ∧ (i.size, i.bytes) = (2, 24) := ⟨_, rfl, by kernel_rfl⟩
theorem by14 : ∃ i, Try.prog.info? 14 = some i ∧ (i.size, i.bytes) = (2, 24) := ⟨_, rfl, by kernel_rfl⟩
theorem by15 : ∃ i, Try.prog.info? 15 = some i ∧ (i.size, i.bytes) = (1, 8) := ⟨_, rfl, by kernel_rfl⟩
theorem by16 : ∃ i, Try.prog.info? 16 = some i ∧ (i.size, i.bytes) = (1, 8) := ⟨_, rfl, by kernel_rfl⟩
theorem by17 : ∃ i, Try.prog.info? 17 = some i ∧ (i.size, i.bytes) = (1, 8) := ⟨_, rfl, by kernel_rfl⟩
theorem by18 : ∃ i, Try.prog.info? 18 = some i ∧ (i.size, i.bytes) = (1, 8) := ⟨_, rfl, by kernel_rfl⟩
theorem by19 : ∃ i, Try.prog.info? 19 = some i ∧ (i.size, i.bytes) = (1, 8) := ⟨_, rfl, by kernel_rfl⟩
theorem by20 : ∃ i, Try.prog.info? 20 = some i ∧ (i.size, i.bytes) = (1, 16) := ⟨_, rfl, by kernel_rfl⟩
theorem by21 : ∃ i, Try.prog.info? 21 = some i ∧ (i.size, i.bytes) = (1, 4) := ⟨_, rfl, by kernel_rfl⟩
theorem by22 : ∃ i, Try.prog.info? 22 = some i ∧ (i.size, i.bytes) = (1, 8) := ⟨_, rfl, by kernel_rfl⟩
theorem by23 : ∃ i, Try.prog.info? 23 = some i ∧ (i.size, i.bytes) = (1, 8) := ⟨_, rfl, by kernel_rfl⟩
theorem by24 : ∃ i, Try.prog.info? 24 = some i ∧ (i.size, i.bytes) = (1, 8) := ⟨_, rfl, by kernel_rfl⟩
theorem by25 : ∃ i, Try.prog.info? 25 = some i ∧ (i.size, i.bytes) = (1, 8) := ⟨_, rfl, by kernel_rfl⟩
theorem by26 : ∃ i, Try.prog.info? 26 = some i ∧ (i.size, i.bytes) = (1, 24) := ⟨_, rfl, by kernel_rfl⟩
theorem by27 : ∃ i, Try.prog.info? 27 = some i ∧ (i.size, i.bytes) = (1, 8) := ⟨_, rfl, by kernel_rfl⟩
theorem by28 : ∃ i, Try.prog.info? 28 = some i ∧ (i.size, i.bytes) = (1, 24) := ⟨_, rfl, by kernel_rfl⟩
theorem by29 : ∃ i, Try.prog.info? 29 = some i ∧ (i.size, i.bytes) = (1, 24) := ⟨_, rfl, by kernel_rfl⟩
theorem by30 : ∃ i, Try.prog.info? 30 = some i ∧ (i.size, i.bytes) = (3, 72) := ⟨_, rfl, by kernel_rfl⟩
theorem by31 : ∃ i, Try.prog.info? 31 = some i ∧ (i.size, i.bytes) = (3, 72) := ⟨_, rfl, by kernel_rfl⟩
theorem by32 : ∃ i, Try.prog.info? 32 = some i ∧ (i.size, i.bytes) = (1, 8) := ⟨_, rfl, by kernel_rfl⟩
theorem by33 : ∃ i, Try.prog.info? 33 = some i ∧ (i.size, i.bytes) = (1, 0) := ⟨_, rfl, by kernel_rfl⟩
theorem by34 : ∃ i, Try.prog.info? 34 = some i ∧ (i.size, i.bytes) = (1, 8) := ⟨_, rfl, by kernel_rfl⟩
theorem by35 : ∃ i, Try.prog.info? 35 = some i ∧ (i.size, i.bytes) = (1, 8) := ⟨_, rfl, by kernel_rfl⟩
theorem by36 : ∃ i, Try.prog.info? 36 = some i ∧ (i.size, i.bytes) = (1, 8) := ⟨_, rfl, by kernel_rfl⟩
theorem by37 : ∃ i, Try.prog.info? 37 = some i ∧ (i.size, i.bytes) = (1, 0) := ⟨_, rfl, by kernel_rfl⟩
theorem by38 : ∃ i, Try.prog.info? 38 = some i ∧ (i.size, i.bytes) = (1, 8) := ⟨_, rfl, by kernel_rfl⟩
theorem by39 : ∃ i, Try.prog.info? 39 = some i ∧ (i.size, i.bytes) = (1, 8) := ⟨_, rfl, by kernel_rfl⟩
theorem by40 : ∃ i, Try.prog.info? 40 = some i ∧ (i.size, i.bytes) = (1, 8) := ⟨_, rfl, by kernel_rfl⟩
theorem by41 : ∃ i, Try.prog.info? 41 = some i ∧ (i.size, i.bytes) = (1, 8) := ⟨_, rfl, by kernel_rfl⟩
theorem by42 : ∃ i, Try.prog.info? 42 = some i ∧ (i.size, i.bytes) = (1, 8) := ⟨_, rfl, by kernel_rfl⟩
theorem by43 : ∃ i, Try.prog.info? 43 = some i ∧ (i.size, i.bytes) = (1, 8) := ⟨_, rfl, by kernel_rfl⟩
theorem by44 : ∃ i, Try.prog.info? 44 = some i ∧ (i.size, i.bytes) = (1, 8) := ⟨_, rfl, by kernel_rfl⟩
theorem by45 : ∃ i, Try.prog.info? 45 = some i ∧ (i.size, i.bytes) = (1, 0) := ⟨_, rfl, by kernel_rfl⟩
theorem by46 : ∃ i, Try.prog.info? 46 = some i ∧ (i.size, i.bytes) = (1, 8) := ⟨_, rfl, by kernel_rfl⟩
theorem by47 : ∃ i, Try.prog.info? 47 = some i ∧ (i.size, i.bytes) = (1, 8) := ⟨_, rfl, by kernel_rfl⟩
theorem by48 : ∃ i, Try.prog.info? 48 = some i ∧ (i.size, i.bytes) = (1, 24) := ⟨_, rfl, by kernel_rfl⟩
theorem by49 : ∃ i, Try.prog.info? 49 = some i ∧ (i.size, i.bytes) = (1, 8) := ⟨_, rfl, by kernel_rfl⟩
theorem by50 : ∃ i, Try.prog.info? 50 = some i ∧ (i.size, i.bytes) = (1, 8) := ⟨_, rfl, by kernel_rfl⟩
theorem by51 : ∃ i, Try.prog.info? 51 = some i ∧ (i.size, i.bytes) = (8, 120) := ⟨_, rfl, by kernel_rfl⟩
theorem by52 : ∃ i, Try.prog.info? 52 = some i ∧ (i.size, i.bytes) = (8, 120) := ⟨_, rfl, by kernel_rfl⟩
theorem by53 : ∃ i, Try.prog.info? 53 = some i ∧ (i.size, i.bytes) = (1, 8) := ⟨_, rfl, by kernel_rfl⟩
theorem by54 : ∃ i, Try.prog.info? 54 = some i ∧ (i.size, i.bytes) = (1, 8) := ⟨_, rfl, by kernel_rfl⟩
theorem by55 : ∃ i, Try.prog.info? 55 = some i ∧ (i.size, i.bytes) = (1, 8) := ⟨_, rfl, by kernel_rfl⟩
theorem by56 : ∃ i, Try.prog.info? 56 = some i ∧ (i.size, i.bytes) = (1, 0) := ⟨_, rfl, by kernel_rfl⟩
theorem by57 : ∃ i, Try.prog.info? 57 = some i ∧ (i.size, i.bytes) = (1, 8) := ⟨_, rfl, by kernel_rfl⟩
theorem by58 : ∃ i, Try.prog.info? 58 = some i ∧ (i.size, i.bytes) = (1, 8) := ⟨_, rfl, by kernel_rfl⟩
theorem by59 : ∃ i, Try.prog.info? 59 = some i ∧ (i.size, i.bytes) = (1, 8) := ⟨_, rfl, by kernel_rfl⟩
theorem by60 : ∃ i, Try.prog.info? 60 = some i ∧ (i.size, i.bytes) = (2, 32) := ⟨_, rfl, by kernel_rfl⟩
theorem by61 : ∃ i, Try.prog.info? 61 = some i ∧ (i.size, i.bytes) = (2, 32) := ⟨_, rfl, by kernel_rfl⟩
theorem by62 : ∃ i, Try.prog.info? 62 = some i ∧ (i.size, i.bytes) = (1, 24) := ⟨_, rfl, by kernel_rfl⟩
theorem by63 : ∃ i, Try.prog.info? 63 = some i ∧ (i.size, i.bytes) = (1, 8) := ⟨_, rfl, by kernel_rfl⟩
theorem by64 : ∃ i, Try.prog.info? 64 = some i ∧ (i.size, i.bytes) = (1, 8) := ⟨_, rfl, by kernel_rfl⟩
theorem by65 : ∃ i, Try.prog.info? 65 = some i ∧ (i.size, i.bytes) = (1, 8) := ⟨_, rfl, by kernel_rfl⟩
theorem by66 : ∃ i, Try.prog.info? 66 = some i ∧ (i.size, i.bytes) = (1, 8) := ⟨_, rfl, by kernel_rfl⟩
theorem by67 : ∃ i, Try.prog.info? 67 = some i ∧ (i.size, i.bytes) = (1, 8) := ⟨_, rfl, by kernel_rfl⟩
theorem by68 : ∃ i, Try.prog.info? 68 = some i ∧ (i.size, i.bytes) = (4, 40) := ⟨_, rfl, by kernel_rfl⟩
theorem by69 : ∃ i, Try.prog.info? 69 = some i ∧ (i.size, i.bytes) = (4, 40) := ⟨_, rfl, by kernel_rfl⟩
theorem by70 : ∃ i, Try.prog.info? 70 = some i ∧ (i.size, i.bytes) = (0, 0) := ⟨_, rfl, by kernel_rfl⟩
theorem by71 : ∃ i, Try.prog.info? 71 = some i ∧ (i.size, i.bytes) = (0, 0) := ⟨_, rfl, by kernel_rfl⟩
theorem by72 : ∃ i, Try.prog.info? 72 = some i ∧ (i.size, i.bytes) = (0, 0) := ⟨_, rfl, by kernel_rfl⟩
theorem by73 : ∃ i, Try.prog.info? 73 = some i ∧ (i.size, i.bytes) = (1, 8) := ⟨_, rfl, by kernel_rfl⟩
theorem by74 : ∃ i, Try.prog.info? 74 = some i ∧ (i.size, i.bytes) = (1, 4) := ⟨_, rfl, by kernel_rfl⟩
theorem by75 : ∃ i, Try.prog.info? 75 = some i ∧ (i.size, i.bytes) = (1, 1) := ⟨_, rfl, by kernel_rfl⟩
theorem by76 : ∃ i, Try.prog.info? 76 = some i ∧ (i.size, i.bytes) = (1, 1) := ⟨_, rfl, by kernel_rfl⟩
theorem by77 : ∃ i, Try.prog.info? 77 = some i ∧ (i.size, i.bytes) = (1, 8) := ⟨_, rfl, by kernel_rfl⟩
theorem by78 : ∃ i, Try.prog.info? 78 = some i ∧ (i.size, i.bytes) = (1, 8) := ⟨_, rfl, by kernel_rfl⟩
theorem by79 : ∃ i, Try.prog.info? 79 = some i ∧ (i.size, i.bytes) = (1, 4) := ⟨_, rfl, by kernel_rfl⟩
theorem by80 : ∃ i, Try.prog.info? 80 = some i ∧ (i.size, i.bytes) = (1, 4) := ⟨_, rfl, by kernel_rfl⟩
theorem by81 : ∃ i, Try.prog.info? 81 = some i ∧ (i.size, i.bytes) = (11, 48) := ⟨_, rfl, by kernel_rfl⟩
theorem by82 : ∃ i, Try.prog.info? 82 = some i ∧ (i.size, i.bytes) = (11, 48) := ⟨_, rfl, by kernel_rfl⟩
theorem by83 : ∃ i, Try.prog.info? 83 = some i ∧ (i.size, i.bytes) = (1, 8) := ⟨_, rfl, by kernel_rfl⟩
@[go_sem] theorem hb2 : hasBody Try.prog 2 = true := by kernel_rfl
@[go_sem] theorem hb3 : hasBody Try.prog 3 = true := by kernel_rfl
@[go_sem] theorem hb4 : hasBody Try.prog 4 = true := by kernel_rfl
@[go_sem] theorem hb5 : hasBody Try.prog 5 = true := by kernel_rfl
@[go_sem] theorem hb6 : hasBody Try.prog 6 = true := by kernel_rfl
@[go_sem] theorem hb7 : hasBody Try.prog 7 = true := by kernel_rfl
@[go_sem] theorem hb8 : hasBody Try.prog 8 = true := by kernel_rfl
@[go_sem] theorem hb9 : hasBody Try.prog 9 = true := by kernel_rfl
@[go_sem] theorem hb10 : hasBody Try.prog 10 = true := by kernel_rfl
@[go_sem] theorem hb11 : hasBody Try.prog 11 = true := by kernel_rfl
@[go_sem] theorem hb12 : hasBody Try.prog 12 = true := by kernel_rfl
@[go_sem] theorem hb13 : hasBody Try.prog 13 = true := by kernel_rfl
@[go_sem] theorem hb14 : hasBody Try.prog 14 = true := by kernel_rfl
@[go_sem] theorem hb15 : hasBody Try.prog 15 = true := by kernel_rfl
@[go_sem] theorem hb16 : hasBody Try.prog 16 = true := by kernel_rfl
@[go_sem] theorem hb17 : hasBody Try.prog 17 = true := by kernel_rfl
@[go_sem] theorem hb18 : hasBody Try.prog 18 = true := by kernel_rfl
@[go_sem] theorem hb19 : hasBody Try.prog 19 = true := by kernel_rfl
@[go_sem] theorem hb20 : hasBody Try.prog 20 = true := by kernel_rfl
@[go_sem] theorem hb21 : hasBody Try.prog 21 = true := by kernel_rfl
@[go_sem] theorem hb22 : hasBody Try.prog 22 = true := by kernel_rfl
@[go_sem] theorem hb23 : hasBody Try.prog 23 = true := by kernel_rfl
@[go_sem] theorem hb24 : hasBody Try.prog 24 = true := by kernel_rfl
@[go_sem] theorem hb25 : hasBody Try.prog 25 = true := by kernel_rfl
@[go_sem] theorem hb26 : hasBody Try.prog 26 = true := by kernel_rfl
@[go_sem] theorem hb27 : hasBody Try.prog 27 = true := by kernel_rfl
@[go_sem] theorem hb28 : hasBody Try.prog 28 = true := by kernel_rfl
@[go_sem] theorem hb29 : hasBody Try.prog 29 = true := by kernel_rfl
@[go_sem] theorem hb30 : hasBody Try.prog 30 = true := by kernel_rfl
@[go_sem] theorem hb31 : hasBody Try.prog 31 = true := by kernel_rfl
@[go_sem] theorem hb32 : hasBody Try.prog 32 = true := by kernel_rfl
@[go_sem] theorem hb33 : hasBody Try.prog 33 = true := by kernel_rfl
@[go_sem] theorem hb34 : hasBody Try.prog 34 = true := by kernel_rfl
@[go_sem] theorem hb35 : hasBody Try.prog 35 = true := by kernel_rfl
@[go_sem] theorem hb36 : hasBody Try.prog 36 = true := by kernel_rfl
@[go_sem] theorem hb37 : hasBody Try.prog 37 = true := by kernel_rfl
@[go_sem] theorem hb38 : hasBody Try.prog 38 = true := by kernel_rfl
@[go_sem] theorem hb39 : hasBody Try.prog 39 = true := by kernel_rfl
@[go_sem] theorem hb40 : hasBody Try.prog 40 = true := by kernel_rfl
@[go_sem] theorem hb41 : hasBody Try.prog 41 = true := by kernel_rfl
@[go_sem] theorem hb42 : hasBody Try.prog 42 = true := by kernel_rfl
@[go_sem] theorem hb43 : hasBody Try.prog 43 = true := by kernel_rfl
@[go_sem] theorem hb44 : hasBody Try.prog 44 = true := by kernel_rfl
@[go_sem] theorem hb45 : hasBody Try.prog 45 = true := by kernel_rfl
@[go_sem] theorem hb46 : hasBody Try.prog 46 = true := by kernel_rfl
@[go_sem] theorem hb47 : hasBody Try.prog 47 = true := by kernel_rfl
@[go_sem] theorem hb48 : hasBody Try.prog 48 = true := by kernel_rfl
@[go_sem] theorem hb49 : hasBody Try.prog 49 = true := by kernel_rfl
@[go_sem] theorem hb50 : hasBody Try.prog 50 = true := by kernel_rfl
@[go_sem] theorem hb51 : hasBody Try.prog 51 = true := by kernel_rfl
@[go_sem] theorem hb52 : hasBody Try.prog 52 = true := by kernel_rfl
@[go_sem] theorem hb53 : hasBody Try.prog 53 = true := by kernel_rfl
variable {H : Heap} {b o n c : Nat} {v : Value} {a : Option Addr} {s : ByteArray} {i : Int}
@[go_sem] theorem ld0 : loadA Try.prog 0 (.pointer (some ⟨b, o, none⟩)) H = rd1 (H.get b) o := load_one ag0
@[go_sem] theorem st0 (hc : oneV v) : storeA Try.prog 0 (.pointer (some ⟨b, o, none⟩)) v H = wr1 H (H.get b) b o v := store_one sz0 hc
@[go_sem] theorem ld1 : loadA Try.prog 1 (.pointer (some ⟨b, o, none⟩)) H = rd1 (H.get b) o := load_one ag1
@[go_sem] theorem st1 (hc : oneV v) : storeA Try.prog 1 (.pointer (some ⟨b, o, none⟩)) v H = wr1 H (H.get b) b o v := store_one sz1 hc
@[go_sem] theorem ld2 : loadA Try.prog 2 (.pointer (some ⟨b, o, none⟩)) H = rd1 (H.get b) o := load_one ag2
@[go_sem] theorem st2 (hc : oneV v) : storeA Try.prog 2 (.pointer (some ⟨b, o, none⟩)) v H = wr1 H (H.get b) b o v := store_one sz2 hc
@[go_sem] theorem ld3 : loadA Try.prog 3 (.pointer (some ⟨b, o, none⟩)) H = rd1 (H.get b) o := load_one ag3
@[go_sem] theorem st3 (hc : oneV v) : storeA Try.prog 3 (.pointer (some ⟨b, o, none⟩)) v H = wr1 H (H.get b) b o v := store_one sz3 hc
@[go_sem] theorem ld4 : loadA Try.prog 4 (.pointer (some ⟨b, o, none⟩)) H = rd1 (H.get b) o := load_one ag4
@[go_sem] theorem st4 (hc : oneV v) : storeA Try.prog 4 (.pointer (some ⟨b, o, none⟩)) v H = wr1 H (H.get b) b o v := store_one sz4 hc
@[go_sem] theorem ld5 : loadA Try.prog 5 (.pointer (some ⟨b, o, none⟩)) H = rd1 (H.get b) o := load_one ag5
@[go_sem] theorem st5 (hc : oneV v) : storeA Try.prog 5 (.pointer (some ⟨b, o, none⟩)) v H = wr1 H (H.get b) b o v := store_one sz5 hc
@[go_sem] theorem ld6 : loadA Try.prog 6 (.pointer (some ⟨b, o, none⟩)) H = rd1 (H.get b) o := load_one ag6
@[go_sem] theorem st6 (hc : oneV v) : storeA Try.prog 6 (.pointer (some ⟨b, o, none⟩)) v H = wr1 H (H.get b) b o v := store_one sz6 hc
@[go_sem] theorem ld7 : loadA Try.prog 7 (.pointer (some ⟨b, o, none⟩)) H = rdN (H.get b) o 4 := load_many ag7 sz7
@[go_sem] theorem st7 {vs : List Value} (hl : vs.length = 4) : storeA Try.prog 7 (.pointer (some ⟨b, o, none⟩)) (.agg vs.toArray) H = wrN H (H.get b) b o vs := store_many sz7 hl
@[go_sem] theorem bd7 {parts : List (Nat × Value)} : buildA Try.prog 7 parts = (fillA (fun i => ([(0, 1), (1, 1), (2, 1), (3, 1)] : List (Nat × Nat))[i]?) [Value.int IntKind.i64 0, Value.int IntKind.i64 0, Value.bool false, Value.int IntKind.u8 0] parts).map fun l => .agg l.toArray := build_struct zr7 (by kernel_rfl)
@[go_sem] theorem fo7_0 : fieldAddrA Try.prog 7 (.pointer (some ⟨b, o, none⟩)) 0 = some (.pointer (some ⟨b, o + 0, none⟩)) := by
  have h := (by kernel_rfl : (match Try.prog.underlying 7 with | some (.struct fs) => (fs[0]?).bind fun f => (sizeAt Try.prog f.type).map fun n => (f.offset, n) | _ => none) = some (0, 1))
  exact field_addr h rfl
@[go_sem] theorem fd7_0 {cs : List Value} : fieldA Try.prog 7 (.agg cs.toArray) 0 = cs[0]? := by
  have h := (by kernel_rfl : (match Try.prog.underlying 7 with | some (.struct fs) => (fs[0]?).map fun f => (f.offset, f.type) | _ => none) = some (0, 2))
  exact field_one h ag2 (by kernel_rfl)
@[go_sem] theorem fo7_1 : fieldAddrA Try.prog 7 (.pointer (some ⟨b, o, none⟩)) 1 = some (.pointer (some ⟨b, o + 1, none⟩)) := by
  have h := (by kernel_rfl : (match Try.prog.underlying 7 with | some (.struct fs) => (fs[1]?).bind fun f => (sizeAt Try.prog f.type).map fun n => (f.offset, n) | _ => none) = some (1, 1))
  exact field_addr h rfl
@[go_sem] theorem fd7_1 {cs : List Value} : fieldA Try.prog 7 (.agg cs.toArray) 1 = cs[1]? := by
  have h := (by kernel_rfl : (match Try.prog.underlying 7 with | some (.struct fs) => (fs[1]?).map fun f => (f.offset, f.type) | _ => none) = some (1, 3))
  exact field_one h ag3 (by kernel_rfl)
@[go_sem] theorem fo7_2 : fieldAddrA Try.prog 7 (.pointer (some ⟨b, o, none⟩)) 2 = some (.pointer (some ⟨b, o + 2, none⟩)) := by
  have h := (by kernel_rfl : (match Try.prog.underlying 7 with | some (.struct fs) => (fs[2]?).bind fun f => (sizeAt Try.prog f.type).map fun n => (f.offset, n) | _ => none) = some (2, 1))
  exact field_addr h rfl
@[go_sem] theorem fd7_2 {cs : List Value} : fieldA Try.prog 7 (.agg cs.toArray) 2 = cs[2]? := by
  have h := (by kernel_rfl : (match Try.prog.underlying 7 with | some (.struct fs) => (fs[2]?).map fun f => (f.offset, f.type) | _ => none) = some (2, 4))
  exact field_one h ag4 (by kernel_rfl)
@[go_sem] theorem fo7_3 : fieldAddrA Try.prog 7 (.pointer (some ⟨b, o, none⟩)) 3 = some (.pointer (some ⟨b, o + 3, none⟩)) := by
  have h := (by kernel_rfl : (match Try.prog.underlying 7 with | some (.struct fs) => (fs[3]?).bind fun f => (sizeAt Try.prog f.type).map fun n => (f.offset, n) | _ => none) = some (3, 1))
  exact field_addr h rfl
@[go_sem] theorem fd7_3 {cs : List Value} : fieldA Try.prog 7 (.agg cs.toArray) 3 = cs[3]? := by
  have h := (by kernel_rfl : (match Try.prog.underlying 7 with | some (.struct fs) => (fs[3]?).map fun f => (f.offset, f.type) | _ => none) = some (3, 6))
  exact field_one h ag6 (by kernel_rfl)
@[go_sem] theorem ld8 : loadA Try.prog 8 (.pointer (some ⟨b, o, none⟩)) H = rdN (H.get b) o 4 := load_many ag8 sz8
@[go_sem] theorem st8 {vs : List Value} (hl : vs.length = 4) : storeA Try.prog 8 (.pointer (some ⟨b, o, none⟩)) (.agg vs.toArray) H = wrN H (H.get b) b o vs := store_many sz8 hl
@[go_sem] theorem bd8 {parts : List (Nat × Value)} : buildA Try.prog 8 parts = (fillA (fun i => ([(0, 1), (1, 1), (2, 1), (3, 1)] : List (Nat × Nat))[i]?) [Value.int IntKind.i64 0, Value.int IntKind.i64 0, Value.bool false, Value.int IntKind.u8 0] parts).map fun l => .agg l.toArray := build_struct zr8 (by kernel_rfl)
@[go_sem] theorem fo8_0 : fieldAddrA Try.prog 8 (.pointer (some ⟨b, o, none⟩)) 0 = some (.pointer (some ⟨b, o + 0, none⟩)) := by
  have h := (by kernel_rfl : (match Try.prog.underlying 8 with | some (.struct fs) => (fs[0]?).bind fun f => (sizeAt Try.prog f.type).map fun n => (f.offset, n) | _ => none) = some (0, 1))
  exact field_addr h rfl
@[go_sem] theorem fd8_0 {cs : List Value} : fieldA Try.prog 8 (.agg cs.toArray) 0 = cs[0]? := by
  have h := (by kernel_rfl : (match Try.prog.underlying 8 with | some (.struct fs) => (fs[0]?).map fun f => (f.offset, f.type) | _ => none) = some (0, 2))
  exact field_one h ag2 (by kernel_rfl)
@[go_sem] theorem fo8_1 : fieldAddrA Try.prog 8 (.pointer (some ⟨b, o, none⟩)) 1 = some (.pointer (some ⟨b, o + 1, none⟩)) := by
  have h := (by kernel_rfl : (match Try.prog.underlying 8 with | some (.struct fs) => (fs[1]?).bind fun f => (sizeAt Try.prog f.type).map fun n => (f.offset, n) | _ => none) = some (1, 1))
  exact field_addr h rfl
@[go_sem] theorem fd8_1 {cs : List Value} : fieldA Try.prog 8 (.agg cs.toArray) 1 = cs[1]? := by
  have h := (by kernel_rfl : (match Try.prog.underlying 8 with | some (.struct fs) => (fs[1]?).map fun f => (f.offset, f.type) | _ => none) = some (1, 3))
  exact field_one h ag3 (by kernel_rfl)
@[go_sem] theorem fo8_2 : fieldAddrA Try.prog 8 (.pointer (some ⟨b, o, none⟩)) 2 = some (.pointer (some ⟨b, o + 2, none⟩)) := by
  have h := (by kernel_rfl : (match Try.prog.underlying 8 with | some (.struct fs) => (fs[2]?).bind fun f => (sizeAt Try.prog f.type).map fun n => (f.offset, n) | _ => none) = some (2, 1))
  exact field_addr h rfl
@[go_sem] theorem fd8_2 {cs : List Value} : fieldA Try.prog 8 (.agg cs.toArray) 2 = cs[2]? := by
  have h := (by kernel_rfl : (match Try.prog.underlying 8 with | some (.struct fs) => (fs[2]?).map fun f => (f.offset, f.type) | _ => none) = some (2, 4))
  exact field_one h ag4 (by kernel_rfl)
@[go_sem] theorem fo8_3 : fieldAddrA Try.prog 8 (.pointer (some ⟨b, o, none⟩)) 3 = some (.pointer (some ⟨b, o + 3, none⟩)) := by
  have h := (by kernel_rfl : (match Try.prog.underlying 8 with | some (.struct fs) => (fs[3]?).bind fun f => (sizeAt Try.prog f.type).map fun n => (f.offset, n) | _ => none) = some (3, 1))
  exact field_addr h rfl
@[go_sem] theorem fd8_3 {cs : List Value} : fieldA Try.prog 8 (.agg cs.toArray) 3 = cs[3]? := by
  have h := (by kernel_rfl : (match Try.prog.underlying 8 with | some (.struct fs) => (fs[3]?).map fun f => (f.offset, f.type) | _ => none) = some (3, 6))
  exact field_one h ag6 (by kernel_rfl)
@[go_sem] theorem ld9 : loadA Try.prog 9 (.pointer (some ⟨b, o, none⟩)) H = rd1 (H.get b) o := load_one ag9
@[go_sem] theorem st9 (hc : oneV v) : storeA Try.prog 9 (.pointer (some ⟨b, o, none⟩)) v H = wr1 H (H.get b) b o v := store_one sz9 hc
@[go_sem] theorem ln9 : lenA Try.prog #[9] (.string s) H = some (.int .i64 s.size) := len_str Try.underlying9
@[go_sem] theorem ld10 : loadA Try.prog 10 (.pointer (some ⟨b, o, none⟩)) H = rd1 (H.get b) o := load_one ag10
@[go_sem] theorem st10 (hc : oneV v) : storeA Try.prog 10 (.pointer (some ⟨b, o, none⟩)) v H = wr1 H (H.get b) b o v := store_one sz10 hc
@[go_sem] theorem ln10 : lenA Try.prog #[10] (.string s) H = some (.int .i64 s.size) := len_str Try.underlying10
@[go_sem] theorem ld11 : loadA Try.prog 11 (.pointer (some ⟨b, o, none⟩)) H = rd1 (H.get b) o := load_one ag11
@[go_sem] theorem st11 (hc : oneV v) : storeA Try.prog 11 (.pointer (some ⟨b, o, none⟩)) v H = wr1 H (H.get b) b o v := store_one sz11 hc
@[go_sem] theorem ln11 : lenA Try.prog #[11] (.string s) H = some (.int .i64 s.size) := len_str Try.underlying11
@[go_sem] theorem ld12 : loadA Try.prog 12 (.pointer (some ⟨b, o, none⟩)) H = rd1 (H.get b) o := load_one ag12
@[go_sem] theorem st12 (hc : oneV v) : storeA Try.prog 12 (.pointer (some ⟨b, o, none⟩)) v H = wr1 H (H.get b) b o v := store_one sz12 hc
@[go_sem] theorem ld13 : loadA Try.prog 13 (.pointer (some ⟨b, o, none⟩)) H = rdN (H.get b) o 2 := load_many ag13 sz13
@[go_sem] theorem st13 {vs : List Value} (hl : vs.length = 2) : storeA Try.prog 13 (.pointer (some ⟨b, o, none⟩)) (.agg vs.toArray) H = wrN H (H.get b) b o vs := store_many sz13 hl
@[go_sem] theorem bd13 {parts : List (Nat × Value)} : buildA Try.prog 13 parts = (fillA (fun i => ([(0, 1), (1, 1)] : List (Nat × Nat))[i]?) [Value.string ⟨#[]⟩, Value.int IntKind.u64 0] parts).map fun l => .agg l.toArray := build_struct zr13 (by kernel_rfl)
@[go_sem] theorem fo13_0 : fieldAddrA Try.prog 13 (.pointer (some ⟨b, o, none⟩)) 0 = some (.pointer (some ⟨b, o + 0, none⟩)) := by
  have h := (by kernel_rfl : (match Try.prog.underlying 13 with | some (.struct fs) => (fs[0]?).bind fun f => (sizeAt Try.prog f.type).map fun n => (f.offset, n) | _ => none) = some (0, 1))
  exact field_addr h rfl
@[go_sem] theorem fd13_0 {cs : List Value} : fieldA Try.prog 13 (.agg cs.toArray) 0 = cs[0]? := by
  have h := (by kernel_rfl : (match Try.prog.underlying 13 with | some (.struct fs) => (fs[0]?).map fun f => (f.offset, f.type) | _ => none) = some (0, 9))
  exact field_one h ag9 (by kernel_rfl)
@[go_sem] theorem fo13_1 : fieldAddrA Try.prog 13 (.pointer (some ⟨b, o, none⟩)) 1 = some (.pointer (some ⟨b, o + 1, none⟩)) := by
  have h := (by kernel_rfl : (match Try.prog.underlying 13 with | some (.struct fs) => (fs[1]?).bind fun f => (sizeAt Try.prog f.type).map fun n => (f.offset, n) | _ => none) = some (1, 1))
  exact field_addr h rfl
@[go_sem] theorem fd13_1 {cs : List Value} : fieldA Try.prog 13 (.agg cs.toArray) 1 = cs[1]? := by
  have h := (by kernel_rfl : (match Try.prog.underlying 13 with | some (.struct fs) => (fs[1]?).map fun f => (f.offset, f.type) | _ => none) = some (1, 12))
  exact field_one h ag12 (by kernel_rfl)
@[go_sem] theorem ld14 : loadA Try.prog 14 (.pointer (some ⟨b, o, none⟩)) H = rdN (H.get b) o 2 := load_many ag14 sz14
@[go_sem] theorem st14 {vs : List Value} (hl : vs.length = 2) : storeA Try.prog 14 (.pointer (some ⟨b, o, none⟩)) (.agg vs.toArray) H = wrN H (H.get b) b o vs := store_many sz14 hl
@[go_sem] theorem bd14 {parts : List (Nat × Value)} : buildA Try.prog 14 parts = (fillA (fun i => ([(0, 1), (1, 1)] : List (Nat × Nat))[i]?) [Value.string ⟨#[]⟩, Value.int IntKind.u64 0] parts).map fun l => .agg l.toArray := build_struct zr14 (by kernel_rfl)
@[go_sem] theorem fo14_0 : fieldAddrA Try.prog 14 (.pointer (some ⟨b, o, none⟩)) 0 = some (.pointer (some ⟨b, o + 0, none⟩)) := by
  have h := (by kernel_rfl : (match Try.prog.underlying 14 with | some (.struct fs) => (fs[0]?).bind fun f => (sizeAt Try.prog f.type).map fun n => (f.offset, n) | _ => none) = some (0, 1))
  exact field_addr h rfl
@[go_sem] theorem fd14_0 {cs : List Value} : fieldA Try.prog 14 (.agg cs.toArray) 0 = cs[0]? := by
  have h := (by kernel_rfl : (match Try.prog.underlying 14 with | some (.struct fs) => (fs[0]?).map fun f => (f.offset, f.type) | _ => none) = some (0, 9))
  exact field_one h ag9 (by kernel_rfl)
@[go_sem] theorem fo14_1 : fieldAddrA Try.prog 14 (.pointer (some ⟨b, o, none⟩)) 1 = some (.pointer (some ⟨b, o + 1, none⟩)) := by
  have h := (by kernel_rfl : (match Try.prog.underlying 14 with | some (.struct fs) => (fs[1]?).bind fun f => (sizeAt Try.prog f.type).map fun n => (f.offset, n) | _ => none) = some (1, 1))
  exact field_addr h rfl
@[go_sem] theorem fd14_1 {cs : List Value} : fieldA Try.prog 14 (.agg cs.toArray) 1 = cs[1]? := by
  have h := (by kernel_rfl : (match Try.prog.underlying 14 with | some (.struct fs) => (fs[1]?).map fun f => (f.offset, f.type) | _ => none) = some (1, 12))
  exact field_one h ag12 (by kernel_rfl)
@[go_sem] theorem ld15 : loadA Try.prog 15 (.pointer (some ⟨b, o, none⟩)) H = rd1 (H.get b) o := load_one ag15
@[go_sem] theorem st15 (hc : oneV v) : storeA Try.prog 15 (.pointer (some ⟨b, o, none⟩)) v H = wr1 H (H.get b) b o v := store_one sz15 hc
@[go_sem] theorem ld16 : loadA Try.prog 16 (.pointer (some ⟨b, o, none⟩)) H = rd1 (H.get b) o := load_one ag16
@[go_sem] theorem st16 (hc : oneV v) : storeA Try.prog 16 (.pointer (some ⟨b, o, none⟩)) v H = wr1 H (H.get b) b o v := store_one sz16 hc
@[go_sem] theorem ld17 : loadA Try.prog 17 (.pointer (some ⟨b, o, none⟩)) H = rd1 (H.get b) o := load_one ag17
@[go_sem] theorem st17 (hc : oneV v) : storeA Try.prog 17 (.pointer (some ⟨b, o, none⟩)) v H = wr1 H (H.get b) b o v := store_one sz17 hc
@[go_sem] theorem ld18 : loadA Try.prog 18 (.pointer (some ⟨b, o, none⟩)) H = rdN (H.get b) o 1 := load_many ag18 sz18
@[go_sem] theorem st18 {vs : List Value} (hl : vs.length = 1) : storeA Try.prog 18 (.pointer (some ⟨b, o, none⟩)) (.agg vs.toArray) H = wrN H (H.get b) b o vs := store_many sz18 hl
@[go_sem] theorem bd18 {parts : List (Nat × Value)} : buildA Try.prog 18 parts = (fillA (fun i => ([(0, 1)] : List (Nat × Nat))[i]?) [Value.pointer none] parts).map fun l => .agg l.toArray := build_struct zr18 (by kernel_rfl)
@[go_sem] theorem fo18_0 : fieldAddrA Try.prog 18 (.pointer (some ⟨b, o, none⟩)) 0 = some (.pointer (some ⟨b, o + 0, none⟩)) := by
  have h := (by kernel_rfl : (match Try.prog.underlying 18 with | some (.struct fs) => (fs[0]?).bind fun f => (sizeAt Try.prog f.type).map fun n => (f.offset, n) | _ => none) = some (0, 1))
  exact field_addr h rfl
@[go_sem] theorem fd18_0 {cs : List Value} : fieldA Try.prog 18 (.agg cs.toArray) 0 = cs[0]? := by
  have h := (by kernel_rfl : (match Try.prog.underlying 18 with | some (.struct fs) => (fs[0]?).map fun f => (f.offset, f.type) | _ => none) = some (0, 17))
  exact field_one h ag17 (by kernel_rfl)
@[go_sem] theorem ld19 : loadA Try.prog 19 (.pointer (some ⟨b, o, none⟩)) H = rdN (H.get b) o 1 := load_many ag19 sz19
@[go_sem] theorem st19 {vs : List Value} (hl : vs.length = 1) : storeA Try.prog 19 (.pointer (some ⟨b, o, none⟩)) (.agg vs.toArray) H = wrN H (H.get b) b o vs := store_many sz19 hl
@[go_sem] theorem bd19 {parts : List (Nat × Value)} : buildA Try.prog 19 parts = (fillA (fun i => ([(0, 1)] : List (Nat × Nat))[i]?) [Value.pointer none] parts).map fun l => .agg l.toArray := build_struct zr19 (by kernel_rfl)
@[go_sem] theorem fo19_0 : fieldAddrA Try.prog 19 (.pointer (some ⟨b, o, none⟩)) 0 = some (.pointer (some ⟨b, o + 0, none⟩)) := by
  have h := (by kernel_rfl : (match Try.prog.underlying 19 with | some (.struct fs) => (fs[0]?).bind fun f => (sizeAt Try.prog f.type).map fun n => (f.offset, n) | _ => none) = some (0, 1))
  exact field_addr h rfl
@[go_sem] theorem fd19_0 {cs : List Value} : fieldA Try.prog 19 (.agg cs.toArray) 0 = cs[0]? := by
  have h := (by kernel_rfl : (match Try.prog.underlying 19 with | some (.struct fs) => (fs[0]?).map fun f => (f.offset, f.type) | _ => none) = some (0, 17))
  exact field_one h ag17 (by kernel_rfl)
@[go_sem] theorem ld20 : loadA Try.prog 20 (.pointer (some ⟨b, o, none⟩)) H = rd1 (H.get b) o := load_one ag20
@[go_sem] theorem st20 (hc : oneV v) : storeA Try.prog 20 (.pointer (some ⟨b, o, none⟩)) v H = wr1 H (H.get b) b o v := store_one sz20 hc
@[go_sem] theorem ld21 : loadA Try.prog 21 (.pointer (some ⟨b, o, none⟩)) H = rd1 (H.get b) o := load_one ag21
@[go_sem] theorem st21 (hc : oneV v) : storeA Try.prog 21 (.pointer (some ⟨b, o, none⟩)) v H = wr1 H (H.get b) b o v := store_one sz21 hc
@[go_sem] theorem ld22 : loadA Try.prog 22 (.pointer (some ⟨b, o, none⟩)) H = rd1 (H.get b) o := load_one ag22
@[go_sem] theorem st22 (hc : oneV v) : storeA Try.prog 22 (.pointer (some ⟨b, o, none⟩)) v H = wr1 H (H.get b) b o v := store_one sz22 hc
@[go_sem] theorem ld23 : loadA Try.prog 23 (.pointer (some ⟨b, o, none⟩)) H = rd1 (H.get b) o := load_one ag23
@[go_sem] theorem st23 (hc : oneV v) : storeA Try.prog 23 (.pointer (some ⟨b, o, none⟩)) v H = wr1 H (H.get b) b o v := store_one sz23 hc
@[go_sem] theorem ld24 : loadA Try.prog 24 (.pointer (some ⟨b, o, none⟩)) H = rd1 (H.get b) o := load_one ag24
@[go_sem] theorem st24 (hc : oneV v) : storeA Try.prog 24 (.pointer (some ⟨b, o, none⟩)) v H = wr1 H (H.get b) b o v := store_one sz24 hc
@[go_sem] theorem ld25 : loadA Try.prog 25 (.pointer (some ⟨b, o, none⟩)) H = rd1 (H.get b) o := load_one ag25
@[go_sem] theorem st25 (hc : oneV v) : storeA Try.prog 25 (.pointer (some ⟨b, o, none⟩)) v H = wr1 H (H.get b) b o v := store_one sz25 hc
@[go_sem] theorem ld26 : loadA Try.prog 26 (.pointer (some ⟨b, o, none⟩)) H = rd1 (H.get b) o := load_one ag26
@[go_sem] theorem st26 (hc : oneV v) : storeA Try.prog 26 (.pointer (some ⟨b, o, none⟩)) v H = wr1 H (H.get b) b o v := store_one sz26 hc
@[go_sem] theorem ln26 : lenA Try.prog #[26] (.slice a n c) H = some (.int .i64 n) := len_slice Try.underlying26
theorem ap26 : appTy Try.prog #[26, 26] = some (1, 1, false) := by kernel_rfl
@[go_sem] theorem bs26 (h : oneV v) : buildSliceA Try.prog 26 1 [(0, v)] H = some (.slice (some ⟨H.n, 0, none⟩) 1 3, H.push (.row (.rw 1) [v])) := bs_one el26 sz5 zr5 h
@[go_sem] theorem bz26 : buildSliceA Try.prog 26 0 [] H = some (.slice (some ⟨H.n, 0, none⟩) 0 1, H.push (.row (.rw 1) [])) := bs_zero el26 sz5 zr5 rfl
theorem aps26 : appTy Try.prog #[26, 9] = some (1, 1, false) := by kernel_rfl
@[go_sem] theorem ld27 : loadA Try.prog 27 (.pointer (some ⟨b, o, none⟩)) H = rd1 (H.get b) o := load_one ag27
@[go_sem] theorem st27 (hc : oneV v) : storeA Try.prog 27 (.pointer (some ⟨b, o, none⟩)) v H = wr1 H (H.get b) b o v := store_one sz27 hc
@[go_sem] theorem ld28 : loadA Try.prog 28 (.pointer (some ⟨b, o, none⟩)) H = rd1 (H.get b) o := load_one ag28
@[go_sem] theorem st28 (hc : oneV v) : storeA Try.prog 28 (.pointer (some ⟨b, o, none⟩)) v H = wr1 H (H.get b) b o v := store_one sz28 hc
@[go_sem] theorem ln28 : lenA Try.prog #[28] (.slice a n c) H = some (.int .i64 n) := len_slice Try.underlying28
theorem ap28 : appTy Try.prog #[28, 28] = some (1, 16, false) := by kernel_rfl
@[go_sem] theorem bs28 (h : oneV v) : buildSliceA Try.prog 28 1 [(0, v)] H = some (.slice (some ⟨H.n, 0, none⟩) 1 3, H.push (.row (.rw 1) [v])) := bs_one el28 sz9 zr9 h
@[go_sem] theorem bz28 : buildSliceA Try.prog 28 0 [] H = some (.slice (some ⟨H.n, 0, none⟩) 0 1, H.push (.row (.rw 1) [])) := bs_zero el28 sz9 zr9 rfl
@[go_sem] theorem ld29 : loadA Try.prog 29 (.pointer (some ⟨b, o, none⟩)) H = rd1 (H.get b) o := load_one ag29
@[go_sem] theorem st29 (hc : oneV v) : storeA Try.prog 29 (.pointer (some ⟨b, o, none⟩)) v H = wr1 H (H.get b) b o v := store_one sz29 hc
@[go_sem] theorem ln29 : lenA Try.prog #[29] (.slice a n c) H = some (.int .i64 n) := len_slice Try.underlying29
theorem ap29 : appTy Try.prog #[29, 29] = some (1, 8, false) := by kernel_rfl
@[go_sem] theorem bs29 (h : oneV v) : buildSliceA Try.prog 29 1 [(0, v)] H = some (.slice (some ⟨H.n, 0, none⟩) 1 3, H.push (.row (.rw 1) [v])) := bs_one el29 sz3 zr3 h
@[go_sem] theorem bz29 : buildSliceA Try.prog 29 0 [] H = some (.slice (some ⟨H.n, 0, none⟩) 0 1, H.push (.row (.rw 1) [])) := bs_zero el29 sz3 zr3 rfl
@[go_sem] theorem ld30 : loadA Try.prog 30 (.pointer (some ⟨b, o, none⟩)) H = rdN (H.get b) o 3 := load_many ag30 sz30
@[go_sem] theorem st30 {vs : List Value} (hl : vs.length = 3) : storeA Try.prog 30 (.pointer (some ⟨b, o, none⟩)) (.agg vs.toArray) H = wrN H (H.get b) b o vs := store_many sz30 hl
@[go_sem] theorem bd30 {parts : List (Nat × Value)} : buildA Try.prog 30 parts = (fillA (fun i => ([(0, 1), (1, 1), (2, 1)] : List (Nat × Nat))[i]?) [Value.slice none 0 0, Value.slice none 0 0, Value.slice none 0 0] parts).map fun l => .agg l.toArray := build_struct zr30 (by kernel_rfl)
@[go_sem] theorem fo30_0 : fieldAddrA Try.prog 30 (.pointer (some ⟨b, o, none⟩)) 0 = some (.pointer (some ⟨b, o + 0, none⟩)) := by
  have h := (by kernel_rfl : (match Try.prog.underlying 30 with | some (.struct fs) => (fs[0]?).bind fun f => (sizeAt Try.prog f.type).map fun n => (f.offset, n) | _ => none) = some (0, 1))
  exact field_addr h rfl
@[go_sem] theorem fd30_0 {cs : List Value} : fieldA Try.prog 30 (.agg cs.toArray) 0 = cs[0]? := by
  have h := (by kernel_rfl : (match Try.prog.underlying 30 with | some (.struct fs) => (fs[0]?).map fun f => (f.offset, f.type) | _ => none) = some (0, 28))
  exact field_one h ag28 (by kernel_rfl)
@[go_sem] theorem fo30_1 : fieldAddrA Try.prog 30 (.pointer (some ⟨b, o, none⟩)) 1 = some (.pointer (some ⟨b, o + 1, none⟩)) := by
  have h := (by kernel_rfl : (match Try.prog.underlying 30 with | some (.struct fs) => (fs[1]?).bind fun f => (sizeAt Try.prog f.type).map fun n => (f.offset, n) | _ => none) = some (1, 1))
  exact field_addr h rfl
@[go_sem] theorem fd30_1 {cs : List Value} : fieldA Try.prog 30 (.agg cs.toArray) 1 = cs[1]? := by
  have h := (by kernel_rfl : (match Try.prog.underlying 30 with | some (.struct fs) => (fs[1]?).map fun f => (f.offset, f.type) | _ => none) = some (1, 29))
  exact field_one h ag29 (by kernel_rfl)
@[go_sem] theorem fo30_2 : fieldAddrA Try.prog 30 (.pointer (some ⟨b, o, none⟩)) 2 = some (.pointer (some ⟨b, o + 2, none⟩)) := by
  have h := (by kernel_rfl : (match Try.prog.underlying 30 with | some (.struct fs) => (fs[2]?).bind fun f => (sizeAt Try.prog f.type).map fun n => (f.offset, n) | _ => none) = some (2, 1))
  exact field_addr h rfl
@[go_sem] theorem fd30_2 {cs : List Value} : fieldA Try.prog 30 (.agg cs.toArray) 2 = cs[2]? := by
  have h := (by kernel_rfl : (match Try.prog.underlying 30 with | some (.struct fs) => (fs[2]?).map fun f => (f.offset, f.type) | _ => none) = some (2, 29))
  exact field_one h ag29 (by kernel_rfl)
@[go_sem] theorem ld31 : loadA Try.prog 31 (.pointer (some ⟨b, o, none⟩)) H = rdN (H.get b) o 3 := load_many ag31 sz31
@[go_sem] theorem st31 {vs : List Value} (hl : vs.length = 3) : storeA Try.prog 31 (.pointer (some ⟨b, o, none⟩)) (.agg vs.toArray) H = wrN H (H.get b) b o vs := store_many sz31 hl
@[go_sem] theorem bd31 {parts : List (Nat × Value)} : buildA Try.prog 31 parts = (fillA (fun i => ([(0, 1), (1, 1), (2, 1)] : List (Nat × Nat))[i]?) [Value.slice none 0 0, Value.slice none 0 0, Value.slice none 0 0] parts).map fun l => .agg l.toArray := build_struct zr31 (by kernel_rfl)
@[go_sem] theorem fo31_0 : fieldAddrA Try.prog 31 (.pointer (some ⟨b, o, none⟩)) 0 = some (.pointer (some ⟨b, o + 0, none⟩)) := by
  have h := (by kernel_rfl : (match Try.prog.underlying 31 with | some (.struct fs) => (fs[0]?).bind fun f => (sizeAt Try.prog f.type).map fun n => (f.offset, n) | _ => none) = some (0, 1))
  exact field_addr h rfl
@[go_sem] theorem fd31_0 {cs : List Value} : fieldA Try.prog 31 (.agg cs.toArray) 0 = cs[0]? := by
  have h := (by kernel_rfl : (match Try.prog.underlying 31 with | some (.struct fs) => (fs[0]?).map fun f => (f.offset, f.type) | _ => none) = some (0, 28))
  exact field_one h ag28 (by kernel_rfl)
@[go_sem] theorem fo31_1 : fieldAddrA Try.prog 31 (.pointer (some ⟨b, o, none⟩)) 1 = some (.pointer (some ⟨b, o + 1, none⟩)) := by
  have h := (by kernel_rfl : (match Try.prog.underlying 31 with | some (.struct fs) => (fs[1]?).bind fun f => (sizeAt Try.prog f.type).map fun n => (f.offset, n) | _ => none) = some (1, 1))
  exact field_addr h rfl
@[go_sem] theorem fd31_1 {cs : List Value} : fieldA Try.prog 31 (.agg cs.toArray) 1 = cs[1]? := by
  have h := (by kernel_rfl : (match Try.prog.underlying 31 with | some (.struct fs) => (fs[1]?).map fun f => (f.offset, f.type) | _ => none) = some (1, 29))
  exact field_one h ag29 (by kernel_rfl)
@[go_sem] theorem fo31_2 : fieldAddrA Try.prog 31 (.pointer (some ⟨b, o, none⟩)) 2 = some (.pointer (some ⟨b, o + 2, none⟩)) := by
  have h := (by kernel_rfl : (match Try.prog.underlying 31 with | some (.struct fs) => (fs[2]?).bind fun f => (sizeAt Try.prog f.type).map fun n => (f.offset, n) | _ => none) = some (2, 1))
  exact field_addr h rfl
@[go_sem] theorem fd31_2 {cs : List Value} : fieldA Try.prog 31 (.agg cs.toArray) 2 = cs[2]? := by
  have h := (by kernel_rfl : (match Try.prog.underlying 31 with | some (.struct fs) => (fs[2]?).map fun f => (f.offset, f.type) | _ => none) = some (2, 29))
  exact field_one h ag29 (by kernel_rfl)
@[go_sem] theorem ld32 : loadA Try.prog 32 (.pointer (some ⟨b, o, none⟩)) H = rd1 (H.get b) o := load_one ag32
@[go_sem] theorem st32 (hc : oneV v) : storeA Try.prog 32 (.pointer (some ⟨b, o, none⟩)) v H = wr1 H (H.get b) b o v := store_one sz32 hc
@[go_sem] theorem ld33 : loadA Try.prog 33 (.pointer (some ⟨b, o, none⟩)) H = rd1 (H.get b) o := load_one ag33
@[go_sem] theorem st33 (hc : oneV v) : storeA Try.prog 33 (.pointer (some ⟨b, o, none⟩)) v H = wr1 H (H.get b) b o v := store_one sz33 hc
@[go_sem] theorem ld34 : loadA Try.prog 34 (.pointer (some ⟨b, o, none⟩)) H = rd1 (H.get b) o := load_one ag34
@[go_sem] theorem st34 (hc : oneV v) : storeA Try.prog 34 (.pointer (some ⟨b, o, none⟩)) v H = wr1 H (H.get b) b o v := store_one sz34 hc
@[go_sem] theorem ld35 : loadA Try.prog 35 (.pointer (some ⟨b, o, none⟩)) H = rd1 (H.get b) o := load_one ag35
@[go_sem] theorem st35 (hc : oneV v) : storeA Try.prog 35 (.pointer (some ⟨b, o, none⟩)) v H = wr1 H (H.get b) b o v := store_one sz35 hc
@[go_sem] theorem ld36 : loadA Try.prog 36 (.pointer (some ⟨b, o, none⟩)) H = rd1 (H.get b) o := load_one ag36
@[go_sem] theorem st36 (hc : oneV v) : storeA Try.prog 36 (.pointer (some ⟨b, o, none⟩)) v H = wr1 H (H.get b) b o v := store_one sz36 hc
@[go_sem] theorem ld37 : loadA Try.prog 37 (.pointer (some ⟨b, o, none⟩)) H = rd1 (H.get b) o := load_one ag37
@[go_sem] theorem st37 (hc : oneV v) : storeA Try.prog 37 (.pointer (some ⟨b, o, none⟩)) v H = wr1 H (H.get b) b o v := store_one sz37 hc
@[go_sem] theorem ld38 : loadA Try.prog 38 (.pointer (some ⟨b, o, none⟩)) H = rd1 (H.get b) o := load_one ag38
@[go_sem] theorem st38 (hc : oneV v) : storeA Try.prog 38 (.pointer (some ⟨b, o, none⟩)) v H = wr1 H (H.get b) b o v := store_one sz38 hc
@[go_sem] theorem ld39 : loadA Try.prog 39 (.pointer (some ⟨b, o, none⟩)) H = rd1 (H.get b) o := load_one ag39
@[go_sem] theorem st39 (hc : oneV v) : storeA Try.prog 39 (.pointer (some ⟨b, o, none⟩)) v H = wr1 H (H.get b) b o v := store_one sz39 hc
@[go_sem] theorem ld40 : loadA Try.prog 40 (.pointer (some ⟨b, o, none⟩)) H = rd1 (H.get b) o := load_one ag40
@[go_sem] theorem st40 (hc : oneV v) : storeA Try.prog 40 (.pointer (some ⟨b, o, none⟩)) v H = wr1 H (H.get b) b o v := store_one sz40 hc
@[go_sem] theorem ld41 : loadA Try.prog 41 (.pointer (some ⟨b, o, none⟩)) H = rd1 (H.get b) o := load_one ag41
@[go_sem] theorem st41 (hc : oneV v) : storeA Try.prog 41 (.pointer (some ⟨b, o, none⟩)) v H = wr1 H (H.get b) b o v := store_one sz41 hc
@[go_sem] theorem ld42 : loadA Try.prog 42 (.pointer (some ⟨b, o, none⟩)) H = rd1 (H.get b) o := load_one ag42
@[go_sem] theorem st42 (hc : oneV v) : storeA Try.prog 42 (.pointer (some ⟨b, o, none⟩)) v H = wr1 H (H.get b) b o v := store_one sz42 hc
@[go_sem] theorem ld43 : loadA Try.prog 43 (.pointer (some ⟨b, o, none⟩)) H = rd1 (H.get b) o := load_one ag43
@[go_sem] theorem st43 (hc : oneV v) : storeA Try.prog 43 (.pointer (some ⟨b, o, none⟩)) v H = wr1 H (H.get b) b o v := store_one sz43 hc
@[go_sem] theorem ld44 : loadA Try.prog 44 (.pointer (some ⟨b, o, none⟩)) H = rd1 (H.get b) o := load_one ag44
@[go_sem] theorem st44 (hc : oneV v) : storeA Try.prog 44 (.pointer (some ⟨b, o, none⟩)) v H = wr1 H (H.get b) b o v := store_one sz44 hc
@[go_sem] theorem ld45 : loadA Try.prog 45 (.pointer (some ⟨b, o, none⟩)) H = rd1 (H.get b) o := load_one ag45
@[go_sem] theorem st45 (hc : oneV v) : storeA Try.prog 45 (.pointer (some ⟨b, o, none⟩)) v H = wr1 H (H.get b) b o v := store_one sz45 hc
@[go_sem] theorem ld46 : loadA Try.prog 46 (.pointer (some ⟨b, o, none⟩)) H = rd1 (H.get b) o := load_one ag46
@[go_sem] theorem st46 (hc : oneV v) : storeA Try.prog 46 (.pointer (some ⟨b, o, none⟩)) v H = wr1 H (H.get b) b o v := store_one sz46 hc
@[go_sem] theorem ld47 : loadA Try.prog 47 (.pointer (some ⟨b, o, none⟩)) H = rd1 (H.get b) o := load_one ag47
@[go_sem] theorem st47 (hc : oneV v) : storeA Try.prog 47 (.pointer (some ⟨b, o, none⟩)) v H = wr1 H (H.get b) b o v := store_one sz47 hc
@[go_sem] theorem ld48 : loadA Try.prog 48 (.pointer (some ⟨b, o, none⟩)) H = rd1 (H.get b) o := load_one ag48
@[go_sem] theorem st48 (hc : oneV v) : storeA Try.prog 48 (.pointer (some ⟨b, o, none⟩)) v H = wr1 H (H.get b) b o v := store_one sz48 hc
@[go_sem] theorem ln48 : lenA Try.prog #[48] (.slice a n c) H = some (.int .i64 n) := len_slice Try.underlying48
theorem ap48 : appTy Try.prog #[48, 48] = some (1, 1, false) := by kernel_rfl
@[go_sem] theorem bs48 (h : oneV v) : buildSliceA Try.prog 48 1 [(0, v)] H = some (.slice (some ⟨H.n, 0, none⟩) 1 3, H.push (.row (.rw 1) [v])) := bs_one el48 sz4 zr4 h
@[go_sem] theorem bz48 : buildSliceA Try.prog 48 0 [] H = some (.slice (some ⟨H.n, 0, none⟩) 0 1, H.push (.row (.rw 1) [])) := bs_zero el48 sz4 zr4 rfl
@[go_sem] theorem ld49 : loadA Try.prog 49 (.pointer (some ⟨b, o, none⟩)) H = rd1 (H.get b) o := load_one ag49
@[go_sem] theorem st49 (hc : oneV v) : storeA Try.prog 49 (.pointer (some ⟨b, o, none⟩)) v H = wr1 H (H.get b) b o v := store_one sz49 hc
@[go_sem] theorem ld50 : loadA Try.prog 50 (.pointer (some ⟨b, o, none⟩)) H = rd1 (H.get b) o := load_one ag50
@[go_sem] theorem st50 (hc : oneV v) : storeA Try.prog 50 (.pointer (some ⟨b, o, none⟩)) v H = wr1 H (H.get b) b o v := store_one sz50 hc
@[go_sem] theorem ld51 : loadA Try.prog 51 (.pointer (some ⟨b, o, none⟩)) H = rdN (H.get b) o 8 := load_many ag51 sz51
@[go_sem] theorem st51 {vs : List Value} (hl : vs.length = 8) : storeA Try.prog 51 (.pointer (some ⟨b, o, none⟩)) (.agg vs.toArray) H = wrN H (H.get b) b o vs := store_many sz51 hl
@[go_sem] theorem bd51 {parts : List (Nat × Value)} : buildA Try.prog 51 parts = (fillA (fun i => ([(0, 3), (3, 1), (4, 1), (5, 1), (6, 1), (7, 1)] : List (Nat × Nat))[i]?) [Value.slice none 0 0, Value.slice none 0 0, Value.slice none 0 0, Value.slice none 0 0, Value.bool false, Value.int IntKind.i64 0, Value.bool false, Value.bool false] parts).map fun l => .agg l.toArray := build_struct zr51 (by kernel_rfl)
@[go_sem] theorem fo51_0 : fieldAddrA Try.prog 51 (.pointer (some ⟨b, o, none⟩)) 0 = some (.pointer (some ⟨b, o + 0, none⟩)) := by
  have h := (by kernel_rfl : (match Try.prog.underlying 51 with | some (.struct fs) => (fs[0]?).bind fun f => (sizeAt Try.prog f.type).map fun n => (f.offset, n) | _ => none) = some (0, 3))
  exact field_addr h rfl
@[go_sem] theorem fd51_0 {cs : List Value} : fieldA Try.prog 51 (.agg cs.toArray) 0 = some (.agg ((cs.drop 0).take 3).toArray) := by
  have h := (by kernel_rfl : (match Try.prog.underlying 51 with | some (.struct fs) => (fs[0]?).map fun f => (f.offset, f.type) | _ => none) = some (0, 31))
  exact field_many h ag31 (by kernel_rfl)
@[go_sem] theorem fo51_1 : fieldAddrA Try.prog 51 (.pointer (some ⟨b, o, none⟩)) 1 = some (.pointer (some ⟨b, o + 3, none⟩)) := by
  have h := (by kernel_rfl : (match Try.prog.underlying 51 with | some (.struct fs) => (fs[1]?).bind fun f => (sizeAt Try.prog f.type).map fun n => (f.offset, n) | _ => none) = some (3, 1))
  exact field_addr h rfl
@[go_sem] theorem fd51_1 {cs : List Value} : fieldA Try.prog 51 (.agg cs.toArray) 1 = cs[3]? := by
  have h := (by kernel_rfl : (match Try.prog.underlying 51 with | some (.struct fs) => (fs[1]?).map fun f => (f.offset, f.type) | _ => none) = some (3, 26))
  exact field_one h ag26 (by kernel_rfl)
@[go_sem] theorem fo51_2 : fieldAddrA Try.prog 51 (.pointer (some ⟨b, o, none⟩)) 2 = some (.pointer (some ⟨b, o + 4, none⟩)) := by
  have h := (by kernel_rfl : (match Try.prog.underlying 51 with | some (.struct fs) => (fs[2]?).bind fun f => (sizeAt Try.prog f.type).map fun n => (f.offset, n) | _ => none) = some (4, 1))
  exact field_addr h rfl
@[go_sem] theorem fd51_2 {cs : List Value} : fieldA Try.prog 51 (.agg cs.toArray) 2 = cs[4]? := by
  have h := (by kernel_rfl : (match Try.prog.underlying 51 with | some (.struct fs) => (fs[2]?).map fun f => (f.offset, f.type) | _ => none) = some (4, 4))
  exact field_one h ag4 (by kernel_rfl)
@[go_sem] theorem fo51_3 : fieldAddrA Try.prog 51 (.pointer (some ⟨b, o, none⟩)) 3 = some (.pointer (some ⟨b, o + 5, none⟩)) := by
  have h := (by kernel_rfl : (match Try.prog.underlying 51 with | some (.struct fs) => (fs[3]?).bind fun f => (sizeAt Try.prog f.type).map fun n => (f.offset, n) | _ => none) = some (5, 1))
  exact field_addr h rfl
@[go_sem] theorem fd51_3 {cs : List Value} : fieldA Try.prog 51 (.agg cs.toArray) 3 = cs[5]? := by
  have h := (by kernel_rfl : (match Try.prog.underlying 51 with | some (.struct fs) => (fs[3]?).map fun f => (f.offset, f.type) | _ => none) = some (5, 3))
  exact field_one h ag3 (by kernel_rfl)
@[go_sem] theorem fo51_4 : fieldAddrA Try.prog 51 (.pointer (some ⟨b, o, none⟩)) 4 = some (.pointer (some ⟨b, o + 6, none⟩)) := by
  have h := (by kernel_rfl : (match Try.prog.underlying 51 with | some (.struct fs) => (fs[4]?).bind fun f => (sizeAt Try.prog f.type).map fun n => (f.offset, n) | _ => none) = some (6, 1))
  exact field_addr h rfl
@[go_sem] theorem fd51_4 {cs : List Value} : fieldA Try.prog 51 (.agg cs.toArray) 4 = cs[6]? := by
  have h := (by kernel_rfl : (match Try.prog.underlying 51 with | some (.struct fs) => (fs[4]?).map fun f => (f.offset, f.type) | _ => none) = some (6, 4))
  exact field_one h ag4 (by kernel_rfl)
@[go_sem] theorem fo51_5 : fieldAddrA Try.prog 51 (.pointer (some ⟨b, o, none⟩)) 5 = some (.pointer (some ⟨b, o + 7, none⟩)) := by
  have h := (by kernel_rfl : (match Try.prog.underlying 51 with | some (.struct fs) => (fs[5]?).bind fun f => (sizeAt Try.prog f.type).map fun n => (f.offset, n) | _ => none) = some (7, 1))
  exact field_addr h rfl
@[go_sem] theorem fd51_5 {cs : List Value} : fieldA Try.prog 51 (.agg cs.toArray) 5 = cs[7]? := by
  have h := (by kernel_rfl : (match Try.prog.underlying 51 with | some (.struct fs) => (fs[5]?).map fun f => (f.offset, f.type) | _ => none) = some (7, 4))
  exact field_one h ag4 (by kernel_rfl)
@[go_sem] theorem ld52 : loadA Try.prog 52 (.pointer (some ⟨b, o, none⟩)) H = rdN (H.get b) o 8 := load_many ag52 sz52
@[go_sem] theorem st52 {vs : List Value} (hl : vs.length = 8) : storeA Try.prog 52 (.pointer (some ⟨b, o, none⟩)) (.agg vs.toArray) H = wrN H (H.get b) b o vs := store_many sz52 hl
@[go_sem] theorem bd52 {parts : List (Nat × Value)} : buildA Try.prog 52 parts = (fillA (fun i => ([(0, 3), (3, 1), (4, 1), (5, 1), (6, 1), (7, 1)] : List (Nat × Nat))[i]?) [Value.slice none 0 0, Value.slice none 0 0, Value.slice none 0 0, Value.slice none 0 0, Value.bool false, Value.int IntKind.i64 0, Value.bool false, Value.bool false] parts).map fun l => .agg l.toArray := build_struct zr52 (by kernel_rfl)
@[go_sem] theorem fo52_0 : fieldAddrA Try.prog 52 (.pointer (some ⟨b, o, none⟩)) 0 = some (.pointer (some ⟨b, o + 0, none⟩)) := by
  have h := (by kernel_rfl : (match Try.prog.underlying 52 with | some (.struct fs) => (fs[0]?).bind fun f => (sizeAt Try.prog f.type).map fun n => (f.offset, n) | _ => none) = some (0, 3))
  exact field_addr h rfl
@[go_sem] theorem fd52_0 {cs : List Value} : fieldA Try.prog 52 (.agg cs.toArray) 0 = some (.agg ((cs.drop 0).take 3).toArray) := by
  have h := (by kernel_rfl : (match Try.prog.underlying 52 with | some (.struct fs) => (fs[0]?).map fun f => (f.offset, f.type) | _ => none) = some (0, 31))
  exact field_many h ag31 (by kernel_rfl)
@[go_sem] theorem fo52_1 : fieldAddrA Try.prog 52 (.pointer (some ⟨b, o, none⟩)) 1 = some (.pointer (some ⟨b, o + 3, none⟩)) := by
  have h := (by kernel_rfl : (match Try.prog.underlying 52 with | some (.struct fs) => (fs[1]?).bind fun f => (sizeAt Try.prog f.type).map fun n => (f.offset, n) | _ => none) = some (3, 1))
  exact field_addr h rfl
@[go_sem] theorem fd52_1 {cs : List Value} : fieldA Try.prog 52 (.agg cs.toArray) 1 = cs[3]? := by
  have h := (by kernel_rfl : (match Try.prog.underlying 52 with | some (.struct fs) => (fs[1]?).map fun f => (f.offset, f.type) | _ => none) = some (3, 26))
  exact field_one h ag26 (by kernel_rfl)
@[go_sem] theorem fo52_2 : fieldAddrA Try.prog 52 (.pointer (some ⟨b, o, none⟩)) 2 = some (.pointer (some ⟨b, o + 4, none⟩)) := by
  have h := (by kernel_rfl : (match Try.prog.underlying 52 with | some (.struct fs) => (fs[2]?).bind fun f => (sizeAt Try.prog f.type).map fun n => (f.offset, n) | _ => none) = some (4, 1))
  exact field_addr h rfl
@[go_sem] theorem fd52_2 {cs : List Value} : fieldA Try.prog 52 (.agg cs.toArray) 2 = cs[4]? := by
  have h := (by kernel_rfl : (match Try.prog.underlying 52 with | some (.struct fs) => (fs[2]?).map fun f => (f.offset, f.type) | _ => none) = some (4, 4))
  exact field_one h ag4 (by kernel_rfl)
@[go_sem] theorem fo52_3 : fieldAddrA Try.prog 52 (.pointer (some ⟨b, o, none⟩)) 3 = some (.pointer (some ⟨b, o + 5, none⟩)) := by
  have h := (by kernel_rfl : (match Try.prog.underlying 52 with | some (.struct fs) => (fs[3]?).bind fun f => (sizeAt Try.prog f.type).map fun n => (f.offset, n) | _ => none) = some (5, 1))
  exact field_addr h rfl
@[go_sem] theorem fd52_3 {cs : List Value} : fieldA Try.prog 52 (.agg cs.toArray) 3 = cs[5]? := by
  have h := (by kernel_rfl : (match Try.prog.underlying 52 with | some (.struct fs) => (fs[3]?).map fun f => (f.offset, f.type) | _ => none) = some (5, 3))
  exact field_one h ag3 (by kernel_rfl)
@[go_sem] theorem fo52_4 : fieldAddrA Try.prog 52 (.pointer (some ⟨b, o, none⟩)) 4 = some (.pointer (some ⟨b, o + 6, none⟩)) := by
  have h := (by kernel_rfl : (match Try.prog.underlying 52 with | some (.struct fs) => (fs[4]?).bind fun f => (sizeAt Try.prog f.type).map fun n => (f.offset, n) | _ => none) = some (6, 1))
  exact field_addr h rfl
@[go_sem] theorem fd52_4 {cs : List Value} : fieldA Try.prog 52 (.agg cs.toArray) 4 = cs[6]? := by
  have h := (by kernel_rfl : (match Try.prog.underlying 52 with | some (.struct fs) => (fs[4]?).map fun f => (f.offset, f.type) | _ => none) = some (6, 4))
  exact field_one h ag4 (by kernel_rfl)
@[go_sem] theorem fo52_5 : fieldAddrA Try.prog 52 (.pointer (some ⟨b, o, none⟩)) 5 = some (.pointer (some ⟨b, o + 7, none⟩)) := by
  have h := (by kernel_rfl : (match Try.prog.underlying 52 with | some (.struct fs) => (fs[5]?).bind fun f => (sizeAt Try.prog f.type).map fun n => (f.offset, n) | _ => none) = some (7, 1))
  exact field_addr h rfl
@[go_sem] theorem fd52_5 {cs : List Value} : fieldA Try.prog 52 (.agg cs.toArray) 5 = cs[7]? := by
  have h := (by kernel_rfl : (match Try.prog.underlying 52 with | some (.struct fs) => (fs[5]?).map fun f => (f.offset, f.type) | _ => none) = some (7, 4))
  exact field_one h ag4 (by kernel_rfl)
@[go_sem] theorem ld53 : loadA Try.prog 53 (.pointer (some ⟨b, o, none⟩)) H = rd1 (H.get b) o := load_one ag53
@[go_sem] theorem st53 (hc : oneV v) : storeA Try.prog 53 (.pointer (some ⟨b, o, none⟩)) v H = wr1 H (H.get b) b o v := store_one sz53 hc
@[go_sem] theorem ld54 : loadA Try.prog 54 (.pointer (some ⟨b, o, none⟩)) H = rd1 (H.get b) o := load_one ag54
@[go_sem] theorem st54 (hc : oneV v) : storeA Try.prog 54 (.pointer (some ⟨b, o, none⟩)) v H = wr1 H (H.get b) b o v := store_one sz54 hc
@[go_sem] theorem ld55 : loadA Try.prog 55 (.pointer (some ⟨b, o, none⟩)) H = rd1 (H.get b) o := load_one ag55
@[go_sem] theorem st55 (hc : oneV v) : storeA Try.prog 55 (.pointer (some ⟨b, o, none⟩)) v H = wr1 H (H.get b) b o v := store_one sz55 hc
@[go_sem] theorem ld56 : loadA Try.prog 56 (.pointer (some ⟨b, o, none⟩)) H = rd1 (H.get b) o := load_one ag56
@[go_sem] theorem st56 (hc : oneV v) : storeA Try.prog 56 (.pointer (some ⟨b, o, none⟩)) v H = wr1 H (H.get b) b o v := store_one sz56 hc
@[go_sem] theorem ld57 : loadA Try.prog 57 (.pointer (some ⟨b, o, none⟩)) H = rd1 (H.get b) o := load_one ag57
@[go_sem] theorem st57 (hc : oneV v) : storeA Try.prog 57 (.pointer (some ⟨b, o, none⟩)) v H = wr1 H (H.get b) b o v := store_one sz57 hc
@[go_sem] theorem ld58 : loadA Try.prog 58 (.pointer (some ⟨b, o, none⟩)) H = rd1 (H.get b) o := load_one ag58
@[go_sem] theorem st58 (hc : oneV v) : storeA Try.prog 58 (.pointer (some ⟨b, o, none⟩)) v H = wr1 H (H.get b) b o v := store_one sz58 hc
@[go_sem] theorem ld59 : loadA Try.prog 59 (.pointer (some ⟨b, o, none⟩)) H = rd1 (H.get b) o := load_one ag59
@[go_sem] theorem st59 (hc : oneV v) : storeA Try.prog 59 (.pointer (some ⟨b, o, none⟩)) v H = wr1 H (H.get b) b o v := store_one sz59 hc
@[go_sem] theorem ld60 : loadA Try.prog 60 (.pointer (some ⟨b, o, none⟩)) H = rdN (H.get b) o 2 := load_many ag60 sz60
@[go_sem] theorem st60 {vs : List Value} (hl : vs.length = 2) : storeA Try.prog 60 (.pointer (some ⟨b, o, none⟩)) (.agg vs.toArray) H = wrN H (H.get b) b o vs := store_many sz60 hl
@[go_sem] theorem bd60 {parts : List (Nat × Value)} : buildA Try.prog 60 parts = (fillA (fun i => ([(0, 1), (1, 1)] : List (Nat × Nat))[i]?) [Value.string ⟨#[]⟩, Value.string ⟨#[]⟩] parts).map fun l => .agg l.toArray := build_struct zr60 (by kernel_rfl)
@[go_sem] theorem fo60_0 : fieldAddrA Try.prog 60 (.pointer (some ⟨b, o, none⟩)) 0 = some (.pointer (some ⟨b, o + 0, none⟩)) := by
  have h := (by kernel_rfl : (match Try.prog.underlying 60 with | some (.struct fs) => (fs[0]?).bind fun f => (sizeAt Try.prog f.type).map fun n => (f.offset, n) | _ => none) = some (0, 1))
  exact field_addr h rfl
@[go_sem] theorem fd60_0 {cs : List Value} : fieldA Try.prog 60 (.agg cs.toArray) 0 = cs[0]? := by
  have h := (by kernel_rfl : (match Try.prog.underlying 60 with | some (.struct fs) => (fs[0]?).map fun f => (f.offset, f.type) | _ => none) = some (0, 9))
  exact field_one h ag9 (by kernel_rfl)
@[go_sem] theorem fo60_1 : fieldAddrA Try.prog 60 (.pointer (some ⟨b, o, none⟩)) 1 = some (.pointer (some ⟨b, o + 1, none⟩)) := by
  have h := (by kernel_rfl : (match Try.prog.underlying 60 with | some (.struct fs) => (fs[1]?).bind fun f => (sizeAt Try.prog f.type).map fun n => (f.offset, n) | _ => none) = some (1, 1))
  exact field_addr h rfl
@[go_sem] theorem fd60_1 {cs : List Value} : fieldA Try.prog 60 (.agg cs.toArray) 1 = cs[1]? := by
  have h := (by kernel_rfl : (match Try.prog.underlying 60 with | some (.struct fs) => (fs[1]?).map fun f => (f.offset, f.type) | _ => none) = some (1, 9))
  exact field_one h ag9 (by kernel_rfl)
@[go_sem] theorem ld61 : loadA Try.prog 61 (.pointer (some ⟨b, o, none⟩)) H = rdN (H.get b) o 2 := load_many ag61 sz61
@[go_sem] theorem st61 {vs : List Value} (hl : vs.length = 2) : storeA Try.prog 61 (.pointer (some ⟨b, o, none⟩)) (.agg vs.toArray) H = wrN H (H.get b) b o vs := store_many sz61 hl
@[go_sem] theorem bd61 {parts : List (Nat × Value)} : buildA Try.prog 61 parts = (fillA (fun i => ([(0, 1), (1, 1)] : List (Nat × Nat))[i]?) [Value.string ⟨#[]⟩, Value.string ⟨#[]⟩] parts).map fun l => .agg l.toArray := build_struct zr61 (by kernel_rfl)
@[go_sem] theorem fo61_0 : fieldAddrA Try.prog 61 (.pointer (some ⟨b, o, none⟩)) 0 = some (.pointer (some ⟨b, o + 0, none⟩)) := by
  have h := (by kernel_rfl : (match Try.prog.underlying 61 with | some (.struct fs) => (fs[0]?).bind fun f => (sizeAt Try.prog f.type).map fun n => (f.offset, n) | _ => none) = some (0, 1))
  exact field_addr h rfl
@[go_sem] theorem fd61_0 {cs : List Value} : fieldA Try.prog 61 (.agg cs.toArray) 0 = cs[0]? := by
  have h := (by kernel_rfl : (match Try.prog.underlying 61 with | some (.struct fs) => (fs[0]?).map fun f => (f.offset, f.type) | _ => none) = some (0, 9))
  exact field_one h ag9 (by kernel_rfl)
@[go_sem] theorem fo61_1 : fieldAddrA Try.prog 61 (.pointer (some ⟨b, o, none⟩)) 1 = some (.pointer (some ⟨b, o + 1, none⟩)) := by
  have h := (by kernel_rfl : (match Try.prog.underlying 61 with | some (.struct fs) => (fs[1]?).bind fun f => (sizeAt Try.prog f.type).map fun n => (f.offset, n) | _ => none) = some (1, 1))
  exact field_addr h rfl
@[go_sem] theorem fd61_1 {cs : List Value} : fieldA Try.prog 61 (.agg cs.toArray) 1 = cs[1]? := by
  have h := (by kernel_rfl : (match Try.prog.underlying 61 with | some (.struct fs) => (fs[1]?).map fun f => (f.offset, f.type) | _ => none) = some (1, 9))
  exact field_one h ag9 (by kernel_rfl)
@[go_sem] theorem ld62 : loadA Try.prog 62 (.pointer (some ⟨b, o, none⟩)) H = rd1 (H.get b) o := load_one ag62
@[go_sem] theorem st62 (hc : oneV v) : storeA Try.prog 62 (.pointer (some ⟨b, o, none⟩)) v H = wr1 H (H.get b) b o v := store_one sz62 hc
@[go_sem] theorem ln62 : lenA Try.prog #[62] (.slice a n c) H = some (.int .i64 n) := len_slice Try.underlying62
theorem ap62 : appTy Try.prog #[62, 62] = some (2, 32, false) := by kernel_rfl
@[go_sem] theorem bz62 : buildSliceA Try.prog 62 0 [] H = some (.slice (some ⟨H.n, 0, none⟩) 0 1, H.push (.row (.rw 2) [])) := bs_zero el62 sz61 zr61 rfl
@[go_sem] theorem ld63 : loadA Try.prog 63 (.pointer (some ⟨b, o, none⟩)) H = rd1 (H.get b) o := load_one ag63
@[go_sem] theorem st63 (hc : oneV v) : storeA Try.prog 63 (.pointer (some ⟨b, o, none⟩)) v H = wr1 H (H.get b) b o v := store_one sz63 hc
@[go_sem] theorem ld64 : loadA Try.prog 64 (.pointer (some ⟨b, o, none⟩)) H = rd1 (H.get b) o := load_one ag64
@[go_sem] theorem st64 (hc : oneV v) : storeA Try.prog 64 (.pointer (some ⟨b, o, none⟩)) v H = wr1 H (H.get b) b o v := store_one sz64 hc
@[go_sem] theorem ld65 : loadA Try.prog 65 (.pointer (some ⟨b, o, none⟩)) H = rd1 (H.get b) o := load_one ag65
@[go_sem] theorem st65 (hc : oneV v) : storeA Try.prog 65 (.pointer (some ⟨b, o, none⟩)) v H = wr1 H (H.get b) b o v := store_one sz65 hc
@[go_sem] theorem ld66 : loadA Try.prog 66 (.pointer (some ⟨b, o, none⟩)) H = rd1 (H.get b) o := load_one ag66
@[go_sem] theorem st66 (hc : oneV v) : storeA Try.prog 66 (.pointer (some ⟨b, o, none⟩)) v H = wr1 H (H.get b) b o v := store_one sz66 hc
@[go_sem] theorem ld67 : loadA Try.prog 67 (.pointer (some ⟨b, o, none⟩)) H = rd1 (H.get b) o := load_one ag67
@[go_sem] theorem st67 (hc : oneV v) : storeA Try.prog 67 (.pointer (some ⟨b, o, none⟩)) v H = wr1 H (H.get b) b o v := store_one sz67 hc
@[go_sem] theorem ld68 : loadA Try.prog 68 (.pointer (some ⟨b, o, none⟩)) H = rdN (H.get b) o 4 := load_many ag68 sz68
@[go_sem] theorem st68 {vs : List Value} (hl : vs.length = 4) : storeA Try.prog 68 (.pointer (some ⟨b, o, none⟩)) (.agg vs.toArray) H = wrN H (H.get b) b o vs := store_many sz68 hl
@[go_sem] theorem bd68 {parts : List (Nat × Value)} : buildA Try.prog 68 parts = (fillA (fun i => ([(0, 1), (1, 1), (2, 1), (3, 1)] : List (Nat × Nat))[i]?) [Value.pointer none, Value.pointer none, Value.pointer none, Value.string ⟨#[]⟩] parts).map fun l => .agg l.toArray := build_struct zr68 (by kernel_rfl)
@[go_sem] theorem fo68_0 : fieldAddrA Try.prog 68 (.pointer (some ⟨b, o, none⟩)) 0 = some (.pointer (some ⟨b, o + 0, none⟩)) := by
  have h := (by kernel_rfl : (match Try.prog.underlying 68 with | some (.struct fs) => (fs[0]?).bind fun f => (sizeAt Try.prog f.type).map fun n => (f.offset, n) | _ => none) = some (0, 1))
  exact field_addr h rfl
@[go_sem] theorem fd68_0 {cs : List Value} : fieldA Try.prog 68 (.agg cs.toArray) 0 = cs[0]? := by
  have h := (by kernel_rfl : (match Try.prog.underlying 68 with | some (.struct fs) => (fs[0]?).map fun f => (f.offset, f.type) | _ => none) = some (0, 17))
  exact field_one h ag17 (by kernel_rfl)
@[go_sem] theorem fo68_1 : fieldAddrA Try.prog 68 (.pointer (some ⟨b, o, none⟩)) 1 = some (.pointer (some ⟨b, o + 1, none⟩)) := by
  have h := (by kernel_rfl : (match Try.prog.underlying 68 with | some (.struct fs) => (fs[1]?).bind fun f => (sizeAt Try.prog f.type).map fun n => (f.offset, n) | _ => none) = some (1, 1))
  exact field_addr h rfl
@[go_sem] theorem fd68_1 {cs : List Value} : fieldA Try.prog 68 (.agg cs.toArray) 1 = cs[1]? := by
  have h := (by kernel_rfl : (match Try.prog.underlying 68 with | some (.struct fs) => (fs[1]?).map fun f => (f.offset, f.type) | _ => none) = some (1, 17))
  exact field_one h ag17 (by kernel_rfl)
@[go_sem] theorem fo68_2 : fieldAddrA Try.prog 68 (.pointer (some ⟨b, o, none⟩)) 2 = some (.pointer (some ⟨b, o + 2, none⟩)) := by
  have h := (by kernel_rfl : (match Try.prog.underlying 68 with | some (.struct fs) => (fs[2]?).bind fun f => (sizeAt Try.prog f.type).map fun n => (f.offset, n) | _ => none) = some (2, 1))
  exact field_addr h rfl
@[go_sem] theorem fd68_2 {cs : List Value} : fieldA Try.prog 68 (.agg cs.toArray) 2 = cs[2]? := by
  have h := (by kernel_rfl : (match Try.prog.underlying 68 with | some (.struct fs) => (fs[2]?).map fun f => (f.offset, f.type) | _ => none) = some (2, 17))
  exact field_one h ag17 (by kernel_rfl)
@[go_sem] theorem fo68_3 : fieldAddrA Try.prog 68 (.pointer (some ⟨b, o, none⟩)) 3 = some (.pointer (some ⟨b, o + 3, none⟩)) := by
  have h := (by kernel_rfl : (match Try.prog.underlying 68 with | some (.struct fs) => (fs[3]?).bind fun f => (sizeAt Try.prog f.type).map fun n => (f.offset, n) | _ => none) = some (3, 1))
  exact field_addr h rfl
@[go_sem] theorem fd68_3 {cs : List Value} : fieldA Try.prog 68 (.agg cs.toArray) 3 = cs[3]? := by
  have h := (by kernel_rfl : (match Try.prog.underlying 68 with | some (.struct fs) => (fs[3]?).map fun f => (f.offset, f.type) | _ => none) = some (3, 9))
  exact field_one h ag9 (by kernel_rfl)
@[go_sem] theorem ld69 : loadA Try.prog 69 (.pointer (some ⟨b, o, none⟩)) H = rdN (H.get b) o 4 := load_many ag69 sz69
@[go_sem] theorem st69 {vs : List Value} (hl : vs.length = 4) : storeA Try.prog 69 (.pointer (some ⟨b, o, none⟩)) (.agg vs.toArray) H = wrN H (H.get b) b o vs := store_many sz69 hl
@[go_sem] theorem bd69 {parts : List (Nat × Value)} : buildA Try.prog 69 parts = (fillA (fun i => ([(0, 1), (1, 1), (2, 1), (3, 1)] : List (Nat × Nat))[i]?) [Value.pointer none, Value.pointer none, Value.pointer none, Value.string ⟨#[]⟩] parts).map fun l => .agg l.toArray := build_struct zr69 (by kernel_rfl)
@[go_sem] theorem fo69_0 : fieldAddrA Try.prog 69 (.pointer (some ⟨b, o, none⟩)) 0 = some (.pointer (some ⟨b, o + 0, none⟩)) := by
  have h := (by kernel_rfl : (match Try.prog.underlying 69 with | some (.struct fs) => (fs[0]?).bind fun f => (sizeAt Try.prog f.type).map fun n => (f.offset, n) | _ => none) = some (0, 1))
  exact field_addr h rfl
@[go_sem] theorem fd69_0 {cs : List Value} : fieldA Try.prog 69 (.agg cs.toArray) 0 = cs[0]? := by
  have h := (by kernel_rfl : (match Try.prog.underlying 69 with | some (.struct fs) => (fs[0]?).map fun f => (f.offset, f.type) | _ => none) = some (0, 17))
  exact field_one h ag17 (by kernel_rfl)
@[go_sem] theorem fo69_1 : fieldAddrA Try.prog 69 (.pointer (some ⟨b, o, none⟩)) 1 = some (.pointer (some ⟨b, o + 1, none⟩)) := by
  have h := (by kernel_rfl : (match Try.prog.underlying 69 with | some (.struct fs) => (fs[1]?).bind fun f => (sizeAt Try.prog f.type).map fun n => (f.offset, n) | _ => none) = some (1, 1))
  exact field_addr h rfl
@[go_sem] theorem fd69_1 {cs : List Value} : fieldA Try.prog 69 (.agg cs.toArray) 1 = cs[1]? := by
  have h := (by kernel_rfl : (match Try.prog.underlying 69 with | some (.struct fs) => (fs[1]?).map fun f => (f.offset, f.type) | _ => none) = some (1, 17))
  exact field_one h ag17 (by kernel_rfl)
@[go_sem] theorem fo69_2 : fieldAddrA Try.prog 69 (.pointer (some ⟨b, o, none⟩)) 2 = some (.pointer (some ⟨b, o + 2, none⟩)) := by
  have h := (by kernel_rfl : (match Try.prog.underlying 69 with | some (.struct fs) => (fs[2]?).bind fun f => (sizeAt Try.prog f.type).map fun n => (f.offset, n) | _ => none) = some (2, 1))
  exact field_addr h rfl
@[go_sem] theorem fd69_2 {cs : List Value} : fieldA Try.prog 69 (.agg cs.toArray) 2 = cs[2]? := by
  have h := (by kernel_rfl : (match Try.prog.underlying 69 with | some (.struct fs) => (fs[2]?).map fun f => (f.offset, f.type) | _ => none) = some (2, 17))
  exact field_one h ag17 (by kernel_rfl)
@[go_sem] theorem fo69_3 : fieldAddrA Try.prog 69 (.pointer (some ⟨b, o, none⟩)) 3 = some (.pointer (some ⟨b, o + 3, none⟩)) := by
  have h := (by kernel_rfl : (match Try.prog.underlying 69 with | some (.struct fs) => (fs[3]?).bind fun f => (sizeAt Try.prog f.type).map fun n => (f.offset, n) | _ => none) = some (3, 1))
  exact field_addr h rfl
@[go_sem] theorem fd69_3 {cs : List Value} : fieldA Try.prog 69 (.agg cs.toArray) 3 = cs[3]? := by
  have h := (by kernel_rfl : (match Try.prog.underlying 69 with | some (.struct fs) => (fs[3]?).map fun f => (f.offset, f.type) | _ => none) = some (3, 9))
  exact field_one h ag9 (by kernel_rfl)
@[go_sem] theorem ld70 : loadA Try.prog 70 (.pointer (some ⟨b, o, none⟩)) H = rdN (H.get b) o 0 := load_many ag70 sz70
@[go_sem] theorem st70 {vs : List Value} (hl : vs.length = 0) : storeA Try.prog 70 (.pointer (some ⟨b, o, none⟩)) (.agg vs.toArray) H = wrN H (H.get b) b o vs := store_many sz70 hl
@[go_sem] theorem ld71 : loadA Try.prog 71 (.pointer (some ⟨b, o, none⟩)) H = rdN (H.get b) o 0 := load_many ag71 sz71
@[go_sem] theorem st71 {vs : List Value} (hl : vs.length = 0) : storeA Try.prog 71 (.pointer (some ⟨b, o, none⟩)) (.agg vs.toArray) H = wrN H (H.get b) b o vs := store_many sz71 hl
@[go_sem] theorem ld72 : loadA Try.prog 72 (.pointer (some ⟨b, o, none⟩)) H = rdN (H.get b) o 0 := load_many ag72 sz72
@[go_sem] theorem st72 {vs : List Value} (hl : vs.length = 0) : storeA Try.prog 72 (.pointer (some ⟨b, o, none⟩)) (.agg vs.toArray) H = wrN H (H.get b) b o vs := store_many sz72 hl
@[go_sem] theorem ld73 : loadA Try.prog 73 (.pointer (some ⟨b, o, none⟩)) H = rd1 (H.get b) o := load_one ag73
@[go_sem] theorem st73 (hc : oneV v) : storeA Try.prog 73 (.pointer (some ⟨b, o, none⟩)) v H = wr1 H (H.get b) b o v := store_one sz73 hc
@[go_sem] theorem ld74 : loadA Try.prog 74 (.pointer (some ⟨b, o, none⟩)) H = rd1 (H.get b) o := load_one ag74
@[go_sem] theorem st74 (hc : oneV v) : storeA Try.prog 74 (.pointer (some ⟨b, o, none⟩)) v H = wr1 H (H.get b) b o v := store_one sz74 hc
@[go_sem] theorem ld75 : loadA Try.prog 75 (.pointer (some ⟨b, o, none⟩)) H = rd1 (H.get b) o := load_one ag75
@[go_sem] theorem st75 (hc : oneV v) : storeA Try.prog 75 (.pointer (some ⟨b, o, none⟩)) v H = wr1 H (H.get b) b o v := store_one sz75 hc
@[go_sem] theorem ld76 : loadA Try.prog 76 (.pointer (some ⟨b, o, none⟩)) H = rd1 (H.get b) o := load_one ag76
@[go_sem] theorem st76 (hc : oneV v) : storeA Try.prog 76 (.pointer (some ⟨b, o, none⟩)) v H = wr1 H (H.get b) b o v := store_one sz76 hc
@[go_sem] theorem ld77 : loadA Try.prog 77 (.pointer (some ⟨b, o, none⟩)) H = rd1 (H.get b) o := load_one ag77
@[go_sem] theorem st77 (hc : oneV v) : storeA Try.prog 77 (.pointer (some ⟨b, o, none⟩)) v H = wr1 H (H.get b) b o v := store_one sz77 hc
@[go_sem] theorem ld78 : loadA Try.prog 78 (.pointer (some ⟨b, o, none⟩)) H = rd1 (H.get b) o := load_one ag78
@[go_sem] theorem st78 (hc : oneV v) : storeA Try.prog 78 (.pointer (some ⟨b, o, none⟩)) v H = wr1 H (H.get b) b o v := store_one sz78 hc
@[go_sem] theorem ld79 : loadA Try.prog 79 (.pointer (some ⟨b, o, none⟩)) H = rd1 (H.get b) o := load_one ag79
@[go_sem] theorem st79 (hc : oneV v) : storeA Try.prog 79 (.pointer (some ⟨b, o, none⟩)) v H = wr1 H (H.get b) b o v := store_one sz79 hc
@[go_sem] theorem ld80 : loadA Try.prog 80 (.pointer (some ⟨b, o, none⟩)) H = rd1 (H.get b) o := load_one ag80
@[go_sem] theorem st80 (hc : oneV v) : storeA Try.prog 80 (.pointer (some ⟨b, o, none⟩)) v H = wr1 H (H.get b) b o v := store_one sz80 hc
@[go_sem] theorem ld81 : loadA Try.prog 81 (.pointer (some ⟨b, o, none⟩)) H = rdN (H.get b) o 11 := load_many ag81 sz81
@[go_sem] theorem st81 {vs : List Value} (hl : vs.length = 11) : storeA Try.prog 81 (.pointer (some ⟨b, o, none⟩)) (.agg vs.toArray) H = wrN H (H.get b) b o vs := store_many sz81 hl
@[go_sem] theorem bd81 {parts : List (Nat × Value)} : buildA Try.prog 81 parts = (fillA (fun i => ([(0, 1), (1, 1), (2, 1), (3, 1), (4, 1), (5, 1), (6, 1), (7, 1), (8, 1), (9, 1), (10, 1)] : List (Nat × Nat))[i]?) [Value.int IntKind.u64 0, Value.int IntKind.u64 0, Value.int IntKind.u32 0, Value.int IntKind.u8 0, Value.int IntKind.u8 0, Value.int IntKind.u8 0, Value.int IntKind.u8 0, Value.nilFunc, Value.pointer none, Value.int IntKind.i32 0, Value.int IntKind.i32 0] parts).map fun l => .agg l.toArray := build_struct zr81 (by kernel_rfl)
@[go_sem] theorem fo81_0 : fieldAddrA Try.prog 81 (.pointer (some ⟨b, o, none⟩)) 0 = some (.pointer (some ⟨b, o + 0, none⟩)) := by
  have h := (by kernel_rfl : (match Try.prog.underlying 81 with | some (.struct fs) => (fs[0]?).bind fun f => (sizeAt Try.prog f.type).map fun n => (f.offset, n) | _ => none) = some (0, 1))
  exact field_addr h rfl
@[go_sem] theorem fd81_0 {cs : List Value} : fieldA Try.prog 81 (.agg cs.toArray) 0 = cs[0]? := by
  have h := (by kernel_rfl : (match Try.prog.underlying 81 with | some (.struct fs) => (fs[0]?).map fun f => (f.offset, f.type) | _ => none) = some (0, 12))
  exact field_one h ag12 (by kernel_rfl)
@[go_sem] theorem fo81_1 : fieldAddrA Try.prog 81 (.pointer (some ⟨b, o, none⟩)) 1 = some (.pointer (some ⟨b, o + 1, none⟩)) := by
  have h := (by kernel_rfl : (match Try.prog.underlying 81 with | some (.struct fs) => (fs[1]?).bind fun f => (sizeAt Try.prog f.type).map fun n => (f.offset, n) | _ => none) = some (1, 1))
  exact field_addr h rfl
@[go_sem] theorem fd81_1 {cs : List Value} : fieldA Try.prog 81 (.agg cs.toArray) 1 = cs[1]? := by
  have h := (by kernel_rfl : (match Try.prog.underlying 81 with | some (.struct fs) => (fs[1]?).map fun f => (f.offset, f.type) | _ => none) = some (1, 12))
  exact field_one h ag12 (by kernel_rfl)
@[go_sem] theorem fo81_2 : fieldAddrA Try.prog 81 (.pointer (some ⟨b, o, none⟩)) 2 = some (.pointer (some ⟨b, o + 2, none⟩)) := by
  have h := (by kernel_rfl : (match Try.prog.underlying 81 with | some (.struct fs) => (fs[2]?).bind fun f => (sizeAt Try.prog f.type).map fun n => (f.offset, n) | _ => none) = some (2, 1))
  exact field_addr h rfl
@[go_sem] theorem fd81_2 {cs : List Value} : fieldA Try.prog 81 (.agg cs.toArray) 2 = cs[2]? := by
  have h := (by kernel_rfl : (match Try.prog.underlying 81 with | some (.struct fs) => (fs[2]?).map fun f => (f.offset, f.type) | _ => none) = some (2, 74))
  exact field_one h ag74 (by kernel_rfl)
@[go_sem] theorem fo81_3 : fieldAddrA Try.prog 81 (.pointer (some ⟨b, o, none⟩)) 3 = some (.pointer (some ⟨b, o + 3, none⟩)) := by
  have h := (by kernel_rfl : (match Try.prog.underlying 81 with | some (.struct fs) => (fs[3]?).bind fun f => (sizeAt Try.prog f.type).map fun n => (f.offset, n) | _ => none) = some (3, 1))
  exact field_addr h rfl
@[go_sem] theorem fd81_3 {cs : List Value} : fieldA Try.prog 81 (.agg cs.toArray) 3 = cs[3]? := by
  have h := (by kernel_rfl : (match Try.prog.underlying 81 with | some (.struct fs) => (fs[3]?).map fun f => (f.offset, f.type) | _ => none) = some (3, 75))
  exact field_one h ag75 (by kernel_rfl)
@[go_sem] theorem fo81_4 : fieldAddrA Try.prog 81 (.pointer (some ⟨b, o, none⟩)) 4 = some (.pointer (some ⟨b, o + 4, none⟩)) := by
  have h := (by kernel_rfl : (match Try.prog.underlying 81 with | some (.struct fs) => (fs[4]?).bind fun f => (sizeAt Try.prog f.type).map fun n => (f.offset, n) | _ => none) = some (4, 1))
  exact field_addr h rfl
@[go_sem] theorem fd81_4 {cs : List Value} : fieldA Try.prog 81 (.agg cs.toArray) 4 = cs[4]? := by
  have h := (by kernel_rfl : (match Try.prog.underlying 81 with | some (.struct fs) => (fs[4]?).map fun f => (f.offset, f.type) | _ => none) = some (4, 5))
  exact field_one h ag5 (by kernel_rfl)
@[go_sem] theorem fo81_5 : fieldAddrA Try.prog 81 (.pointer (some ⟨b, o, none⟩)) 5 = some (.pointer (some ⟨b, o + 5, none⟩)) := by
  have h := (by kernel_rfl : (match Try.prog.underlying 81 with | some (.struct fs) => (fs[5]?).bind fun f => (sizeAt Try.prog f.type).map fun n => (f.offset, n) | _ => none) = some (5, 1))
  exact field_addr h rfl
@[go_sem] theorem fd81_5 {cs : List Value} : fieldA Try.prog 81 (.agg cs.toArray) 5 = cs[5]? := by
  have h := (by kernel_rfl : (match Try.prog.underlying 81 with | some (.struct fs) => (fs[5]?).map fun f => (f.offset, f.type) | _ => none) = some (5, 5))
  exact field_one h ag5 (by kernel_rfl)
@[go_sem] theorem fo81_6 : fieldAddrA Try.prog 81 (.pointer (some ⟨b, o, none⟩)) 6 = some (.pointer (some ⟨b, o + 6, none⟩)) := by
  have h := (by kernel_rfl : (match Try.prog.underlying 81 with | some (.struct fs) => (fs[6]?).bind fun f => (sizeAt Try.prog f.type).map fun n => (f.offset, n) | _ => none) = some (6, 1))
  exact field_addr h rfl
@[go_sem] theorem fd81_6 {cs : List Value} : fieldA Try.prog 81 (.agg cs.toArray) 6 = cs[6]? := by
  have h := (by kernel_rfl : (match Try.prog.underlying 81 with | some (.struct fs) => (fs[6]?).map fun f => (f.offset, f.type) | _ => none) = some (6, 76))
  exact field_one h ag76 (by kernel_rfl)
@[go_sem] theorem fo81_7 : fieldAddrA Try.prog 81 (.pointer (some ⟨b, o, none⟩)) 7 = some (.pointer (some ⟨b, o + 7, none⟩)) := by
  have h := (by kernel_rfl : (match Try.prog.underlying 81 with | some (.struct fs) => (fs[7]?).bind fun f => (sizeAt Try.prog f.type).map fun n => (f.offset, n) | _ => none) = some (7, 1))
  exact field_addr h rfl
@[go_sem] theorem fd81_7 {cs : List Value} : fieldA Try.prog 81 (.agg cs.toArray) 7 = cs[7]? := by
  have h := (by kernel_rfl : (match Try.prog.underlying 81 with | some (.struct fs) => (fs[7]?).map fun f => (f.offset, f.type) | _ => none) = some (7, 77))
  exact field_one h ag77 (by kernel_rfl)
@[go_sem] theorem fo81_8 : fieldAddrA Try.prog 81 (.pointer (some ⟨b, o, none⟩)) 8 = some (.pointer (some ⟨b, o + 8, none⟩)) := by
  have h := (by kernel_rfl : (match Try.prog.underlying 81 with | some (.struct fs) => (fs[8]?).bind fun f => (sizeAt Try.prog f.type).map fun n => (f.offset, n) | _ => none) = some (8, 1))
  exact field_addr h rfl
@[go_sem] theorem fd81_8 {cs : List Value} : fieldA Try.prog 81 (.agg cs.toArray) 8 = cs[8]? := by
  have h := (by kernel_rfl : (match Try.prog.underlying 81 with | some (.struct fs) => (fs[8]?).map fun f => (f.offset, f.type) | _ => none) = some (8, 78))
  exact field_one h ag78 (by kernel_rfl)
@[go_sem] theorem fo81_9 : fieldAddrA Try.prog 81 (.pointer (some ⟨b, o, none⟩)) 9 = some (.pointer (some ⟨b, o + 9, none⟩)) := by
  have h := (by kernel_rfl : (match Try.prog.underlying 81 with | some (.struct fs) => (fs[9]?).bind fun f => (sizeAt Try.prog f.type).map fun n => (f.offset, n) | _ => none) = some (9, 1))
  exact field_addr h rfl
@[go_sem] theorem fd81_9 {cs : List Value} : fieldA Try.prog 81 (.agg cs.toArray) 9 = cs[9]? := by
  have h := (by kernel_rfl : (match Try.prog.underlying 81 with | some (.struct fs) => (fs[9]?).map fun f => (f.offset, f.type) | _ => none) = some (9, 79))
  exact field_one h ag79 (by kernel_rfl)
@[go_sem] theorem fo81_10 : fieldAddrA Try.prog 81 (.pointer (some ⟨b, o, none⟩)) 10 = some (.pointer (some ⟨b, o + 10, none⟩)) := by
  have h := (by kernel_rfl : (match Try.prog.underlying 81 with | some (.struct fs) => (fs[10]?).bind fun f => (sizeAt Try.prog f.type).map fun n => (f.offset, n) | _ => none) = some (10, 1))
  exact field_addr h rfl
@[go_sem] theorem fd81_10 {cs : List Value} : fieldA Try.prog 81 (.agg cs.toArray) 10 = cs[10]? := by
  have h := (by kernel_rfl : (match Try.prog.underlying 81 with | some (.struct fs) => (fs[10]?).map fun f => (f.offset, f.type) | _ => none) = some (10, 80))
  exact field_one h ag80 (by kernel_rfl)
@[go_sem] theorem ld82 : loadA Try.prog 82 (.pointer (some ⟨b, o, none⟩)) H = rdN (H.get b) o 11 := load_many ag82 sz82
@[go_sem] theorem st82 {vs : List Value} (hl : vs.length = 11) : storeA Try.prog 82 (.pointer (some ⟨b, o, none⟩)) (.agg vs.toArray) H = wrN H (H.get b) b o vs := store_many sz82 hl
@[go_sem] theorem bd82 {parts : List (Nat × Value)} : buildA Try.prog 82 parts = (fillA (fun i => ([(0, 1), (1, 1), (2, 1), (3, 1), (4, 1), (5, 1), (6, 1), (7, 1), (8, 1), (9, 1), (10, 1)] : List (Nat × Nat))[i]?) [Value.int IntKind.u64 0, Value.int IntKind.u64 0, Value.int IntKind.u32 0, Value.int IntKind.u8 0, Value.int IntKind.u8 0, Value.int IntKind.u8 0, Value.int IntKind.u8 0, Value.nilFunc, Value.pointer none, Value.int IntKind.i32 0, Value.int IntKind.i32 0] parts).map fun l => .agg l.toArray := build_struct zr82 (by kernel_rfl)
@[go_sem] theorem fo82_0 : fieldAddrA Try.prog 82 (.pointer (some ⟨b, o, none⟩)) 0 = some (.pointer (some ⟨b, o + 0, none⟩)) := by
  have h := (by kernel_rfl : (match Try.prog.underlying 82 with | some (.struct fs) => (fs[0]?).bind fun f => (sizeAt Try.prog f.type).map fun n => (f.offset, n) | _ => none) = some (0, 1))
  exact field_addr h rfl
@[go_sem] theorem fd82_0 {cs : List Value} : fieldA Try.prog 82 (.agg cs.toArray) 0 = cs[0]? := by
  have h := (by kernel_rfl : (match Try.prog.underlying 82 with | some (.struct fs) => (fs[0]?).map fun f => (f.offset, f.type) | _ => none) = some (0, 12))
  exact field_one h ag12 (by kernel_rfl)
@[go_sem] theorem fo82_1 : fieldAddrA Try.prog 82 (.pointer (some ⟨b, o, none⟩)) 1 = some (.pointer (some ⟨b, o + 1, none⟩)) := by
  have h := (by kernel_rfl : (match Try.prog.underlying 82 with | some (.struct fs) => (fs[1]?).bind fun f => (sizeAt Try.prog f.type).map fun n => (f.offset, n) | _ => none) = some (1, 1))
  exact field_addr h rfl
@[go_sem] theorem fd82_1 {cs : List Value} : fieldA Try.prog 82 (.agg cs.toArray) 1 = cs[1]? := by
  have h := (by kernel_rfl : (match Try.prog.underlying 82 with | some (.struct fs) => (fs[1]?).map fun f => (f.offset, f.type) | _ => none) = some (1, 12))
  exact field_one h ag12 (by kernel_rfl)
@[go_sem] theorem fo82_2 : fieldAddrA Try.prog 82 (.pointer (some ⟨b, o, none⟩)) 2 = some (.pointer (some ⟨b, o + 2, none⟩)) := by
  have h := (by kernel_rfl : (match Try.prog.underlying 82 with | some (.struct fs) => (fs[2]?).bind fun f => (sizeAt Try.prog f.type).map fun n => (f.offset, n) | _ => none) = some (2, 1))
  exact field_addr h rfl
@[go_sem] theorem fd82_2 {cs : List Value} : fieldA Try.prog 82 (.agg cs.toArray) 2 = cs[2]? := by
  have h := (by kernel_rfl : (match Try.prog.underlying 82 with | some (.struct fs) => (fs[2]?).map fun f => (f.offset, f.type) | _ => none) = some (2, 74))
  exact field_one h ag74 (by kernel_rfl)
@[go_sem] theorem fo82_3 : fieldAddrA Try.prog 82 (.pointer (some ⟨b, o, none⟩)) 3 = some (.pointer (some ⟨b, o + 3, none⟩)) := by
  have h := (by kernel_rfl : (match Try.prog.underlying 82 with | some (.struct fs) => (fs[3]?).bind fun f => (sizeAt Try.prog f.type).map fun n => (f.offset, n) | _ => none) = some (3, 1))
  exact field_addr h rfl
@[go_sem] theorem fd82_3 {cs : List Value} : fieldA Try.prog 82 (.agg cs.toArray) 3 = cs[3]? := by
  have h := (by kernel_rfl : (match Try.prog.underlying 82 with | some (.struct fs) => (fs[3]?).map fun f => (f.offset, f.type) | _ => none) = some (3, 75))
  exact field_one h ag75 (by kernel_rfl)
@[go_sem] theorem fo82_4 : fieldAddrA Try.prog 82 (.pointer (some ⟨b, o, none⟩)) 4 = some (.pointer (some ⟨b, o + 4, none⟩)) := by
  have h := (by kernel_rfl : (match Try.prog.underlying 82 with | some (.struct fs) => (fs[4]?).bind fun f => (sizeAt Try.prog f.type).map fun n => (f.offset, n) | _ => none) = some (4, 1))
  exact field_addr h rfl
@[go_sem] theorem fd82_4 {cs : List Value} : fieldA Try.prog 82 (.agg cs.toArray) 4 = cs[4]? := by
  have h := (by kernel_rfl : (match Try.prog.underlying 82 with | some (.struct fs) => (fs[4]?).map fun f => (f.offset, f.type) | _ => none) = some (4, 5))
  exact field_one h ag5 (by kernel_rfl)
@[go_sem] theorem fo82_5 : fieldAddrA Try.prog 82 (.pointer (some ⟨b, o, none⟩)) 5 = some (.pointer (some ⟨b, o + 5, none⟩)) := by
  have h := (by kernel_rfl : (match Try.prog.underlying 82 with | some (.struct fs) => (fs[5]?).bind fun f => (sizeAt Try.prog f.type).map fun n => (f.offset, n) | _ => none) = some (5, 1))
  exact field_addr h rfl
@[go_sem] theorem fd82_5 {cs : List Value} : fieldA Try.prog 82 (.agg cs.toArray) 5 = cs[5]? := by
  have h := (by kernel_rfl : (match Try.prog.underlying 82 with | some (.struct fs) => (fs[5]?).map fun f => (f.offset, f.type) | _ => none) = some (5, 5))
  exact field_one h ag5 (by kernel_rfl)
@[go_sem] theorem fo82_6 : fieldAddrA Try.prog 82 (.pointer (some ⟨b, o, none⟩)) 6 = some (.pointer (some ⟨b, o + 6, none⟩)) := by
  have h := (by kernel_rfl : (match Try.prog.underlying 82 with | some (.struct fs) => (fs[6]?).bind fun f => (sizeAt Try.prog f.type).map fun n => (f.offset, n) | _ => none) = some (6, 1))
  exact field_addr h rfl
@[go_sem] theorem fd82_6 {cs : List Value} : fieldA Try.prog 82 (.agg cs.toArray) 6 = cs[6]? := by
  have h := (by kernel_rfl : (match Try.prog.underlying 82 with | some (.struct fs) => (fs[6]?).map fun f => (f.offset, f.type) | _ => none) = some (6, 76))
  exact field_one h ag76 (by kernel_rfl)
@[go_sem] theorem fo82_7 : fieldAddrA Try.prog 82 (.pointer (some ⟨b, o, none⟩)) 7 = some (.pointer (some ⟨b, o + 7, none⟩)) := by
  have h := (by kernel_rfl : (match Try.prog.underlying 82 with | some (.struct fs) => (fs[7]?).bind fun f => (sizeAt Try.prog f.type).map fun n => (f.offset, n) | _ => none) = some (7, 1))
  exact field_addr h rfl
@[go_sem] theorem fd82_7 {cs : List Value} : fieldA Try.prog 82 (.agg cs.toArray) 7 = cs[7]? := by
  have h := (by kernel_rfl : (match Try.prog.underlying 82 with | some (.struct fs) => (fs[7]?).map fun f => (f.offset, f.type) | _ => none) = some (7, 77))
  exact field_one h ag77 (by kernel_rfl)
@[go_sem] theorem fo82_8 : fieldAddrA Try.prog 82 (.pointer (some ⟨b, o, none⟩)) 8 = some (.pointer (some ⟨b, o + 8, none⟩)) := by
  have h := (by kernel_rfl : (match Try.prog.underlying 82 with | some (.struct fs) => (fs[8]?).bind fun f => (sizeAt Try.prog f.type).map fun n => (f.offset, n) | _ => none) = some (8, 1))
  exact field_addr h rfl
@[go_sem] theorem fd82_8 {cs : List Value} : fieldA Try.prog 82 (.agg cs.toArray) 8 = cs[8]? := by
  have h := (by kernel_rfl : (match Try.prog.underlying 82 with | some (.struct fs) => (fs[8]?).map fun f => (f.offset, f.type) | _ => none) = some (8, 78))
  exact field_one h ag78 (by kernel_rfl)
@[go_sem] theorem fo82_9 : fieldAddrA Try.prog 82 (.pointer (some ⟨b, o, none⟩)) 9 = some (.pointer (some ⟨b, o + 9, none⟩)) := by
  have h := (by kernel_rfl : (match Try.prog.underlying 82 with | some (.struct fs) => (fs[9]?).bind fun f => (sizeAt Try.prog f.type).map fun n => (f.offset, n) | _ => none) = some (9, 1))
  exact field_addr h rfl
@[go_sem] theorem fd82_9 {cs : List Value} : fieldA Try.prog 82 (.agg cs.toArray) 9 = cs[9]? := by
  have h := (by kernel_rfl : (match Try.prog.underlying 82 with | some (.struct fs) => (fs[9]?).map fun f => (f.offset, f.type) | _ => none) = some (9, 79))
  exact field_one h ag79 (by kernel_rfl)
@[go_sem] theorem fo82_10 : fieldAddrA Try.prog 82 (.pointer (some ⟨b, o, none⟩)) 10 = some (.pointer (some ⟨b, o + 10, none⟩)) := by
  have h := (by kernel_rfl : (match Try.prog.underlying 82 with | some (.struct fs) => (fs[10]?).bind fun f => (sizeAt Try.prog f.type).map fun n => (f.offset, n) | _ => none) = some (10, 1))
  exact field_addr h rfl
@[go_sem] theorem fd82_10 {cs : List Value} : fieldA Try.prog 82 (.agg cs.toArray) 10 = cs[10]? := by
  have h := (by kernel_rfl : (match Try.prog.underlying 82 with | some (.struct fs) => (fs[10]?).map fun f => (f.offset, f.type) | _ => none) = some (10, 80))
  exact field_one h ag80 (by kernel_rfl)
@[go_sem] theorem ld83 : loadA Try.prog 83 (.pointer (some ⟨b, o, none⟩)) H = rd1 (H.get b) o := load_one ag83
@[go_sem] theorem st83 (hc : oneV v) : storeA Try.prog 83 (.pointer (some ⟨b, o, none⟩)) v H = wr1 H (H.get b) b o v := store_one sz83 hc
@[go_sem] theorem cv2_2 : evConv Try.prog 2 2 (.int .i64 i) H = some (.val (.int .i64 (IntKind.i64.wrap i)) H) := conv_int Try.underlying2 Try.underlying2
@[go_sem] theorem cv2_3 : evConv Try.prog 2 3 (.int .i64 i) H = some (.val (.int .i64 (IntKind.i64.wrap i)) H) := conv_int Try.underlying2 Try.underlying3
@[go_sem] theorem cv2_5 : evConv Try.prog 2 5 (.int .i64 i) H = some (.val (.int .u8 (IntKind.u8.wrap i)) H) := conv_int Try.underlying2 Try.underlying5
@[go_sem] theorem cv2_6 : evConv Try.prog 2 6 (.int .i64 i) H = some (.val (.int .u8 (IntKind.u8.wrap i)) H) := conv_int Try.underlying2 Try.underlying6
@[go_sem] theorem cv2_12 : evConv Try.prog 2 12 (.int .i64 i) H = some (.val (.int .u64 (IntKind.u64.wrap i)) H) := conv_int Try.underlying2 Try.underlying12
@[go_sem] theorem cv2_21 : evConv Try.prog 2 21 (.int .i64 i) H = some (.val (.int .i32 (IntKind.i32.wrap i)) H) := conv_int Try.underlying2 Try.underlying21
@[go_sem] theorem cv2_55 : evConv Try.prog 2 55 (.int .i64 i) H = some (.val (.int .u64 (IntKind.u64.wrap i)) H) := conv_int Try.underlying2 Try.underlying55
@[go_sem] theorem cv2_74 : evConv Try.prog 2 74 (.int .i64 i) H = some (.val (.int .u32 (IntKind.u32.wrap i)) H) := conv_int Try.underlying2 Try.underlying74
@[go_sem] theorem cv2_75 : evConv Try.prog 2 75 (.int .i64 i) H = some (.val (.int .u8 (IntKind.u8.wrap i)) H) := conv_int Try.underlying2 Try.underlying75
@[go_sem] theorem cv2_76 : evConv Try.prog 2 76 (.int .i64 i) H = some (.val (.int .u8 (IntKind.u8.wrap i)) H) := conv_int Try.underlying2 Try.underlying76
@[go_sem] theorem cv2_79 : evConv Try.prog 2 79 (.int .i64 i) H = some (.val (.int .i32 (IntKind.i32.wrap i)) H) := conv_int Try.underlying2 Try.underlying79
@[go_sem] theorem cv2_80 : evConv Try.prog 2 80 (.int .i64 i) H = some (.val (.int .i32 (IntKind.i32.wrap i)) H) := conv_int Try.underlying2 Try.underlying80
@[go_sem] theorem cv3_2 : evConv Try.prog 3 2 (.int .i64 i) H = some (.val (.int .i64 (IntKind.i64.wrap i)) H) := conv_int Try.underlying3 Try.underlying2
@[go_sem] theorem cv3_3 : evConv Try.prog 3 3 (.int .i64 i) H = some (.val (.int .i64 (IntKind.i64.wrap i)) H) := conv_int Try.underlying3 Try.underlying3
@[go_sem] theorem cv3_5 : evConv Try.prog 3 5 (.int .i64 i) H = some (.val (.int .u8 (IntKind.u8.wrap i)) H) := conv_int Try.underlying3 Try.underlying5
@[go_sem] theorem cv3_6 : evConv Try.prog 3 6 (.int .i64 i) H = some (.val (.int .u8 (IntKind.u8.wrap i)) H) := conv_int Try.underlying3 Try.underlying6
@[go_sem] theorem cv3_12 : evConv Try.prog 3 12 (.int .i64 i) H = some (.val (.int .u64 (IntKind.u64.wrap i)) H) := conv_int Try.underlying3 Try.underlying12
@[go_sem] theorem cv3_21 : evConv Try.prog 3 21 (.int .i64 i) H = some (.val (.int .i32 (IntKind.i32.wrap i)) H) := conv_int Try.underlying3 Try.underlying21
@[go_sem] theorem cv3_55 : evConv Try.prog 3 55 (.int .i64 i) H = some (.val (.int .u64 (IntKind.u64.wrap i)) H) := conv_int Try.underlying3 Try.underlying55
@[go_sem] theorem cv3_74 : evConv Try.prog 3 74 (.int .i64 i) H = some (.val (.int .u32 (IntKind.u32.wrap i)) H) := conv_int Try.underlying3 Try.underlying74
@[go_sem] theorem cv3_75 : evConv Try.prog 3 75 (.int .i64 i) H = some (.val (.int .u8 (IntKind.u8.wrap i)) H) := conv_int Try.underlying3 Try.underlying75
@[go_sem] theorem cv3_76 : evConv Try.prog 3 76 (.int .i64 i) H = some (.val (.int .u8 (IntKind.u8.wrap i)) H) := conv_int Try.underlying3 Try.underlying76
@[go_sem] theorem cv3_79 : evConv Try.prog 3 79 (.int .i64 i) H = some (.val (.int .i32 (IntKind.i32.wrap i)) H) := conv_int Try.underlying3 Try.underlying79
@[go_sem] theorem cv3_80 : evConv Try.prog 3 80 (.int .i64 i) H = some (.val (.int .i32 (IntKind.i32.wrap i)) H) := conv_int Try.underlying3 Try.underlying80
@[go_sem] theorem cv5_2 : evConv Try.prog 5 2 (.int .u8 i) H = some (.val (.int .i64 (IntKind.i64.wrap i)) H) := conv_int Try.underlying5 Try.underlying2
@[go_sem] theorem cv5_3 : evConv Try.prog 5 3 (.int .u8 i) H = some (.val (.int .i64 (IntKind.i64.wrap i)) H) := conv_int Try.underlying5 Try.underlying3
@[go_sem] theorem cv5_5 : evConv Try.prog 5 5 (.int .u8 i) H = some (.val (.int .u8 (IntKind.u8.wrap i)) H) := conv_int Try.underlying5 Try.underlying5
@[go_sem] theorem cv5_6 : evConv Try.prog 5 6 (.int .u8 i) H = some (.val (.int .u8 (IntKind.u8.wrap i)) H) := conv_int Try.underlying5 Try.underlying6
@[go_sem] theorem cv5_12 : evConv Try.prog 5 12 (.int .u8 i) H = some (.val (.int .u64 (IntKind.u64.wrap i)) H) := conv_int Try.underlying5 Try.underlying12
@[go_sem] theorem cv5_21 : evConv Try.prog 5 21 (.int .u8 i) H = some (.val (.int .i32 (IntKind.i32.wrap i)) H) := conv_int Try.underlying5 Try.underlying21
@[go_sem] theorem cv5_55 : evConv Try.prog 5 55 (.int .u8 i) H = some (.val (.int .u64 (IntKind.u64.wrap i)) H) := conv_int Try.underlying5 Try.underlying55
@[go_sem] theorem cv5_74 : evConv Try.prog 5 74 (.int .u8 i) H = some (.val (.int .u32 (IntKind.u32.wrap i)) H) := conv_int Try.underlying5 Try.underlying74
@[go_sem] theorem cv5_75 : evConv Try.prog 5 75 (.int .u8 i) H = some (.val (.int .u8 (IntKind.u8.wrap i)) H) := conv_int Try.underlying5 Try.underlying75
@[go_sem] theorem cv5_76 : evConv Try.prog 5 76 (.int .u8 i) H = some (.val (.int .u8 (IntKind.u8.wrap i)) H) := conv_int Try.underlying5 Try.underlying76
@[go_sem] theorem cv5_79 : evConv Try.prog 5 79 (.int .u8 i) H = some (.val (.int .i32 (IntKind.i32.wrap i)) H) := conv_int Try.underlying5 Try.underlying79
@[go_sem] theorem cv5_80 : evConv Try.prog 5 80 (.int .u8 i) H = some (.val (.int .i32 (IntKind.i32.wrap i)) H) := conv_int Try.underlying5 Try.underlying80
@[go_sem] theorem cv6_2 : evConv Try.prog 6 2 (.int .u8 i) H = some (.val (.int .i64 (IntKind.i64.wrap i)) H) := conv_int Try.underlying6 Try.underlying2
@[go_sem] theorem cv6_3 : evConv Try.prog 6 3 (.int .u8 i) H = some (.val (.int .i64 (IntKind.i64.wrap i)) H) := conv_int Try.underlying6 Try.underlying3
@[go_sem] theorem cv6_5 : evConv Try.prog 6 5 (.int .u8 i) H = some (.val (.int .u8 (IntKind.u8.wrap i)) H) := conv_int Try.underlying6 Try.underlying5
@[go_sem] theorem cv6_6 : evConv Try.prog 6 6 (.int .u8 i) H = some (.val (.int .u8 (IntKind.u8.wrap i)) H) := conv_int Try.underlying6 Try.underlying6
@[go_sem] theorem cv6_12 : evConv Try.prog 6 12 (.int .u8 i) H = some (.val (.int .u64 (IntKind.u64.wrap i)) H) := conv_int Try.underlying6 Try.underlying12
@[go_sem] theorem cv6_21 : evConv Try.prog 6 21 (.int .u8 i) H = some (.val (.int .i32 (IntKind.i32.wrap i)) H) := conv_int Try.underlying6 Try.underlying21
@[go_sem] theorem cv6_55 : evConv Try.prog 6 55 (.int .u8 i) H = some (.val (.int .u64 (IntKind.u64.wrap i)) H) := conv_int Try.underlying6 Try.underlying55
@[go_sem] theorem cv6_74 : evConv Try.prog 6 74 (.int .u8 i) H = some (.val (.int .u32 (IntKind.u32.wrap i)) H) := conv_int Try.underlying6 Try.underlying74
@[go_sem] theorem cv6_75 : evConv Try.prog 6 75 (.int .u8 i) H = some (.val (.int .u8 (IntKind.u8.wrap i)) H) := conv_int Try.underlying6 Try.underlying75
@[go_sem] theorem cv6_76 : evConv Try.prog 6 76 (.int .u8 i) H = some (.val (.int .u8 (IntKind.u8.wrap i)) H) := conv_int Try.underlying6 Try.underlying76
@[go_sem] theorem cv6_79 : evConv Try.prog 6 79 (.int .u8 i) H = some (.val (.int .i32 (IntKind.i32.wrap i)) H) := conv_int Try.underlying6 Try.underlying79
@[go_sem] theorem cv6_80 : evConv Try.prog 6 80 (.int .u8 i) H = some (.val (.int .i32 (IntKind.i32.wrap i)) H) := conv_int Try.underlying6 Try.underlying80
@[go_sem] theorem cv12_2 : evConv Try.prog 12 2 (.int .u64 i) H = some (.val (.int .i64 (IntKind.i64.wrap i)) H) := conv_int Try.underlying12 Try.underlying2
@[go_sem] theorem cv12_3 : evConv Try.prog 12 3 (.int .u64 i) H = some (.val (.int .i64 (IntKind.i64.wrap i)) H) := conv_int Try.underlying12 Try.underlying3
@[go_sem] theorem cv12_5 : evConv Try.prog 12 5 (.int .u64 i) H = some (.val (.int .u8 (IntKind.u8.wrap i)) H) := conv_int Try.underlying12 Try.underlying5
@[go_sem] theorem cv12_6 : evConv Try.prog 12 6 (.int .u64 i) H = some (.val (.int .u8 (IntKind.u8.wrap i)) H) := conv_int Try.underlying12 Try.underlying6
@[go_sem] theorem cv12_12 : evConv Try.prog 12 12 (.int .u64 i) H = some (.val (.int .u64 (IntKind.u64.wrap i)) H) := conv_int Try.underlying12 Try.underlying12
@[go_sem] theorem cv12_21 : evConv Try.prog 12 21 (.int .u64 i) H = some (.val (.int .i32 (IntKind.i32.wrap i)) H) := conv_int Try.underlying12 Try.underlying21
@[go_sem] theorem cv12_55 : evConv Try.prog 12 55 (.int .u64 i) H = some (.val (.int .u64 (IntKind.u64.wrap i)) H) := conv_int Try.underlying12 Try.underlying55
@[go_sem] theorem cv12_74 : evConv Try.prog 12 74 (.int .u64 i) H = some (.val (.int .u32 (IntKind.u32.wrap i)) H) := conv_int Try.underlying12 Try.underlying74
@[go_sem] theorem cv12_75 : evConv Try.prog 12 75 (.int .u64 i) H = some (.val (.int .u8 (IntKind.u8.wrap i)) H) := conv_int Try.underlying12 Try.underlying75
@[go_sem] theorem cv12_76 : evConv Try.prog 12 76 (.int .u64 i) H = some (.val (.int .u8 (IntKind.u8.wrap i)) H) := conv_int Try.underlying12 Try.underlying76
@[go_sem] theorem cv12_79 : evConv Try.prog 12 79 (.int .u64 i) H = some (.val (.int .i32 (IntKind.i32.wrap i)) H) := conv_int Try.underlying12 Try.underlying79
@[go_sem] theorem cv12_80 : evConv Try.prog 12 80 (.int .u64 i) H = some (.val (.int .i32 (IntKind.i32.wrap i)) H) := conv_int Try.underlying12 Try.underlying80
@[go_sem] theorem cv21_2 : evConv Try.prog 21 2 (.int .i32 i) H = some (.val (.int .i64 (IntKind.i64.wrap i)) H) := conv_int Try.underlying21 Try.underlying2
@[go_sem] theorem cv21_3 : evConv Try.prog 21 3 (.int .i32 i) H = some (.val (.int .i64 (IntKind.i64.wrap i)) H) := conv_int Try.underlying21 Try.underlying3
@[go_sem] theorem cv21_5 : evConv Try.prog 21 5 (.int .i32 i) H = some (.val (.int .u8 (IntKind.u8.wrap i)) H) := conv_int Try.underlying21 Try.underlying5
@[go_sem] theorem cv21_6 : evConv Try.prog 21 6 (.int .i32 i) H = some (.val (.int .u8 (IntKind.u8.wrap i)) H) := conv_int Try.underlying21 Try.underlying6
@[go_sem] theorem cv21_12 : evConv Try.prog 21 12 (.int .i32 i) H = some (.val (.int .u64 (IntKind.u64.wrap i)) H) := conv_int Try.underlying21 Try.underlying12
@[go_sem] theorem cv21_21 : evConv Try.prog 21 21 (.int .i32 i) H = some (.val (.int .i32 (IntKind.i32.wrap i)) H) := conv_int Try.underlying21 Try.underlying21
@[go_sem] theorem cv21_55 : evConv Try.prog 21 55 (.int .i32 i) H = some (.val (.int .u64 (IntKind.u64.wrap i)) H) := conv_int Try.underlying21 Try.underlying55
@[go_sem] theorem cv21_74 : evConv Try.prog 21 74 (.int .i32 i) H = some (.val (.int .u32 (IntKind.u32.wrap i)) H) := conv_int Try.underlying21 Try.underlying74
@[go_sem] theorem cv21_75 : evConv Try.prog 21 75 (.int .i32 i) H = some (.val (.int .u8 (IntKind.u8.wrap i)) H) := conv_int Try.underlying21 Try.underlying75
@[go_sem] theorem cv21_76 : evConv Try.prog 21 76 (.int .i32 i) H = some (.val (.int .u8 (IntKind.u8.wrap i)) H) := conv_int Try.underlying21 Try.underlying76
@[go_sem] theorem cv21_79 : evConv Try.prog 21 79 (.int .i32 i) H = some (.val (.int .i32 (IntKind.i32.wrap i)) H) := conv_int Try.underlying21 Try.underlying79
@[go_sem] theorem cv21_80 : evConv Try.prog 21 80 (.int .i32 i) H = some (.val (.int .i32 (IntKind.i32.wrap i)) H) := conv_int Try.underlying21 Try.underlying80
@[go_sem] theorem cv55_2 : evConv Try.prog 55 2 (.int .u64 i) H = some (.val (.int .i64 (IntKind.i64.wrap i)) H) := conv_int Try.underlying55 Try.underlying2
@[go_sem] theorem cv55_3 : evConv Try.prog 55 3 (.int .u64 i) H = some (.val (.int .i64 (IntKind.i64.wrap i)) H) := conv_int Try.underlying55 Try.underlying3
@[go_sem] theorem cv55_5 : evConv Try.prog 55 5 (.int .u64 i) H = some (.val (.int .u8 (IntKind.u8.wrap i)) H) := conv_int Try.underlying55 Try.underlying5
@[go_sem] theorem cv55_6 : evConv Try.prog 55 6 (.int .u64 i) H = some (.val (.int .u8 (IntKind.u8.wrap i)) H) := conv_int Try.underlying55 Try.underlying6
@[go_sem] theorem cv55_12 : evConv Try.prog 55 12 (.int .u64 i) H = some (.val (.int .u64 (IntKind.u64.wrap i)) H) := conv_int Try.underlying55 Try.underlying12
@[go_sem] theorem cv55_21 : evConv Try.prog 55 21 (.int .u64 i) H = some (.val (.int .i32 (IntKind.i32.wrap i)) H) := conv_int Try.underlying55 Try.underlying21
@[go_sem] theorem cv55_55 : evConv Try.prog 55 55 (.int .u64 i) H = some (.val (.int .u64 (IntKind.u64.wrap i)) H) := conv_int Try.underlying55 Try.underlying55
@[go_sem] theorem cv55_74 : evConv Try.prog 55 74 (.int .u64 i) H = some (.val (.int .u32 (IntKind.u32.wrap i)) H) := conv_int Try.underlying55 Try.underlying74
@[go_sem] theorem cv55_75 : evConv Try.prog 55 75 (.int .u64 i) H = some (.val (.int .u8 (IntKind.u8.wrap i)) H) := conv_int Try.underlying55 Try.underlying75
@[go_sem] theorem cv55_76 : evConv Try.prog 55 76 (.int .u64 i) H = some (.val (.int .u8 (IntKind.u8.wrap i)) H) := conv_int Try.underlying55 Try.underlying76
@[go_sem] theorem cv55_79 : evConv Try.prog 55 79 (.int .u64 i) H = some (.val (.int .i32 (IntKind.i32.wrap i)) H) := conv_int Try.underlying55 Try.underlying79
@[go_sem] theorem cv55_80 : evConv Try.prog 55 80 (.int .u64 i) H = some (.val (.int .i32 (IntKind.i32.wrap i)) H) := conv_int Try.underlying55 Try.underlying80
@[go_sem] theorem cv74_2 : evConv Try.prog 74 2 (.int .u32 i) H = some (.val (.int .i64 (IntKind.i64.wrap i)) H) := conv_int Try.underlying74 Try.underlying2
@[go_sem] theorem cv74_3 : evConv Try.prog 74 3 (.int .u32 i) H = some (.val (.int .i64 (IntKind.i64.wrap i)) H) := conv_int Try.underlying74 Try.underlying3
@[go_sem] theorem cv74_5 : evConv Try.prog 74 5 (.int .u32 i) H = some (.val (.int .u8 (IntKind.u8.wrap i)) H) := conv_int Try.underlying74 Try.underlying5
@[go_sem] theorem cv74_6 : evConv Try.prog 74 6 (.int .u32 i) H = some (.val (.int .u8 (IntKind.u8.wrap i)) H) := conv_int Try.underlying74 Try.underlying6
@[go_sem] theorem cv74_12 : evConv Try.prog 74 12 (.int .u32 i) H = some (.val (.int .u64 (IntKind.u64.wrap i)) H) := conv_int Try.underlying74 Try.underlying12
@[go_sem] theorem cv74_21 : evConv Try.prog 74 21 (.int .u32 i) H = some (.val (.int .i32 (IntKind.i32.wrap i)) H) := conv_int Try.underlying74 Try.underlying21
@[go_sem] theorem cv74_55 : evConv Try.prog 74 55 (.int .u32 i) H = some (.val (.int .u64 (IntKind.u64.wrap i)) H) := conv_int Try.underlying74 Try.underlying55
@[go_sem] theorem cv74_74 : evConv Try.prog 74 74 (.int .u32 i) H = some (.val (.int .u32 (IntKind.u32.wrap i)) H) := conv_int Try.underlying74 Try.underlying74
@[go_sem] theorem cv74_75 : evConv Try.prog 74 75 (.int .u32 i) H = some (.val (.int .u8 (IntKind.u8.wrap i)) H) := conv_int Try.underlying74 Try.underlying75
@[go_sem] theorem cv74_76 : evConv Try.prog 74 76 (.int .u32 i) H = some (.val (.int .u8 (IntKind.u8.wrap i)) H) := conv_int Try.underlying74 Try.underlying76
@[go_sem] theorem cv74_79 : evConv Try.prog 74 79 (.int .u32 i) H = some (.val (.int .i32 (IntKind.i32.wrap i)) H) := conv_int Try.underlying74 Try.underlying79
@[go_sem] theorem cv74_80 : evConv Try.prog 74 80 (.int .u32 i) H = some (.val (.int .i32 (IntKind.i32.wrap i)) H) := conv_int Try.underlying74 Try.underlying80
@[go_sem] theorem cv75_2 : evConv Try.prog 75 2 (.int .u8 i) H = some (.val (.int .i64 (IntKind.i64.wrap i)) H) := conv_int Try.underlying75 Try.underlying2
@[go_sem] theorem cv75_3 : evConv Try.prog 75 3 (.int .u8 i) H = some (.val (.int .i64 (IntKind.i64.wrap i)) H) := conv_int Try.underlying75 Try.underlying3
@[go_sem] theorem cv75_5 : evConv Try.prog 75 5 (.int .u8 i) H = some (.val (.int .u8 (IntKind.u8.wrap i)) H) := conv_int Try.underlying75 Try.underlying5
@[go_sem] theorem cv75_6 : evConv Try.prog 75 6 (.int .u8 i) H = some (.val (.int .u8 (IntKind.u8.wrap i)) H) := conv_int Try.underlying75 Try.underlying6
@[go_sem] theorem cv75_12 : evConv Try.prog 75 12 (.int .u8 i) H = some (.val (.int .u64 (IntKind.u64.wrap i)) H) := conv_int Try.underlying75 Try.underlying12
@[go_sem] theorem cv75_21 : evConv Try.prog 75 21 (.int .u8 i) H = some (.val (.int .i32 (IntKind.i32.wrap i)) H) := conv_int Try.underlying75 Try.underlying21
@[go_sem] theorem cv75_55 : evConv Try.prog 75 55 (.int .u8 i) H = some (.val (.int .u64 (IntKind.u64.wrap i)) H) := conv_int Try.underlying75 Try.underlying55
@[go_sem] theorem cv75_74 : evConv Try.prog 75 74 (.int .u8 i) H = some (.val (.int .u32 (IntKind.u32.wrap i)) H) := conv_int Try.underlying75 Try.underlying74
@[go_sem] theorem cv75_75 : evConv Try.prog 75 75 (.int .u8 i) H = some (.val (.int .u8 (IntKind.u8.wrap i)) H) := conv_int Try.underlying75 Try.underlying75
@[go_sem] theorem cv75_76 : evConv Try.prog 75 76 (.int .u8 i) H = some (.val (.int .u8 (IntKind.u8.wrap i)) H) := conv_int Try.underlying75 Try.underlying76
@[go_sem] theorem cv75_79 : evConv Try.prog 75 79 (.int .u8 i) H = some (.val (.int .i32 (IntKind.i32.wrap i)) H) := conv_int Try.underlying75 Try.underlying79
@[go_sem] theorem cv75_80 : evConv Try.prog 75 80 (.int .u8 i) H = some (.val (.int .i32 (IntKind.i32.wrap i)) H) := conv_int Try.underlying75 Try.underlying80
@[go_sem] theorem cv76_2 : evConv Try.prog 76 2 (.int .u8 i) H = some (.val (.int .i64 (IntKind.i64.wrap i)) H) := conv_int Try.underlying76 Try.underlying2
@[go_sem] theorem cv76_3 : evConv Try.prog 76 3 (.int .u8 i) H = some (.val (.int .i64 (IntKind.i64.wrap i)) H) := conv_int Try.underlying76 Try.underlying3
@[go_sem] theorem cv76_5 : evConv Try.prog 76 5 (.int .u8 i) H = some (.val (.int .u8 (IntKind.u8.wrap i)) H) := conv_int Try.underlying76 Try.underlying5
@[go_sem] theorem cv76_6 : evConv Try.prog 76 6 (.int .u8 i) H = some (.val (.int .u8 (IntKind.u8.wrap i)) H) := conv_int Try.underlying76 Try.underlying6
@[go_sem] theorem cv76_12 : evConv Try.prog 76 12 (.int .u8 i) H = some (.val (.int .u64 (IntKind.u64.wrap i)) H) := conv_int Try.underlying76 Try.underlying12
@[go_sem] theorem cv76_21 : evConv Try.prog 76 21 (.int .u8 i) H = some (.val (.int .i32 (IntKind.i32.wrap i)) H) := conv_int Try.underlying76 Try.underlying21
@[go_sem] theorem cv76_55 : evConv Try.prog 76 55 (.int .u8 i) H = some (.val (.int .u64 (IntKind.u64.wrap i)) H) := conv_int Try.underlying76 Try.underlying55
@[go_sem] theorem cv76_74 : evConv Try.prog 76 74 (.int .u8 i) H = some (.val (.int .u32 (IntKind.u32.wrap i)) H) := conv_int Try.underlying76 Try.underlying74
@[go_sem] theorem cv76_75 : evConv Try.prog 76 75 (.int .u8 i) H = some (.val (.int .u8 (IntKind.u8.wrap i)) H) := conv_int Try.underlying76 Try.underlying75
@[go_sem] theorem cv76_76 : evConv Try.prog 76 76 (.int .u8 i) H = some (.val (.int .u8 (IntKind.u8.wrap i)) H) := conv_int Try.underlying76 Try.underlying76
@[go_sem] theorem cv76_79 : evConv Try.prog 76 79 (.int .u8 i) H = some (.val (.int .i32 (IntKind.i32.wrap i)) H) := conv_int Try.underlying76 Try.underlying79
@[go_sem] theorem cv76_80 : evConv Try.prog 76 80 (.int .u8 i) H = some (.val (.int .i32 (IntKind.i32.wrap i)) H) := conv_int Try.underlying76 Try.underlying80
@[go_sem] theorem cv79_2 : evConv Try.prog 79 2 (.int .i32 i) H = some (.val (.int .i64 (IntKind.i64.wrap i)) H) := conv_int Try.underlying79 Try.underlying2
@[go_sem] theorem cv79_3 : evConv Try.prog 79 3 (.int .i32 i) H = some (.val (.int .i64 (IntKind.i64.wrap i)) H) := conv_int Try.underlying79 Try.underlying3
@[go_sem] theorem cv79_5 : evConv Try.prog 79 5 (.int .i32 i) H = some (.val (.int .u8 (IntKind.u8.wrap i)) H) := conv_int Try.underlying79 Try.underlying5
@[go_sem] theorem cv79_6 : evConv Try.prog 79 6 (.int .i32 i) H = some (.val (.int .u8 (IntKind.u8.wrap i)) H) := conv_int Try.underlying79 Try.underlying6
@[go_sem] theorem cv79_12 : evConv Try.prog 79 12 (.int .i32 i) H = some (.val (.int .u64 (IntKind.u64.wrap i)) H) := conv_int Try.underlying79 Try.underlying12
@[go_sem] theorem cv79_21 : evConv Try.prog 79 21 (.int .i32 i) H = some (.val (.int .i32 (IntKind.i32.wrap i)) H) := conv_int Try.underlying79 Try.underlying21
@[go_sem] theorem cv79_55 : evConv Try.prog 79 55 (.int .i32 i) H = some (.val (.int .u64 (IntKind.u64.wrap i)) H) := conv_int Try.underlying79 Try.underlying55
@[go_sem] theorem cv79_74 : evConv Try.prog 79 74 (.int .i32 i) H = some (.val (.int .u32 (IntKind.u32.wrap i)) H) := conv_int Try.underlying79 Try.underlying74
@[go_sem] theorem cv79_75 : evConv Try.prog 79 75 (.int .i32 i) H = some (.val (.int .u8 (IntKind.u8.wrap i)) H) := conv_int Try.underlying79 Try.underlying75
@[go_sem] theorem cv79_76 : evConv Try.prog 79 76 (.int .i32 i) H = some (.val (.int .u8 (IntKind.u8.wrap i)) H) := conv_int Try.underlying79 Try.underlying76
@[go_sem] theorem cv79_79 : evConv Try.prog 79 79 (.int .i32 i) H = some (.val (.int .i32 (IntKind.i32.wrap i)) H) := conv_int Try.underlying79 Try.underlying79
@[go_sem] theorem cv79_80 : evConv Try.prog 79 80 (.int .i32 i) H = some (.val (.int .i32 (IntKind.i32.wrap i)) H) := conv_int Try.underlying79 Try.underlying80
@[go_sem] theorem cv80_2 : evConv Try.prog 80 2 (.int .i32 i) H = some (.val (.int .i64 (IntKind.i64.wrap i)) H) := conv_int Try.underlying80 Try.underlying2
@[go_sem] theorem cv80_3 : evConv Try.prog 80 3 (.int .i32 i) H = some (.val (.int .i64 (IntKind.i64.wrap i)) H) := conv_int Try.underlying80 Try.underlying3
@[go_sem] theorem cv80_5 : evConv Try.prog 80 5 (.int .i32 i) H = some (.val (.int .u8 (IntKind.u8.wrap i)) H) := conv_int Try.underlying80 Try.underlying5
@[go_sem] theorem cv80_6 : evConv Try.prog 80 6 (.int .i32 i) H = some (.val (.int .u8 (IntKind.u8.wrap i)) H) := conv_int Try.underlying80 Try.underlying6
@[go_sem] theorem cv80_12 : evConv Try.prog 80 12 (.int .i32 i) H = some (.val (.int .u64 (IntKind.u64.wrap i)) H) := conv_int Try.underlying80 Try.underlying12
@[go_sem] theorem cv80_21 : evConv Try.prog 80 21 (.int .i32 i) H = some (.val (.int .i32 (IntKind.i32.wrap i)) H) := conv_int Try.underlying80 Try.underlying21
@[go_sem] theorem cv80_55 : evConv Try.prog 80 55 (.int .i32 i) H = some (.val (.int .u64 (IntKind.u64.wrap i)) H) := conv_int Try.underlying80 Try.underlying55
@[go_sem] theorem cv80_74 : evConv Try.prog 80 74 (.int .i32 i) H = some (.val (.int .u32 (IntKind.u32.wrap i)) H) := conv_int Try.underlying80 Try.underlying74
@[go_sem] theorem cv80_75 : evConv Try.prog 80 75 (.int .i32 i) H = some (.val (.int .u8 (IntKind.u8.wrap i)) H) := conv_int Try.underlying80 Try.underlying75
@[go_sem] theorem cv80_76 : evConv Try.prog 80 76 (.int .i32 i) H = some (.val (.int .u8 (IntKind.u8.wrap i)) H) := conv_int Try.underlying80 Try.underlying76
@[go_sem] theorem cv80_79 : evConv Try.prog 80 79 (.int .i32 i) H = some (.val (.int .i32 (IntKind.i32.wrap i)) H) := conv_int Try.underlying80 Try.underlying79
@[go_sem] theorem cv80_80 : evConv Try.prog 80 80 (.int .i32 i) H = some (.val (.int .i32 (IntKind.i32.wrap i)) H) := conv_int Try.underlying80 Try.underlying80
theorem pok : progOk 0 Try.prog = true := by kernel_rfl
theorem mixed : Try.prog.follows .mixedOrders = true := by kernel_rfl
theorem names0 : (Try.prog.funcs.toList.all fun fn => !(fn.name == "runtime.NumGoroutine")) = true := by kernel_rfl
theorem names : NamesOk Try.prog := fun f fn h => by
  have := List.all_eq_true.1 names0 fn (by simpa using Array.mem_of_getElem? h)
  simpa using this
end Go.Ab.Ytnemoodjbekngaa
