/- What the program's types are. No condition. -/
import Derived.Test.YtaaenepdhjdmlaaProg
import Derived.Test.YtaaenepdhjdmlaaTw12
set_option linter.unusedVariables false
set_option linter.unusedSimpArgs false
namespace Go.Proofs.YtaaenepdhjdmlaaT.Ty
open Go Go.Proofs Go.Proofs.YtaaenepdhjdmlaaT
theorem c1 : Try.prog.cellsOf 1 = 1 := by kernel_rfl
theorem s1 : (Try.prog.underlying 1).isSome = true := by kernel_rfl
theorem a1 : isAgg Try.prog 1 = false := by kernel_rfl
theorem b1 : Try.prog.bytesOf 1 = 8 := by kernel_rfl
theorem z1 : zeroOf Try.prog 1 = some (.nilf) := by kernel_rfl
theorem o1 : elemOk Try.prog 1 := ⟨by rw [c1]; decide, _, z1, rfl, by rw [c1]; rfl⟩
theorem i1 : (Try.prog.info? 1).isSome = true := by kernel_rfl
theorem c2 : Try.prog.cellsOf 2 = 1 := by kernel_rfl
theorem s2 : (Try.prog.underlying 2).isSome = true := by kernel_rfl
theorem a2 : isAgg Try.prog 2 = false := by kernel_rfl
theorem b2 : Try.prog.bytesOf 2 = 8 := by kernel_rfl
theorem z2 : zeroOf Try.prog 2 = some (.int .i64 0) := by kernel_rfl
theorem o2 : elemOk Try.prog 2 := ⟨by rw [c2]; decide, _, z2, rfl, by rw [c2]; rfl⟩
theorem i2 : (Try.prog.info? 2).isSome = true := by kernel_rfl
theorem u2 : Try.prog.underlying 2 = some (.int .i64) := by kernel_rfl
theorem c3 : Try.prog.cellsOf 3 = 1 := by kernel_rfl
theorem s3 : (Try.prog.underlying 3).isSome = true := by kernel_rfl
theorem a3 : isAgg Try.prog 3 = false := by kernel_rfl
theorem b3 : Try.prog.bytesOf 3 = 8 := by kernel_rfl
theorem z3 : zeroOf Try.prog 3 = some (.int .i64 0) := by kernel_rfl
theorem o3 : elemOk Try.prog 3 := ⟨by rw [c3]; decide, _, z3, rfl, by rw [c3]; rfl⟩
theorem i3 : (Try.prog.info? 3).isSome = true := by kernel_rfl
theorem u3 : Try.prog.underlying 3 = some (.int .i64) := by kernel_rfl
theorem c4 : Try.prog.cellsOf 4 = 1 := by kernel_rfl
theorem s4 : (Try.prog.underlying 4).isSome = true := by kernel_rfl
theorem a4 : isAgg Try.prog 4 = false := by kernel_rfl
theorem b4 : Try.prog.bytesOf 4 = 1 := by kernel_rfl
theorem z4 : zeroOf Try.prog 4 = some (.bool false) := by kernel_rfl
theorem o4 : elemOk Try.prog 4 := ⟨by rw [c4]; decide, _, z4, rfl, by rw [c4]; rfl⟩
theorem i4 : (Try.prog.info? 4).isSome = true := by kernel_rfl
theorem u4 : Try.prog.underlying 4 = some .bool := by kernel_rfl
theorem c5 : Try.prog.cellsOf 5 = 1 := by kernel_rfl
theorem s5 : (Try.prog.underlying 5).isSome = true := by kernel_rfl
theorem a5 : isAgg Try.prog 5 = false := by kernel_rfl
theorem b5 : Try.prog.bytesOf 5 = 1 := by kernel_rfl
theorem z5 : zeroOf Try.prog 5 = some (.int .u8 0) := by kernel_rfl
theorem o5 : elemOk Try.prog 5 := ⟨by rw [c5]; decide, _, z5, rfl, by rw [c5]; rfl⟩
theorem i5 : (Try.prog.info? 5).isSome = true := by kernel_rfl
theorem u5 : Try.prog.underlying 5 = some (.int .u8) := by kernel_rfl
theorem c6 : Try.prog.cellsOf 6 = 1 := by kernel_rfl
theorem s6 : (Try.prog.underlying 6).isSome = true := by kernel_rfl
theorem a6 : isAgg Try.prog 6 = false := by kernel_rfl
theorem b6 : Try.prog.bytesOf 6 = 1 := by kernel_rfl
theorem z6 : zeroOf Try.prog 6 = some (.int .u8 0) := by kernel_rfl
theorem o6 : elemOk Try.prog 6 := ⟨by rw [c6]; decide, _, z6, rfl, by rw [c6]; rfl⟩
theorem i6 : (Try.prog.info? 6).isSome = true := by kernel_rfl
theorem u6 : Try.prog.underlying 6 = some (.int .u8) := by kernel_rfl
theorem c7 : Try.prog.cellsOf 7 = 4 := by kernel_rfl
theorem s7 : (Try.prog.underlying 7).isSome = true := by kernel_rfl
theorem a7 : isAgg Try.prog 7 = true := by kernel_rfl
theorem b7 : Try.prog.bytesOf 7 = 24 := by kernel_rfl
theorem z7 : zeroOf Try.prog 7 = some (.agg [.int .i64 0, .int .i64 0, .bool false, .int .u8 0]) := by kernel_rfl
theorem o7 : elemOk Try.prog 7 := ⟨by rw [c7]; decide, _, z7, rfl, by rw [c7]; rfl⟩
theorem f7_0 : fieldOf Try.prog 7 0 = some (0, false, 1) := by kernel_rfl
theorem f7_1 : fieldOf Try.prog 7 1 = some (1, false, 1) := by kernel_rfl
theorem f7_2 : fieldOf Try.prog 7 2 = some (2, false, 1) := by kernel_rfl
theorem f7_3 : fieldOf Try.prog 7 3 = some (3, false, 1) := by kernel_rfl
theorem fo7 : fieldsOk Try.prog 7 = true := by kernel_rfl
theorem r7 : arrOf Try.prog 7 = none := by kernel_rfl
theorem i7 : (Try.prog.info? 7).isSome = true := by kernel_rfl
theorem c8 : Try.prog.cellsOf 8 = 4 := by kernel_rfl
theorem s8 : (Try.prog.underlying 8).isSome = true := by kernel_rfl
theorem a8 : isAgg Try.prog 8 = true := by kernel_rfl
theorem b8 : Try.prog.bytesOf 8 = 24 := by kernel_rfl
theorem z8 : zeroOf Try.prog 8 = some (.agg [.int .i64 0, .int .i64 0, .bool false, .int .u8 0]) := by kernel_rfl
theorem o8 : elemOk Try.prog 8 := ⟨by rw [c8]; decide, _, z8, rfl, by rw [c8]; rfl⟩
theorem f8_0 : fieldOf Try.prog 8 0 = some (0, false, 1) := by kernel_rfl
theorem f8_1 : fieldOf Try.prog 8 1 = some (1, false, 1) := by kernel_rfl
theorem f8_2 : fieldOf Try.prog 8 2 = some (2, false, 1) := by kernel_rfl
theorem f8_3 : fieldOf Try.prog 8 3 = some (3, false, 1) := by kernel_rfl
theorem fo8 : fieldsOk Try.prog 8 = true := by kernel_rfl
theorem r8 : arrOf Try.prog 8 = none := by kernel_rfl
theorem i8 : (Try.prog.info? 8).isSome = true := by kernel_rfl
theorem c9 : Try.prog.cellsOf 9 = 1 := by kernel_rfl
theorem s9 : (Try.prog.underlying 9).isSome = true := by kernel_rfl
theorem a9 : isAgg Try.prog 9 = false := by kernel_rfl
theorem b9 : Try.prog.bytesOf 9 = 16 := by kernel_rfl
theorem z9 : zeroOf Try.prog 9 = some (.str ⟨#[]⟩) := by kernel_rfl
theorem o9 : elemOk Try.prog 9 := ⟨by rw [c9]; decide, _, z9, rfl, by rw [c9]; rfl⟩
theorem i9 : (Try.prog.info? 9).isSome = true := by kernel_rfl
theorem u9 : Try.prog.underlying 9 = some .string := by kernel_rfl
theorem c10 : Try.prog.cellsOf 10 = 1 := by kernel_rfl
theorem s10 : (Try.prog.underlying 10).isSome = true := by kernel_rfl
theorem a10 : isAgg Try.prog 10 = false := by kernel_rfl
theorem b10 : Try.prog.bytesOf 10 = 16 := by kernel_rfl
theorem z10 : zeroOf Try.prog 10 = some (.str ⟨#[]⟩) := by kernel_rfl
theorem o10 : elemOk Try.prog 10 := ⟨by rw [c10]; decide, _, z10, rfl, by rw [c10]; rfl⟩
theorem i10 : (Try.prog.info? 10).isSome = true := by kernel_rfl
theorem u10 : Try.prog.underlying 10 = some .string := by kernel_rfl
theorem c11 : Try.prog.cellsOf 11 = 1 := by kernel_rfl
theorem s11 : (Try.prog.underlying 11).isSome = true := by kernel_rfl
theorem a11 : isAgg Try.prog 11 = false := by kernel_rfl
theorem b11 : Try.prog.bytesOf 11 = 16 := by kernel_rfl
theorem z11 : zeroOf Try.prog 11 = some (.str ⟨#[]⟩) := by kernel_rfl
theorem o11 : elemOk Try.prog 11 := ⟨by rw [c11]; decide, _, z11, rfl, by rw [c11]; rfl⟩
theorem i11 : (Try.prog.info? 11).isSome = true := by kernel_rfl
theorem u11 : Try.prog.underlying 11 = some .string := by kernel_rfl
theorem c12 : Try.prog.cellsOf 12 = 1 := by kernel_rfl
theorem s12 : (Try.prog.underlying 12).isSome = true := by kernel_rfl
theorem a12 : isAgg Try.prog 12 = false := by kernel_rfl
theorem b12 : Try.prog.bytesOf 12 = 8 := by kernel_rfl
theorem z12 : zeroOf Try.prog 12 = some (.int .u64 0) := by kernel_rfl
theorem o12 : elemOk Try.prog 12 := ⟨by rw [c12]; decide, _, z12, rfl, by rw [c12]; rfl⟩
theorem i12 : (Try.prog.info? 12).isSome = true := by kernel_rfl
theorem u12 : Try.prog.underlying 12 = some (.int .u64) := by kernel_rfl
theorem c13 : Try.prog.cellsOf 13 = 2 := by kernel_rfl
theorem s13 : (Try.prog.underlying 13).isSome = true := by kernel_rfl
theorem a13 : isAgg Try.prog 13 = true := by kernel_rfl
theorem b13 : Try.prog.bytesOf 13 = 24 := by kernel_rfl
theorem z13 : zeroOf Try.prog 13 = some (.agg [.str ⟨#[]⟩, .int .u64 0]) := by kernel_rfl
theorem o13 : elemOk Try.prog 13 := ⟨by rw [c13]; decide, _, z13, rfl, by rw [c13]; rfl⟩
theorem f13_0 : fieldOf Try.prog 13 0 = some (0, false, 1) := by kernel_rfl
theorem f13_1 : fieldOf Try.prog 13 1 = some (1, false, 1) := by kernel_rfl
theorem fo13 : fieldsOk Try.prog 13 = true := by kernel_rfl
theorem r13 : arrOf Try.prog 13 = none := by kernel_rfl
theorem i13 : (Try.prog.info? 13).isSome = true := by kernel_rfl
theorem c14 : Try.prog.cellsOf 14 = 2 := by kernel_rfl
theorem s14 : (Try.prog.underlying 14).isSome = true := by kernel_rfl
theorem a14 : isAgg Try.prog 14 = true := by kernel_rfl
theorem b14 : Try.prog.bytesOf 14 = 24 := by kernel_rfl
theorem z14 : zeroOf Try.prog 14 = some (.agg [.str ⟨#[]⟩, .int .u64 0]) := by kernel_rfl
theorem o14 : elemOk Try.prog 14 := ⟨by rw [c14]; decide, _, z14, rfl, by rw [c14]; rfl⟩
theorem f14_0 : fieldOf Try.prog 14 0 = some (0, false, 1) := by kernel_rfl
theorem f14_1 : fieldOf Try.prog 14 1 = some (1, false, 1) := by kernel_rfl
theorem fo14 : fieldsOk Try.prog 14 = true := by kernel_rfl
theorem r14 : arrOf Try.prog 14 = none := by kernel_rfl
theorem i14 : (Try.prog.info? 14).isSome = true := by kernel_rfl
theorem c15 : Try.prog.cellsOf 15 = 1 := by kernel_rfl
theorem s15 : (Try.prog.underlying 15).isSome = true := by kernel_rfl
theorem a15 : isAgg Try.prog 15 = false := by kernel_rfl
theorem b15 : Try.prog.bytesOf 15 = 8 := by kernel_rfl
theorem z15 : zeroOf Try.prog 15 = some (.nilp) := by kernel_rfl
theorem o15 : elemOk Try.prog 15 := ⟨by rw [c15]; decide, _, z15, rfl, by rw [c15]; rfl⟩
theorem p15 : isPtr Try.prog 15 = true := by kernel_rfl
theorem i15 : (Try.prog.info? 15).isSome = true := by kernel_rfl
theorem c16 : Try.prog.cellsOf 16 = 1 := by kernel_rfl
theorem s16 : (Try.prog.underlying 16).isSome = true := by kernel_rfl
theorem a16 : isAgg Try.prog 16 = false := by kernel_rfl
theorem b16 : Try.prog.bytesOf 16 = 8 := by kernel_rfl
theorem z16 : zeroOf Try.prog 16 = some (.nilp) := by kernel_rfl
theorem o16 : elemOk Try.prog 16 := ⟨by rw [c16]; decide, _, z16, rfl, by rw [c16]; rfl⟩
theorem p16 : isPtr Try.prog 16 = true := by kernel_rfl
theorem i16 : (Try.prog.info? 16).isSome = true := by kernel_rfl
theorem c17 : Try.prog.cellsOf 17 = 1 := by kernel_rfl
theorem s17 : (Try.prog.underlying 17).isSome = true := by kernel_rfl
theorem a17 : isAgg Try.prog 17 = false := by kernel_rfl
theorem b17 : Try.prog.bytesOf 17 = 8 := by kernel_rfl
theorem z17 : zeroOf Try.prog 17 = some (.nilp) := by kernel_rfl
theorem o17 : elemOk Try.prog 17 := ⟨by rw [c17]; decide, _, z17, rfl, by rw [c17]; rfl⟩
theorem p17 : isPtr Try.prog 17 = true := by kernel_rfl
theorem i17 : (Try.prog.info? 17).isSome = true := by kernel_rfl
theorem c18 : Try.prog.cellsOf 18 = 1 := by kernel_rfl
theorem s18 : (Try.prog.underlying 18).isSome = true := by kernel_rfl
theorem a18 : isAgg Try.prog 18 = true := by kernel_rfl
theorem b18 : Try.prog.bytesOf 18 = 8 := by kernel_rfl
theorem z18 : zeroOf Try.prog 18 = some (.agg [.nilp]) := by kernel_rfl
theorem o18 : elemOk Try.prog 18 := ⟨by rw [c18]; decide, _, z18, rfl, by rw [c18]; rfl⟩
theorem f18_0 : fieldOf Try.prog 18 0 = some (0, false, 1) := by kernel_rfl
theorem fo18 : fieldsOk Try.prog 18 = true := by kernel_rfl
theorem r18 : arrOf Try.prog 18 = none := by kernel_rfl
theorem i18 : (Try.prog.info? 18).isSome = true := by kernel_rfl
theorem c19 : Try.prog.cellsOf 19 = 1 := by kernel_rfl
theorem s19 : (Try.prog.underlying 19).isSome = true := by kernel_rfl
theorem a19 : isAgg Try.prog 19 = true := by kernel_rfl
theorem b19 : Try.prog.bytesOf 19 = 8 := by kernel_rfl
theorem z19 : zeroOf Try.prog 19 = some (.agg [.nilp]) := by kernel_rfl
theorem o19 : elemOk Try.prog 19 := ⟨by rw [c19]; decide, _, z19, rfl, by rw [c19]; rfl⟩
theorem f19_0 : fieldOf Try.prog 19 0 = some (0, false, 1) := by kernel_rfl
theorem fo19 : fieldsOk Try.prog 19 = true := by kernel_rfl
theorem r19 : arrOf Try.prog 19 = none := by kernel_rfl
theorem i19 : (Try.prog.info? 19).isSome = true := by kernel_rfl
theorem c21 : Try.prog.cellsOf 21 = 1 := by kernel_rfl
theorem s21 : (Try.prog.underlying 21).isSome = true := by kernel_rfl
theorem a21 : isAgg Try.prog 21 = false := by kernel_rfl
theorem b21 : Try.prog.bytesOf 21 = 4 := by kernel_rfl
theorem z21 : zeroOf Try.prog 21 = some (.int .i32 0) := by kernel_rfl
theorem o21 : elemOk Try.prog 21 := ⟨by rw [c21]; decide, _, z21, rfl, by rw [c21]; rfl⟩
theorem i21 : (Try.prog.info? 21).isSome = true := by kernel_rfl
theorem u21 : Try.prog.underlying 21 = some (.int .i32) := by kernel_rfl
theorem c22 : Try.prog.cellsOf 22 = 1 := by kernel_rfl
theorem s22 : (Try.prog.underlying 22).isSome = true := by kernel_rfl
theorem a22 : isAgg Try.prog 22 = false := by kernel_rfl
theorem b22 : Try.prog.bytesOf 22 = 24 := by kernel_rfl
theorem z22 : zeroOf Try.prog 22 = some (.nils) := by kernel_rfl
theorem o22 : elemOk Try.prog 22 := ⟨by rw [c22]; decide, _, z22, rfl, by rw [c22]; rfl⟩
theorem e22 : elemOf Try.prog 22 = some 44 := by kernel_rfl
theorem u22 : Try.prog.underlying 22 = some (.slice 44) := by kernel_rfl
theorem i22 : (Try.prog.info? 22).isSome = true := by kernel_rfl
theorem c23 : Try.prog.cellsOf 23 = 1 := by kernel_rfl
theorem s23 : (Try.prog.underlying 23).isSome = true := by kernel_rfl
theorem a23 : isAgg Try.prog 23 = false := by kernel_rfl
theorem b23 : Try.prog.bytesOf 23 = 8 := by kernel_rfl
theorem z23 : zeroOf Try.prog 23 = some (.nilf) := by kernel_rfl
theorem o23 : elemOk Try.prog 23 := ⟨by rw [c23]; decide, _, z23, rfl, by rw [c23]; rfl⟩
theorem i23 : (Try.prog.info? 23).isSome = true := by kernel_rfl
theorem c24 : Try.prog.cellsOf 24 = 1 := by kernel_rfl
theorem s24 : (Try.prog.underlying 24).isSome = true := by kernel_rfl
theorem a24 : isAgg Try.prog 24 = false := by kernel_rfl
theorem b24 : Try.prog.bytesOf 24 = 8 := by kernel_rfl
theorem z24 : zeroOf Try.prog 24 = some (.int .i64 0) := by kernel_rfl
theorem o24 : elemOk Try.prog 24 := ⟨by rw [c24]; decide, _, z24, rfl, by rw [c24]; rfl⟩
theorem i24 : (Try.prog.info? 24).isSome = true := by kernel_rfl
theorem u24 : Try.prog.underlying 24 = some (.int .i64) := by kernel_rfl
theorem c26 : Try.prog.cellsOf 26 = 1 := by kernel_rfl
theorem s26 : (Try.prog.underlying 26).isSome = true := by kernel_rfl
theorem a26 : isAgg Try.prog 26 = false := by kernel_rfl
theorem b26 : Try.prog.bytesOf 26 = 8 := by kernel_rfl
theorem z26 : zeroOf Try.prog 26 = some (.nilf) := by kernel_rfl
theorem o26 : elemOk Try.prog 26 := ⟨by rw [c26]; decide, _, z26, rfl, by rw [c26]; rfl⟩
theorem i26 : (Try.prog.info? 26).isSome = true := by kernel_rfl
theorem c28 : Try.prog.cellsOf 28 = 1 := by kernel_rfl
theorem s28 : (Try.prog.underlying 28).isSome = true := by kernel_rfl
theorem a28 : isAgg Try.prog 28 = false := by kernel_rfl
theorem b28 : Try.prog.bytesOf 28 = 8 := by kernel_rfl
theorem z28 : zeroOf Try.prog 28 = some (.nilf) := by kernel_rfl
theorem o28 : elemOk Try.prog 28 := ⟨by rw [c28]; decide, _, z28, rfl, by rw [c28]; rfl⟩
theorem i28 : (Try.prog.info? 28).isSome = true := by kernel_rfl
theorem c30 : Try.prog.cellsOf 30 = 1 := by kernel_rfl
theorem s30 : (Try.prog.underlying 30).isSome = true := by kernel_rfl
theorem a30 : isAgg Try.prog 30 = false := by kernel_rfl
theorem b30 : Try.prog.bytesOf 30 = 8 := by kernel_rfl
theorem z30 : zeroOf Try.prog 30 = some (.nilf) := by kernel_rfl
theorem o30 : elemOk Try.prog 30 := ⟨by rw [c30]; decide, _, z30, rfl, by rw [c30]; rfl⟩
theorem i30 : (Try.prog.info? 30).isSome = true := by kernel_rfl
theorem c32 : Try.prog.cellsOf 32 = 1 := by kernel_rfl
theorem s32 : (Try.prog.underlying 32).isSome = true := by kernel_rfl
theorem a32 : isAgg Try.prog 32 = false := by kernel_rfl
theorem b32 : Try.prog.bytesOf 32 = 8 := by kernel_rfl
theorem z32 : zeroOf Try.prog 32 = some (.nilf) := by kernel_rfl
theorem o32 : elemOk Try.prog 32 := ⟨by rw [c32]; decide, _, z32, rfl, by rw [c32]; rfl⟩
theorem i32 : (Try.prog.info? 32).isSome = true := by kernel_rfl
theorem c33 : Try.prog.cellsOf 33 = 1 := by kernel_rfl
theorem s33 : (Try.prog.underlying 33).isSome = true := by kernel_rfl
theorem a33 : isAgg Try.prog 33 = false := by kernel_rfl
theorem b33 : Try.prog.bytesOf 33 = 8 := by kernel_rfl
theorem z33 : zeroOf Try.prog 33 = some (.nilf) := by kernel_rfl
theorem o33 : elemOk Try.prog 33 := ⟨by rw [c33]; decide, _, z33, rfl, by rw [c33]; rfl⟩
theorem i33 : (Try.prog.info? 33).isSome = true := by kernel_rfl
theorem c34 : Try.prog.cellsOf 34 = 1 := by kernel_rfl
theorem s34 : (Try.prog.underlying 34).isSome = true := by kernel_rfl
theorem a34 : isAgg Try.prog 34 = false := by kernel_rfl
theorem b34 : Try.prog.bytesOf 34 = 8 := by kernel_rfl
theorem z34 : zeroOf Try.prog 34 = some (.nilf) := by kernel_rfl
theorem o34 : elemOk Try.prog 34 := ⟨by rw [c34]; decide, _, z34, rfl, by rw [c34]; rfl⟩
theorem i34 : (Try.prog.info? 34).isSome = true := by kernel_rfl
theorem c35 : Try.prog.cellsOf 35 = 1 := by kernel_rfl
theorem s35 : (Try.prog.underlying 35).isSome = true := by kernel_rfl
theorem a35 : isAgg Try.prog 35 = false := by kernel_rfl
theorem b35 : Try.prog.bytesOf 35 = 8 := by kernel_rfl
theorem z35 : zeroOf Try.prog 35 = some (.nilf) := by kernel_rfl
theorem o35 : elemOk Try.prog 35 := ⟨by rw [c35]; decide, _, z35, rfl, by rw [c35]; rfl⟩
theorem i35 : (Try.prog.info? 35).isSome = true := by kernel_rfl
theorem c36 : Try.prog.cellsOf 36 = 1 := by kernel_rfl
theorem s36 : (Try.prog.underlying 36).isSome = true := by kernel_rfl
theorem a36 : isAgg Try.prog 36 = false := by kernel_rfl
theorem b36 : Try.prog.bytesOf 36 = 24 := by kernel_rfl
theorem z36 : zeroOf Try.prog 36 = some (.nils) := by kernel_rfl
theorem o36 : elemOk Try.prog 36 := ⟨by rw [c36]; decide, _, z36, rfl, by rw [c36]; rfl⟩
theorem e36 : elemOf Try.prog 36 = some 5 := by kernel_rfl
theorem u36 : Try.prog.underlying 36 = some (.slice 5) := by kernel_rfl
theorem i36 : (Try.prog.info? 36).isSome = true := by kernel_rfl
theorem c37 : Try.prog.cellsOf 37 = 1 := by kernel_rfl
theorem s37 : (Try.prog.underlying 37).isSome = true := by kernel_rfl
theorem a37 : isAgg Try.prog 37 = false := by kernel_rfl
theorem b37 : Try.prog.bytesOf 37 = 8 := by kernel_rfl
theorem z37 : zeroOf Try.prog 37 = some (.nilf) := by kernel_rfl
theorem o37 : elemOk Try.prog 37 := ⟨by rw [c37]; decide, _, z37, rfl, by rw [c37]; rfl⟩
theorem i37 : (Try.prog.info? 37).isSome = true := by kernel_rfl
theorem c38 : Try.prog.cellsOf 38 = 6 := by kernel_rfl
theorem s38 : (Try.prog.underlying 38).isSome = true := by kernel_rfl
theorem a38 : isAgg Try.prog 38 = true := by kernel_rfl
theorem b38 : Try.prog.bytesOf 38 = 48 := by kernel_rfl
theorem z38 : zeroOf Try.prog 38 = some (.agg [.int .i64 0, .int .i64 0, .int .i64 0, .int .i64 0, .int .i64 0, .int .i64 0]) := by kernel_rfl
theorem o38 : elemOk Try.prog 38 := ⟨by rw [c38]; decide, _, z38, rfl, by rw [c38]; rfl⟩
theorem e38 : elemOf Try.prog 38 = none := by kernel_rfl
theorem r38 : arrOf Try.prog 38 = some (6, 3) := by kernel_rfl
theorem u38 : Try.prog.underlying 38 = some (.array 6 3) := by kernel_rfl
theorem i38 : (Try.prog.info? 38).isSome = true := by kernel_rfl
theorem c39 : Try.prog.cellsOf 39 = 1 := by kernel_rfl
theorem s39 : (Try.prog.underlying 39).isSome = true := by kernel_rfl
theorem a39 : isAgg Try.prog 39 = false := by kernel_rfl
theorem b39 : Try.prog.bytesOf 39 = 24 := by kernel_rfl
theorem z39 : zeroOf Try.prog 39 = some (.nils) := by kernel_rfl
theorem o39 : elemOk Try.prog 39 := ⟨by rw [c39]; decide, _, z39, rfl, by rw [c39]; rfl⟩
theorem e39 : elemOf Try.prog 39 = some 3 := by kernel_rfl
theorem u39 : Try.prog.underlying 39 = some (.slice 3) := by kernel_rfl
theorem i39 : (Try.prog.info? 39).isSome = true := by kernel_rfl
theorem c40 : Try.prog.cellsOf 40 = 1 := by kernel_rfl
theorem s40 : (Try.prog.underlying 40).isSome = true := by kernel_rfl
theorem a40 : isAgg Try.prog 40 = false := by kernel_rfl
theorem b40 : Try.prog.bytesOf 40 = 8 := by kernel_rfl
theorem z40 : zeroOf Try.prog 40 = some (.nilf) := by kernel_rfl
theorem o40 : elemOk Try.prog 40 := ⟨by rw [c40]; decide, _, z40, rfl, by rw [c40]; rfl⟩
theorem i40 : (Try.prog.info? 40).isSome = true := by kernel_rfl
theorem c41 : Try.prog.cellsOf 41 = 1 := by kernel_rfl
theorem s41 : (Try.prog.underlying 41).isSome = true := by kernel_rfl
theorem a41 : isAgg Try.prog 41 = false := by kernel_rfl
theorem b41 : Try.prog.bytesOf 41 = 8 := by kernel_rfl
theorem z41 : zeroOf Try.prog 41 = some (.nilf) := by kernel_rfl
theorem o41 : elemOk Try.prog 41 := ⟨by rw [c41]; decide, _, z41, rfl, by rw [c41]; rfl⟩
theorem i41 : (Try.prog.info? 41).isSome = true := by kernel_rfl
theorem c42 : Try.prog.cellsOf 42 = 1 := by kernel_rfl
theorem s42 : (Try.prog.underlying 42).isSome = true := by kernel_rfl
theorem a42 : isAgg Try.prog 42 = false := by kernel_rfl
theorem b42 : Try.prog.bytesOf 42 = 8 := by kernel_rfl
theorem z42 : zeroOf Try.prog 42 = some (.nilf) := by kernel_rfl
theorem o42 : elemOk Try.prog 42 := ⟨by rw [c42]; decide, _, z42, rfl, by rw [c42]; rfl⟩
theorem i42 : (Try.prog.info? 42).isSome = true := by kernel_rfl
theorem c43 : Try.prog.cellsOf 43 = 2 := by kernel_rfl
theorem s43 : (Try.prog.underlying 43).isSome = true := by kernel_rfl
theorem a43 : isAgg Try.prog 43 = true := by kernel_rfl
theorem b43 : Try.prog.bytesOf 43 = 16 := by kernel_rfl
theorem z43 : zeroOf Try.prog 43 = some (.agg [.int .i64 0, .int .i64 0]) := by kernel_rfl
theorem o43 : elemOk Try.prog 43 := ⟨by rw [c43]; decide, _, z43, rfl, by rw [c43]; rfl⟩
theorem f43_0 : fieldOf Try.prog 43 0 = some (0, false, 1) := by kernel_rfl
theorem f43_1 : fieldOf Try.prog 43 1 = some (1, false, 1) := by kernel_rfl
theorem q43 : eqL Try.prog 43 = some [0, 1] := by kernel_rfl
theorem fo43 : fieldsOk Try.prog 43 = true := by kernel_rfl
theorem r43 : arrOf Try.prog 43 = none := by kernel_rfl
theorem i43 : (Try.prog.info? 43).isSome = true := by kernel_rfl
theorem c44 : Try.prog.cellsOf 44 = 2 := by kernel_rfl
theorem s44 : (Try.prog.underlying 44).isSome = true := by kernel_rfl
theorem a44 : isAgg Try.prog 44 = true := by kernel_rfl
theorem b44 : Try.prog.bytesOf 44 = 16 := by kernel_rfl
theorem z44 : zeroOf Try.prog 44 = some (.agg [.int .i64 0, .int .i64 0]) := by kernel_rfl
theorem o44 : elemOk Try.prog 44 := ⟨by rw [c44]; decide, _, z44, rfl, by rw [c44]; rfl⟩
theorem f44_0 : fieldOf Try.prog 44 0 = some (0, false, 1) := by kernel_rfl
theorem f44_1 : fieldOf Try.prog 44 1 = some (1, false, 1) := by kernel_rfl
theorem q44 : eqL Try.prog 44 = some [0, 1] := by kernel_rfl
theorem fo44 : fieldsOk Try.prog 44 = true := by kernel_rfl
theorem r44 : arrOf Try.prog 44 = none := by kernel_rfl
theorem i44 : (Try.prog.info? 44).isSome = true := by kernel_rfl
theorem c45 : Try.prog.cellsOf 45 = 1 := by kernel_rfl
theorem s45 : (Try.prog.underlying 45).isSome = true := by kernel_rfl
theorem a45 : isAgg Try.prog 45 = false := by kernel_rfl
theorem b45 : Try.prog.bytesOf 45 = 8 := by kernel_rfl
theorem z45 : zeroOf Try.prog 45 = some (.nilp) := by kernel_rfl
theorem o45 : elemOk Try.prog 45 := ⟨by rw [c45]; decide, _, z45, rfl, by rw [c45]; rfl⟩
theorem p45 : isPtr Try.prog 45 = true := by kernel_rfl
theorem i45 : (Try.prog.info? 45).isSome = true := by kernel_rfl
theorem c46 : Try.prog.cellsOf 46 = 4 := by kernel_rfl
theorem s46 : (Try.prog.underlying 46).isSome = true := by kernel_rfl
theorem a46 : isAgg Try.prog 46 = true := by kernel_rfl
theorem b46 : Try.prog.bytesOf 46 = 56 := by kernel_rfl
theorem z46 : zeroOf Try.prog 46 = some (.agg [.nils, .nils, .bool false, .bool false]) := by kernel_rfl
theorem o46 : elemOk Try.prog 46 := ⟨by rw [c46]; decide, _, z46, rfl, by rw [c46]; rfl⟩
theorem f46_0 : fieldOf Try.prog 46 0 = some (0, false, 1) := by kernel_rfl
theorem f46_1 : fieldOf Try.prog 46 1 = some (1, false, 1) := by kernel_rfl
theorem f46_2 : fieldOf Try.prog 46 2 = some (2, false, 1) := by kernel_rfl
theorem f46_3 : fieldOf Try.prog 46 3 = some (3, false, 1) := by kernel_rfl
theorem fo46 : fieldsOk Try.prog 46 = true := by kernel_rfl
theorem r46 : arrOf Try.prog 46 = none := by kernel_rfl
theorem i46 : (Try.prog.info? 46).isSome = true := by kernel_rfl
theorem c47 : Try.prog.cellsOf 47 = 4 := by kernel_rfl
theorem s47 : (Try.prog.underlying 47).isSome = true := by kernel_rfl
theorem a47 : isAgg Try.prog 47 = true := by kernel_rfl
theorem b47 : Try.prog.bytesOf 47 = 56 := by kernel_rfl
theorem z47 : zeroOf Try.prog 47 = some (.agg [.nils, .nils, .bool false, .bool false]) := by kernel_rfl
theorem o47 : elemOk Try.prog 47 := ⟨by rw [c47]; decide, _, z47, rfl, by rw [c47]; rfl⟩
theorem f47_0 : fieldOf Try.prog 47 0 = some (0, false, 1) := by kernel_rfl
theorem f47_1 : fieldOf Try.prog 47 1 = some (1, false, 1) := by kernel_rfl
theorem f47_2 : fieldOf Try.prog 47 2 = some (2, false, 1) := by kernel_rfl
theorem f47_3 : fieldOf Try.prog 47 3 = some (3, false, 1) := by kernel_rfl
theorem fo47 : fieldsOk Try.prog 47 = true := by kernel_rfl
theorem r47 : arrOf Try.prog 47 = none := by kernel_rfl
theorem i47 : (Try.prog.info? 47).isSome = true := by kernel_rfl
theorem c48 : Try.prog.cellsOf 48 = 1 := by kernel_rfl
theorem s48 : (Try.prog.underlying 48).isSome = true := by kernel_rfl
theorem a48 : isAgg Try.prog 48 = false := by kernel_rfl
theorem b48 : Try.prog.bytesOf 48 = 8 := by kernel_rfl
theorem z48 : zeroOf Try.prog 48 = some (.nilf) := by kernel_rfl
theorem o48 : elemOk Try.prog 48 := ⟨by rw [c48]; decide, _, z48, rfl, by rw [c48]; rfl⟩
theorem i48 : (Try.prog.info? 48).isSome = true := by kernel_rfl
theorem c49 : Try.prog.cellsOf 49 = 1 := by kernel_rfl
theorem s49 : (Try.prog.underlying 49).isSome = true := by kernel_rfl
theorem a49 : isAgg Try.prog 49 = false := by kernel_rfl
theorem b49 : Try.prog.bytesOf 49 = 8 := by kernel_rfl
theorem z49 : zeroOf Try.prog 49 = some (.nilf) := by kernel_rfl
theorem o49 : elemOk Try.prog 49 := ⟨by rw [c49]; decide, _, z49, rfl, by rw [c49]; rfl⟩
theorem i49 : (Try.prog.info? 49).isSome = true := by kernel_rfl
theorem c50 : Try.prog.cellsOf 50 = 3 := by kernel_rfl
theorem s50 : (Try.prog.underlying 50).isSome = true := by kernel_rfl
theorem a50 : isAgg Try.prog 50 = true := by kernel_rfl
theorem b50 : Try.prog.bytesOf 50 = 40 := by kernel_rfl
theorem z50 : zeroOf Try.prog 50 = some (.agg [.nils, .int .i64 0, .bool false]) := by kernel_rfl
theorem o50 : elemOk Try.prog 50 := ⟨by rw [c50]; decide, _, z50, rfl, by rw [c50]; rfl⟩
theorem f50_0 : fieldOf Try.prog 50 0 = some (0, false, 1) := by kernel_rfl
theorem f50_1 : fieldOf Try.prog 50 1 = some (1, false, 1) := by kernel_rfl
theorem f50_2 : fieldOf Try.prog 50 2 = some (2, false, 1) := by kernel_rfl
theorem fo50 : fieldsOk Try.prog 50 = true := by kernel_rfl
theorem r50 : arrOf Try.prog 50 = none := by kernel_rfl
theorem i50 : (Try.prog.info? 50).isSome = true := by kernel_rfl
theorem c51 : Try.prog.cellsOf 51 = 3 := by kernel_rfl
theorem s51 : (Try.prog.underlying 51).isSome = true := by kernel_rfl
theorem a51 : isAgg Try.prog 51 = true := by kernel_rfl
theorem b51 : Try.prog.bytesOf 51 = 40 := by kernel_rfl
theorem z51 : zeroOf Try.prog 51 = some (.agg [.nils, .int .i64 0, .bool false]) := by kernel_rfl
theorem o51 : elemOk Try.prog 51 := ⟨by rw [c51]; decide, _, z51, rfl, by rw [c51]; rfl⟩
theorem f51_0 : fieldOf Try.prog 51 0 = some (0, false, 1) := by kernel_rfl
theorem f51_1 : fieldOf Try.prog 51 1 = some (1, false, 1) := by kernel_rfl
theorem f51_2 : fieldOf Try.prog 51 2 = some (2, false, 1) := by kernel_rfl
theorem fo51 : fieldsOk Try.prog 51 = true := by kernel_rfl
theorem r51 : arrOf Try.prog 51 = none := by kernel_rfl
theorem i51 : (Try.prog.info? 51).isSome = true := by kernel_rfl
theorem c52 : Try.prog.cellsOf 52 = 1 := by kernel_rfl
theorem s52 : (Try.prog.underlying 52).isSome = true := by kernel_rfl
theorem a52 : isAgg Try.prog 52 = false := by kernel_rfl
theorem b52 : Try.prog.bytesOf 52 = 8 := by kernel_rfl
theorem z52 : zeroOf Try.prog 52 = some (.nilf) := by kernel_rfl
theorem o52 : elemOk Try.prog 52 := ⟨by rw [c52]; decide, _, z52, rfl, by rw [c52]; rfl⟩
theorem i52 : (Try.prog.info? 52).isSome = true := by kernel_rfl
theorem c53 : Try.prog.cellsOf 53 = 1 := by kernel_rfl
theorem s53 : (Try.prog.underlying 53).isSome = true := by kernel_rfl
theorem a53 : isAgg Try.prog 53 = false := by kernel_rfl
theorem b53 : Try.prog.bytesOf 53 = 8 := by kernel_rfl
theorem z53 : zeroOf Try.prog 53 = some (.nilf) := by kernel_rfl
theorem o53 : elemOk Try.prog 53 := ⟨by rw [c53]; decide, _, z53, rfl, by rw [c53]; rfl⟩
theorem i53 : (Try.prog.info? 53).isSome = true := by kernel_rfl
theorem c54 : Try.prog.cellsOf 54 = 1 := by kernel_rfl
theorem s54 : (Try.prog.underlying 54).isSome = true := by kernel_rfl
theorem a54 : isAgg Try.prog 54 = false := by kernel_rfl
theorem b54 : Try.prog.bytesOf 54 = 8 := by kernel_rfl
theorem z54 : zeroOf Try.prog 54 = some (.nilf) := by kernel_rfl
theorem o54 : elemOk Try.prog 54 := ⟨by rw [c54]; decide, _, z54, rfl, by rw [c54]; rfl⟩
theorem i54 : (Try.prog.info? 54).isSome = true := by kernel_rfl
theorem c55 : Try.prog.cellsOf 55 = 1 := by kernel_rfl
theorem s55 : (Try.prog.underlying 55).isSome = true := by kernel_rfl
theorem a55 : isAgg Try.prog 55 = false := by kernel_rfl
theorem b55 : Try.prog.bytesOf 55 = 8 := by kernel_rfl
theorem z55 : zeroOf Try.prog 55 = some (.nilf) := by kernel_rfl
theorem o55 : elemOk Try.prog 55 := ⟨by rw [c55]; decide, _, z55, rfl, by rw [c55]; rfl⟩
theorem i55 : (Try.prog.info? 55).isSome = true := by kernel_rfl
theorem c56 : Try.prog.cellsOf 56 = 1 := by kernel_rfl
theorem s56 : (Try.prog.underlying 56).isSome = true := by kernel_rfl
theorem a56 : isAgg Try.prog 56 = false := by kernel_rfl
theorem b56 : Try.prog.bytesOf 56 = 8 := by kernel_rfl
theorem z56 : zeroOf Try.prog 56 = some (.nilp) := by kernel_rfl
theorem o56 : elemOk Try.prog 56 := ⟨by rw [c56]; decide, _, z56, rfl, by rw [c56]; rfl⟩
theorem p56 : isPtr Try.prog 56 = true := by kernel_rfl
theorem i56 : (Try.prog.info? 56).isSome = true := by kernel_rfl
theorem c57 : Try.prog.cellsOf 57 = 2 := by kernel_rfl
theorem s57 : (Try.prog.underlying 57).isSome = true := by kernel_rfl
theorem a57 : isAgg Try.prog 57 = true := by kernel_rfl
theorem b57 : Try.prog.bytesOf 57 = 32 := by kernel_rfl
theorem z57 : zeroOf Try.prog 57 = some (.agg [.nilp, .nils]) := by kernel_rfl
theorem o57 : elemOk Try.prog 57 := ⟨by rw [c57]; decide, _, z57, rfl, by rw [c57]; rfl⟩
theorem f57_0 : fieldOf Try.prog 57 0 = some (0, false, 1) := by kernel_rfl
theorem f57_1 : fieldOf Try.prog 57 1 = some (1, false, 1) := by kernel_rfl
theorem fo57 : fieldsOk Try.prog 57 = true := by kernel_rfl
theorem r57 : arrOf Try.prog 57 = none := by kernel_rfl
theorem i57 : (Try.prog.info? 57).isSome = true := by kernel_rfl
theorem c58 : Try.prog.cellsOf 58 = 2 := by kernel_rfl
theorem s58 : (Try.prog.underlying 58).isSome = true := by kernel_rfl
theorem a58 : isAgg Try.prog 58 = true := by kernel_rfl
theorem b58 : Try.prog.bytesOf 58 = 32 := by kernel_rfl
theorem z58 : zeroOf Try.prog 58 = some (.agg [.nilp, .nils]) := by kernel_rfl
theorem o58 : elemOk Try.prog 58 := ⟨by rw [c58]; decide, _, z58, rfl, by rw [c58]; rfl⟩
theorem f58_0 : fieldOf Try.prog 58 0 = some (0, false, 1) := by kernel_rfl
theorem f58_1 : fieldOf Try.prog 58 1 = some (1, false, 1) := by kernel_rfl
theorem fo58 : fieldsOk Try.prog 58 = true := by kernel_rfl
theorem r58 : arrOf Try.prog 58 = none := by kernel_rfl
theorem i58 : (Try.prog.info? 58).isSome = true := by kernel_rfl
theorem c61 : Try.prog.cellsOf 61 = 1 := by kernel_rfl
theorem s61 : (Try.prog.underlying 61).isSome = true := by kernel_rfl
theorem a61 : isAgg Try.prog 61 = false := by kernel_rfl
theorem b61 : Try.prog.bytesOf 61 = 8 := by kernel_rfl
theorem z61 : zeroOf Try.prog 61 = some (.nilf) := by kernel_rfl
theorem o61 : elemOk Try.prog 61 := ⟨by rw [c61]; decide, _, z61, rfl, by rw [c61]; rfl⟩
theorem i61 : (Try.prog.info? 61).isSome = true := by kernel_rfl
theorem c62 : Try.prog.cellsOf 62 = 1 := by kernel_rfl
theorem s62 : (Try.prog.underlying 62).isSome = true := by kernel_rfl
theorem a62 : isAgg Try.prog 62 = false := by kernel_rfl
theorem b62 : Try.prog.bytesOf 62 = 8 := by kernel_rfl
theorem z62 : zeroOf Try.prog 62 = some (.nilf) := by kernel_rfl
theorem o62 : elemOk Try.prog 62 := ⟨by rw [c62]; decide, _, z62, rfl, by rw [c62]; rfl⟩
theorem i62 : (Try.prog.info? 62).isSome = true := by kernel_rfl
theorem c64 : Try.prog.cellsOf 64 = 1 := by kernel_rfl
theorem s64 : (Try.prog.underlying 64).isSome = true := by kernel_rfl
theorem a64 : isAgg Try.prog 64 = false := by kernel_rfl
theorem b64 : Try.prog.bytesOf 64 = 8 := by kernel_rfl
theorem z64 : zeroOf Try.prog 64 = some (.nilf) := by kernel_rfl
theorem o64 : elemOk Try.prog 64 := ⟨by rw [c64]; decide, _, z64, rfl, by rw [c64]; rfl⟩
theorem i64 : (Try.prog.info? 64).isSome = true := by kernel_rfl
theorem c65 : Try.prog.cellsOf 65 = 1 := by kernel_rfl
theorem s65 : (Try.prog.underlying 65).isSome = true := by kernel_rfl
theorem a65 : isAgg Try.prog 65 = false := by kernel_rfl
theorem b65 : Try.prog.bytesOf 65 = 8 := by kernel_rfl
theorem z65 : zeroOf Try.prog 65 = some (.nilp) := by kernel_rfl
theorem o65 : elemOk Try.prog 65 := ⟨by rw [c65]; decide, _, z65, rfl, by rw [c65]; rfl⟩
theorem p65 : isPtr Try.prog 65 = true := by kernel_rfl
theorem i65 : (Try.prog.info? 65).isSome = true := by kernel_rfl
theorem c67 : Try.prog.cellsOf 67 = 1 := by kernel_rfl
theorem s67 : (Try.prog.underlying 67).isSome = true := by kernel_rfl
theorem a67 : isAgg Try.prog 67 = false := by kernel_rfl
theorem b67 : Try.prog.bytesOf 67 = 8 := by kernel_rfl
theorem z67 : zeroOf Try.prog 67 = some (.nilf) := by kernel_rfl
theorem o67 : elemOk Try.prog 67 := ⟨by rw [c67]; decide, _, z67, rfl, by rw [c67]; rfl⟩
theorem i67 : (Try.prog.info? 67).isSome = true := by kernel_rfl
theorem c68 : Try.prog.cellsOf 68 = 4 := by kernel_rfl
theorem s68 : (Try.prog.underlying 68).isSome = true := by kernel_rfl
theorem a68 : isAgg Try.prog 68 = true := by kernel_rfl
theorem b68 : Try.prog.bytesOf 68 = 40 := by kernel_rfl
theorem z68 : zeroOf Try.prog 68 = some (.agg [.nilp, .nilp, .nilp, .str ⟨#[]⟩]) := by kernel_rfl
theorem o68 : elemOk Try.prog 68 := ⟨by rw [c68]; decide, _, z68, rfl, by rw [c68]; rfl⟩
theorem f68_0 : fieldOf Try.prog 68 0 = some (0, false, 1) := by kernel_rfl
theorem f68_1 : fieldOf Try.prog 68 1 = some (1, false, 1) := by kernel_rfl
theorem f68_2 : fieldOf Try.prog 68 2 = some (2, false, 1) := by kernel_rfl
theorem f68_3 : fieldOf Try.prog 68 3 = some (3, false, 1) := by kernel_rfl
theorem fo68 : fieldsOk Try.prog 68 = true := by kernel_rfl
theorem r68 : arrOf Try.prog 68 = none := by kernel_rfl
theorem i68 : (Try.prog.info? 68).isSome = true := by kernel_rfl
theorem c69 : Try.prog.cellsOf 69 = 4 := by kernel_rfl
theorem s69 : (Try.prog.underlying 69).isSome = true := by kernel_rfl
theorem a69 : isAgg Try.prog 69 = true := by kernel_rfl
theorem b69 : Try.prog.bytesOf 69 = 40 := by kernel_rfl
theorem z69 : zeroOf Try.prog 69 = some (.agg [.nilp, .nilp, .nilp, .str ⟨#[]⟩]) := by kernel_rfl
theorem o69 : elemOk Try.prog 69 := ⟨by rw [c69]; decide, _, z69, rfl, by rw [c69]; rfl⟩
theorem f69_0 : fieldOf Try.prog 69 0 = some (0, false, 1) := by kernel_rfl
theorem f69_1 : fieldOf Try.prog 69 1 = some (1, false, 1) := by kernel_rfl
theorem f69_2 : fieldOf Try.prog 69 2 = some (2, false, 1) := by kernel_rfl
theorem f69_3 : fieldOf Try.prog 69 3 = some (3, false, 1) := by kernel_rfl
theorem fo69 : fieldsOk Try.prog 69 = true := by kernel_rfl
theorem r69 : arrOf Try.prog 69 = none := by kernel_rfl
theorem i69 : (Try.prog.info? 69).isSome = true := by kernel_rfl
theorem c73 : Try.prog.cellsOf 73 = 1 := by kernel_rfl
theorem s73 : (Try.prog.underlying 73).isSome = true := by kernel_rfl
theorem a73 : isAgg Try.prog 73 = false := by kernel_rfl
theorem b73 : Try.prog.bytesOf 73 = 8 := by kernel_rfl
theorem z73 : zeroOf Try.prog 73 = some (.nilf) := by kernel_rfl
theorem o73 : elemOk Try.prog 73 := ⟨by rw [c73]; decide, _, z73, rfl, by rw [c73]; rfl⟩
theorem i73 : (Try.prog.info? 73).isSome = true := by kernel_rfl
theorem c74 : Try.prog.cellsOf 74 = 1 := by kernel_rfl
theorem s74 : (Try.prog.underlying 74).isSome = true := by kernel_rfl
theorem a74 : isAgg Try.prog 74 = false := by kernel_rfl
theorem b74 : Try.prog.bytesOf 74 = 4 := by kernel_rfl
theorem z74 : zeroOf Try.prog 74 = some (.int .u32 0) := by kernel_rfl
theorem o74 : elemOk Try.prog 74 := ⟨by rw [c74]; decide, _, z74, rfl, by rw [c74]; rfl⟩
theorem i74 : (Try.prog.info? 74).isSome = true := by kernel_rfl
theorem u74 : Try.prog.underlying 74 = some (.int .u32) := by kernel_rfl
theorem c75 : Try.prog.cellsOf 75 = 1 := by kernel_rfl
theorem s75 : (Try.prog.underlying 75).isSome = true := by kernel_rfl
theorem a75 : isAgg Try.prog 75 = false := by kernel_rfl
theorem b75 : Try.prog.bytesOf 75 = 1 := by kernel_rfl
theorem z75 : zeroOf Try.prog 75 = some (.int .u8 0) := by kernel_rfl
theorem o75 : elemOk Try.prog 75 := ⟨by rw [c75]; decide, _, z75, rfl, by rw [c75]; rfl⟩
theorem i75 : (Try.prog.info? 75).isSome = true := by kernel_rfl
theorem u75 : Try.prog.underlying 75 = some (.int .u8) := by kernel_rfl
theorem c76 : Try.prog.cellsOf 76 = 1 := by kernel_rfl
theorem s76 : (Try.prog.underlying 76).isSome = true := by kernel_rfl
theorem a76 : isAgg Try.prog 76 = false := by kernel_rfl
theorem b76 : Try.prog.bytesOf 76 = 1 := by kernel_rfl
theorem z76 : zeroOf Try.prog 76 = some (.int .u8 0) := by kernel_rfl
theorem o76 : elemOk Try.prog 76 := ⟨by rw [c76]; decide, _, z76, rfl, by rw [c76]; rfl⟩
theorem i76 : (Try.prog.info? 76).isSome = true := by kernel_rfl
theorem u76 : Try.prog.underlying 76 = some (.int .u8) := by kernel_rfl
theorem c77 : Try.prog.cellsOf 77 = 1 := by kernel_rfl
theorem s77 : (Try.prog.underlying 77).isSome = true := by kernel_rfl
theorem a77 : isAgg Try.prog 77 = false := by kernel_rfl
theorem b77 : Try.prog.bytesOf 77 = 8 := by kernel_rfl
theorem z77 : zeroOf Try.prog 77 = some (.nilf) := by kernel_rfl
theorem o77 : elemOk Try.prog 77 := ⟨by rw [c77]; decide, _, z77, rfl, by rw [c77]; rfl⟩
theorem i77 : (Try.prog.info? 77).isSome = true := by kernel_rfl
theorem c78 : Try.prog.cellsOf 78 = 1 := by kernel_rfl
theorem s78 : (Try.prog.underlying 78).isSome = true := by kernel_rfl
theorem a78 : isAgg Try.prog 78 = false := by kernel_rfl
theorem b78 : Try.prog.bytesOf 78 = 4 := by kernel_rfl
theorem z78 : zeroOf Try.prog 78 = some (.int .i32 0) := by kernel_rfl
theorem o78 : elemOk Try.prog 78 := ⟨by rw [c78]; decide, _, z78, rfl, by rw [c78]; rfl⟩
theorem i78 : (Try.prog.info? 78).isSome = true := by kernel_rfl
theorem u78 : Try.prog.underlying 78 = some (.int .i32) := by kernel_rfl
theorem c79 : Try.prog.cellsOf 79 = 1 := by kernel_rfl
theorem s79 : (Try.prog.underlying 79).isSome = true := by kernel_rfl
theorem a79 : isAgg Try.prog 79 = false := by kernel_rfl
theorem b79 : Try.prog.bytesOf 79 = 4 := by kernel_rfl
theorem z79 : zeroOf Try.prog 79 = some (.int .i32 0) := by kernel_rfl
theorem o79 : elemOk Try.prog 79 := ⟨by rw [c79]; decide, _, z79, rfl, by rw [c79]; rfl⟩
theorem i79 : (Try.prog.info? 79).isSome = true := by kernel_rfl
theorem u79 : Try.prog.underlying 79 = some (.int .i32) := by kernel_rfl
theorem c80 : Try.prog.cellsOf 80 = 11 := by kernel_rfl
theorem s80 : (Try.prog.underlying 80).isSome = true := by kernel_rfl
theorem a80 : isAgg Try.prog 80 = true := by kernel_rfl
theorem b80 : Try.prog.bytesOf 80 = 48 := by kernel_rfl
theorem z80 : zeroOf Try.prog 80 = some (.agg [.int .u64 0, .int .u64 0, .int .u32 0, .int .u8 0, .int .u8 0, .int .u8 0, .int .u8 0, .nilf, .nilp, .int .i32 0, .int .i32 0]) := by kernel_rfl
theorem o80 : elemOk Try.prog 80 := ⟨by rw [c80]; decide, _, z80, rfl, by rw [c80]; rfl⟩
theorem f80_0 : fieldOf Try.prog 80 0 = some (0, false, 1) := by kernel_rfl
theorem f80_1 : fieldOf Try.prog 80 1 = some (1, false, 1) := by kernel_rfl
theorem f80_2 : fieldOf Try.prog 80 2 = some (2, false, 1) := by kernel_rfl
theorem f80_3 : fieldOf Try.prog 80 3 = some (3, false, 1) := by kernel_rfl
theorem f80_4 : fieldOf Try.prog 80 4 = some (4, false, 1) := by kernel_rfl
theorem f80_5 : fieldOf Try.prog 80 5 = some (5, false, 1) := by kernel_rfl
theorem f80_6 : fieldOf Try.prog 80 6 = some (6, false, 1) := by kernel_rfl
theorem f80_7 : fieldOf Try.prog 80 7 = some (7, false, 1) := by kernel_rfl
theorem f80_8 : fieldOf Try.prog 80 8 = some (8, false, 1) := by kernel_rfl
theorem f80_9 : fieldOf Try.prog 80 9 = some (9, false, 1) := by kernel_rfl
theorem f80_10 : fieldOf Try.prog 80 10 = some (10, false, 1) := by kernel_rfl
theorem fo80 : fieldsOk Try.prog 80 = true := by kernel_rfl
theorem r80 : arrOf Try.prog 80 = none := by kernel_rfl
theorem i80 : (Try.prog.info? 80).isSome = true := by kernel_rfl
theorem c81 : Try.prog.cellsOf 81 = 11 := by kernel_rfl
theorem s81 : (Try.prog.underlying 81).isSome = true := by kernel_rfl
theorem a81 : isAgg Try.prog 81 = true := by kernel_rfl
theorem b81 : Try.prog.bytesOf 81 = 48 := by kernel_rfl
theorem z81 : zeroOf Try.prog 81 = some (.agg [.int .u64 0, .int .u64 0, .int .u32 0, .int .u8 0, .int .u8 0, .int .u8 0, .int .u8 0, .nilf, .nilp, .int .i32 0, .int .i32 0]) := by kernel_rfl
theorem o81 : elemOk Try.prog 81 := ⟨by rw [c81]; decide, _, z81, rfl, by rw [c81]; rfl⟩
theorem f81_0 : fieldOf Try.prog 81 0 = some (0, false, 1) := by kernel_rfl
theorem f81_1 : fieldOf Try.prog 81 1 = some (1, false, 1) := by kernel_rfl
theorem f81_2 : fieldOf Try.prog 81 2 = some (2, false, 1) := by kernel_rfl
theorem f81_3 : fieldOf Try.prog 81 3 = some (3, false, 1) := by kernel_rfl
theorem f81_4 : fieldOf Try.prog 81 4 = some (4, false, 1) := by kernel_rfl
theorem f81_5 : fieldOf Try.prog 81 5 = some (5, false, 1) := by kernel_rfl
theorem f81_6 : fieldOf Try.prog 81 6 = some (6, false, 1) := by kernel_rfl
theorem f81_7 : fieldOf Try.prog 81 7 = some (7, false, 1) := by kernel_rfl
theorem f81_8 : fieldOf Try.prog 81 8 = some (8, false, 1) := by kernel_rfl
theorem f81_9 : fieldOf Try.prog 81 9 = some (9, false, 1) := by kernel_rfl
theorem f81_10 : fieldOf Try.prog 81 10 = some (10, false, 1) := by kernel_rfl
theorem fo81 : fieldsOk Try.prog 81 = true := by kernel_rfl
theorem r81 : arrOf Try.prog 81 = none := by kernel_rfl
theorem i81 : (Try.prog.info? 81).isSome = true := by kernel_rfl
end Go.Proofs.YtaaenepdhjdmlaaT.Ty
