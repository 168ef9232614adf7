/- What the program's types are. No condition. -/
import Derived.Test.YtodfkdnkgedgeaaProg
import Derived.Test.YtodfkdnkgedgeaaTw12
set_option linter.unusedVariables false
set_option linter.unusedSimpArgs false
namespace Go.Proofs.YtodfkdnkgedgeaaT.Ty
open Go Go.Proofs Go.Proofs.YtodfkdnkgedgeaaT
theorem c1 : Try.prog.cellsOf 1 = 1 := by kernel_rfl
theorem s1 : (Try.prog.underlying 1).isSome = true := by kernel_rfl
theorem a1 : isAgg Try.prog 1 = false := by kernel_rfl
theorem b1 : Try.prog.bytesOf 1 = 8 := by kernel_rfl
theorem z1 : zeroOf Try.prog 1 = some (.nilf) := by kernel_rfl
theorem o1 : elemOk Try.prog 1 := ⟨by rw [c1]; decide, _, z1, rfl, by rw [c1]; rfl⟩
theorem i1 : (Try.prog.info? 1).isSome = true := by kernel_rfl
theorem c2 : Try.prog.cellsOf 2 = 1 := by kernel_rfl
theorem s2 : (Try.prog.underlying 2).isSome = true := by kernel_rfl
theorem a2 : isAgg Try.prog 2 = false := by kernel_rfl
theorem b2 : Try.prog.bytesOf 2 = 8 := by kernel_rfl
theorem z2 : zeroOf Try.prog 2 = some (.int .i64 0) := by kernel_rfl
theorem o2 : elemOk Try.prog 2 := ⟨by rw [c2]; decide, _, z2, rfl, by rw [c2]; rfl⟩
theorem i2 : (Try.prog.info? 2).isSome = true := by kernel_rfl
theorem u2 : Try.prog.underlying 2 = some (.int .i64) := by kernel_rfl
theorem c3 : Try.prog.cellsOf 3 = 1 := by kernel_rfl
theorem s3 : (Try.prog.underlying 3).isSome = true := by kernel_rfl
theorem a3 : isAgg Try.prog 3 = false := by kernel_rfl
theorem b3 : Try.prog.bytesOf 3 = 8 := by kernel_rfl
theorem z3 : zeroOf Try.prog 3 = some (.int .i64 0) := by kernel_rfl
theorem o3 : elemOk Try.prog 3 := ⟨by rw [c3]; decide, _, z3, rfl, by rw [c3]; rfl⟩
theorem i3 : (Try.prog.info? 3).isSome = true := by kernel_rfl
theorem u3 : Try.prog.underlying 3 = some (.int .i64) := by kernel_rfl
theorem c4 : Try.prog.cellsOf 4 = 1 := by kernel_rfl
theorem s4 : (Try.prog.underlying 4).isSome = true := by kernel_rfl
theorem a4 : isAgg Try.prog 4 = false := by kernel_rfl
theorem b4 : Try.prog.bytesOf 4 = 1 := by kernel_rfl
theorem z4 : zeroOf Try.prog 4 = some (.bool false) := by kernel_rfl
theorem o4 : elemOk Try.prog 4 := ⟨by rw [c4]; decide, _, z4, rfl, by rw [c4]; rfl⟩
theorem i4 : (Try.prog.info? 4).isSome = true := by kernel_rfl
theorem u4 : Try.prog.underlying 4 = some .bool := by kernel_rfl
theorem c5 : Try.prog.cellsOf 5 = 1 := by kernel_rfl
theorem s5 : (Try.prog.underlying 5).isSome = true := by kernel_rfl
theorem a5 : isAgg Try.prog 5 = false := by kernel_rfl
theorem b5 : Try.prog.bytesOf 5 = 1 := by kernel_rfl
theorem z5 : zeroOf Try.prog 5 = some (.int .u8 0) := by kernel_rfl
theorem o5 : elemOk Try.prog 5 := ⟨by rw [c5]; decide, _, z5, rfl, by rw [c5]; rfl⟩
theorem i5 : (Try.prog.info? 5).isSome = true := by kernel_rfl
theorem u5 : Try.prog.underlying 5 = some (.int .u8) := by kernel_rfl
theorem c6 : Try.prog.cellsOf 6 = 1 := by kernel_rfl
theorem s6 : (Try.prog.underlying 6).isSome = true := by kernel_rfl
theorem a6 : isAgg Try.prog 6 = false := by kernel_rfl
theorem b6 : Try.prog.bytesOf 6 = 1 := by kernel_rfl
theorem z6 : zeroOf Try.prog 6 = some (.int .u8 0) := by kernel_rfl
theorem o6 : elemOk Try.prog 6 := ⟨by rw [c6]; decide, _, z6, rfl, by rw [c6]; rfl⟩
theorem i6 : (Try.prog.info? 6).isSome = true := by kernel_rfl
theorem u6 : Try.prog.underlying 6 = some (.int .u8) := by kernel_rfl
theorem c7 : Try.prog.cellsOf 7 = 4 := by kernel_rfl
theorem s7 : (Try.prog.underlying 7).isSome = true := by kernel_rfl
theorem a7 : isAgg Try.prog 7 = true := by kernel_rfl
theorem b7 : Try.prog.bytesOf 7 = 24 := by kernel_rfl
theorem z7 : zeroOf Try.prog 7 = some (.agg [.int .i64 0, .int .i64 0, .bool false, .int .u8 0]) := by kernel_rfl
theorem o7 : elemOk Try.prog 7 := ⟨by rw [c7]; decide, _, z7, rfl, by rw [c7]; rfl⟩
theorem f7_0 : fieldOf Try.prog 7 0 = some (0, false, 1) := by kernel_rfl
theorem f7_1 : fieldOf Try.prog 7 1 = some (1, false, 1) := by kernel_rfl
theorem f7_2 : fieldOf Try.prog 7 2 = some (2, false, 1) := by kernel_rfl
theorem f7_3 : fieldOf Try.prog 7 3 = some (3, false, 1) := by kernel_rfl
theorem q7 : eqL Try.prog 7 = some [(0, false), (1, false), (2, true), (3, false)] := by kernel_rfl
theorem fo7 : fieldsOk Try.prog 7 = true := by kernel_rfl
theorem r7 : arrOf Try.prog 7 = none := by kernel_rfl
theorem i7 : (Try.prog.info? 7).isSome = true := by kernel_rfl
theorem c8 : Try.prog.cellsOf 8 = 4 := by kernel_rfl
theorem s8 : (Try.prog.underlying 8).isSome = true := by kernel_rfl
theorem a8 : isAgg Try.prog 8 = true := by kernel_rfl
theorem b8 : Try.prog.bytesOf 8 = 24 := by kernel_rfl
theorem z8 : zeroOf Try.prog 8 = some (.agg [.int .i64 0, .int .i64 0, .bool false, .int .u8 0]) := by kernel_rfl
theorem o8 : elemOk Try.prog 8 := ⟨by rw [c8]; decide, _, z8, rfl, by rw [c8]; rfl⟩
theorem f8_0 : fieldOf Try.prog 8 0 = some (0, false, 1) := by kernel_rfl
theorem f8_1 : fieldOf Try.prog 8 1 = some (1, false, 1) := by kernel_rfl
theorem f8_2 : fieldOf Try.prog 8 2 = some (2, false, 1) := by kernel_rfl
theorem f8_3 : fieldOf Try.prog 8 3 = some (3, false, 1) := by kernel_rfl
theorem q8 : eqL Try.prog 8 = some [(0, false), (1, false), (2, true), (3, false)] := by kernel_rfl
theorem fo8 : fieldsOk Try.prog 8 = true := by kernel_rfl
theorem r8 : arrOf Try.prog 8 = none := by kernel_rfl
theorem i8 : (Try.prog.info? 8).isSome = true := by kernel_rfl
theorem c9 : Try.prog.cellsOf 9 = 1 := by kernel_rfl
theorem s9 : (Try.prog.underlying 9).isSome = true := by kernel_rfl
theorem a9 : isAgg Try.prog 9 = false := by kernel_rfl
theorem b9 : Try.prog.bytesOf 9 = 16 := by kernel_rfl
theorem z9 : zeroOf Try.prog 9 = some (.str ⟨#[]⟩) := by kernel_rfl
theorem o9 : elemOk Try.prog 9 := ⟨by rw [c9]; decide, _, z9, rfl, by rw [c9]; rfl⟩
theorem i9 : (Try.prog.info? 9).isSome = true := by kernel_rfl
theorem u9 : Try.prog.underlying 9 = some .string := by kernel_rfl
theorem c10 : Try.prog.cellsOf 10 = 1 := by kernel_rfl
theorem s10 : (Try.prog.underlying 10).isSome = true := by kernel_rfl
theorem a10 : isAgg Try.prog 10 = false := by kernel_rfl
theorem b10 : Try.prog.bytesOf 10 = 16 := by kernel_rfl
theorem z10 : zeroOf Try.prog 10 = some (.str ⟨#[]⟩) := by kernel_rfl
theorem o10 : elemOk Try.prog 10 := ⟨by rw [c10]; decide, _, z10, rfl, by rw [c10]; rfl⟩
theorem i10 : (Try.prog.info? 10).isSome = true := by kernel_rfl
theorem u10 : Try.prog.underlying 10 = some .string := by kernel_rfl
theorem c11 : Try.prog.cellsOf 11 = 1 := by kernel_rfl
theorem s11 : (Try.prog.underlying 11).isSome = true := by kernel_rfl
theorem a11 : isAgg Try.prog 11 = false := by kernel_rfl
theorem b11 : Try.prog.bytesOf 11 = 16 := by kernel_rfl
theorem z11 : zeroOf Try.prog 11 = some (.str ⟨#[]⟩) := by kernel_rfl
theorem o11 : elemOk Try.prog 11 := ⟨by rw [c11]; decide, _, z11, rfl, by rw [c11]; rfl⟩
theorem i11 : (Try.prog.info? 11).isSome = true := by kernel_rfl
theorem u11 : Try.prog.underlying 11 = some .string := by kernel_rfl
theorem c12 : Try.prog.cellsOf 12 = 1 := by kernel_rfl
theorem s12 : (Try.prog.underlying 12).isSome = true := by kernel_rfl
theorem a12 : isAgg Try.prog 12 = false := by kernel_rfl
theorem b12 : Try.prog.bytesOf 12 = 8 := by kernel_rfl
theorem z12 : zeroOf Try.prog 12 = some (.int .u64 0) := by kernel_rfl
theorem o12 : elemOk Try.prog 12 := ⟨by rw [c12]; decide, _, z12, rfl, by rw [c12]; rfl⟩
theorem i12 : (Try.prog.info? 12).isSome = true := by kernel_rfl
theorem u12 : Try.prog.underlying 12 = some (.int .u64) := by kernel_rfl
theorem c13 : Try.prog.cellsOf 13 = 2 := by kernel_rfl
theorem s13 : (Try.prog.underlying 13).isSome = true := by kernel_rfl
theorem a13 : isAgg Try.prog 13 = true := by kernel_rfl
theorem b13 : Try.prog.bytesOf 13 = 24 := by kernel_rfl
theorem z13 : zeroOf Try.prog 13 = some (.agg [.str ⟨#[]⟩, .int .u64 0]) := by kernel_rfl
theorem o13 : elemOk Try.prog 13 := ⟨by rw [c13]; decide, _, z13, rfl, by rw [c13]; rfl⟩
theorem f13_0 : fieldOf Try.prog 13 0 = some (0, false, 1) := by kernel_rfl
theorem f13_1 : fieldOf Try.prog 13 1 = some (1, false, 1) := by kernel_rfl
theorem fo13 : fieldsOk Try.prog 13 = true := by kernel_rfl
theorem r13 : arrOf Try.prog 13 = none := by kernel_rfl
theorem i13 : (Try.prog.info? 13).isSome = true := by kernel_rfl
theorem c14 : Try.prog.cellsOf 14 = 2 := by kernel_rfl
theorem s14 : (Try.prog.underlying 14).isSome = true := by kernel_rfl
theorem a14 : isAgg Try.prog 14 = true := by kernel_rfl
theorem b14 : Try.prog.bytesOf 14 = 24 := by kernel_rfl
theorem z14 : zeroOf Try.prog 14 = some (.agg [.str ⟨#[]⟩, .int .u64 0]) := by kernel_rfl
theorem o14 : elemOk Try.prog 14 := ⟨by rw [c14]; decide, _, z14, rfl, by rw [c14]; rfl⟩
theorem f14_0 : fieldOf Try.prog 14 0 = some (0, false, 1) := by kernel_rfl
theorem f14_1 : fieldOf Try.prog 14 1 = some (1, false, 1) := by kernel_rfl
theorem fo14 : fieldsOk Try.prog 14 = true := by kernel_rfl
theorem r14 : arrOf Try.prog 14 = none := by kernel_rfl
theorem i14 : (Try.prog.info? 14).isSome = true := by kernel_rfl
theorem c15 : Try.prog.cellsOf 15 = 1 := by kernel_rfl
theorem s15 : (Try.prog.underlying 15).isSome = true := by kernel_rfl
theorem a15 : isAgg Try.prog 15 = false := by kernel_rfl
theorem b15 : Try.prog.bytesOf 15 = 8 := by kernel_rfl
theorem z15 : zeroOf Try.prog 15 = some (.nilp) := by kernel_rfl
theorem o15 : elemOk Try.prog 15 := ⟨by rw [c15]; decide, _, z15, rfl, by rw [c15]; rfl⟩
theorem p15 : isPtr Try.prog 15 = true := by kernel_rfl
theorem i15 : (Try.prog.info? 15).isSome = true := by kernel_rfl
theorem c16 : Try.prog.cellsOf 16 = 1 := by kernel_rfl
theorem s16 : (Try.prog.underlying 16).isSome = true := by kernel_rfl
theorem a16 : isAgg Try.prog 16 = false := by kernel_rfl
theorem b16 : Try.prog.bytesOf 16 = 8 := by kernel_rfl
theorem z16 : zeroOf Try.prog 16 = some (.nilp) := by kernel_rfl
theorem o16 : elemOk Try.prog 16 := ⟨by rw [c16]; decide, _, z16, rfl, by rw [c16]; rfl⟩
theorem p16 : isPtr Try.prog 16 = true := by kernel_rfl
theorem i16 : (Try.prog.info? 16).isSome = true := by kernel_rfl
theorem c17 : Try.prog.cellsOf 17 = 1 := by kernel_rfl
theorem s17 : (Try.prog.underlying 17).isSome = true := by kernel_rfl
theorem a17 : isAgg Try.prog 17 = false := by kernel_rfl
theorem b17 : Try.prog.bytesOf 17 = 8 := by kernel_rfl
theorem z17 : zeroOf Try.prog 17 = some (.nilp) := by kernel_rfl
theorem o17 : elemOk Try.prog 17 := ⟨by rw [c17]; decide, _, z17, rfl, by rw [c17]; rfl⟩
theorem p17 : isPtr Try.prog 17 = true := by kernel_rfl
theorem i17 : (Try.prog.info? 17).isSome = true := by kernel_rfl
theorem c18 : Try.prog.cellsOf 18 = 1 := by kernel_rfl
theorem s18 : (Try.prog.underlying 18).isSome = true := by kernel_rfl
theorem a18 : isAgg Try.prog 18 = true := by kernel_rfl
theorem b18 : Try.prog.bytesOf 18 = 8 := by kernel_rfl
theorem z18 : zeroOf Try.prog 18 = some (.agg [.nilp]) := by kernel_rfl
theorem o18 : elemOk Try.prog 18 := ⟨by rw [c18]; decide, _, z18, rfl, by rw [c18]; rfl⟩
theorem f18_0 : fieldOf Try.prog 18 0 = some (0, false, 1) := by kernel_rfl
theorem fo18 : fieldsOk Try.prog 18 = true := by kernel_rfl
theorem r18 : arrOf Try.prog 18 = none := by kernel_rfl
theorem i18 : (Try.prog.info? 18).isSome = true := by kernel_rfl
theorem c19 : Try.prog.cellsOf 19 = 1 := by kernel_rfl
theorem s19 : (Try.prog.underlying 19).isSome = true := by kernel_rfl
theorem a19 : isAgg Try.prog 19 = true := by kernel_rfl
theorem b19 : Try.prog.bytesOf 19 = 8 := by kernel_rfl
theorem z19 : zeroOf Try.prog 19 = some (.agg [.nilp]) := by kernel_rfl
theorem o19 : elemOk Try.prog 19 := ⟨by rw [c19]; decide, _, z19, rfl, by rw [c19]; rfl⟩
theorem f19_0 : fieldOf Try.prog 19 0 = some (0, false, 1) := by kernel_rfl
theorem fo19 : fieldsOk Try.prog 19 = true := by kernel_rfl
theorem r19 : arrOf Try.prog 19 = none := by kernel_rfl
theorem i19 : (Try.prog.info? 19).isSome = true := by kernel_rfl
theorem c21 : Try.prog.cellsOf 21 = 1 := by kernel_rfl
theorem s21 : (Try.prog.underlying 21).isSome = true := by kernel_rfl
theorem a21 : isAgg Try.prog 21 = false := by kernel_rfl
theorem b21 : Try.prog.bytesOf 21 = 4 := by kernel_rfl
theorem z21 : zeroOf Try.prog 21 = some (.int .i32 0) := by kernel_rfl
theorem o21 : elemOk Try.prog 21 := ⟨by rw [c21]; decide, _, z21, rfl, by rw [c21]; rfl⟩
theorem i21 : (Try.prog.info? 21).isSome = true := by kernel_rfl
theorem u21 : Try.prog.underlying 21 = some (.int .i32) := by kernel_rfl
theorem c22 : Try.prog.cellsOf 22 = 1 := by kernel_rfl
theorem s22 : (Try.prog.underlying 22).isSome = true := by kernel_rfl
theorem a22 : isAgg Try.prog 22 = false := by kernel_rfl
theorem b22 : Try.prog.bytesOf 22 = 24 := by kernel_rfl
theorem z22 : zeroOf Try.prog 22 = some (.nils) := by kernel_rfl
theorem o22 : elemOk Try.prog 22 := ⟨by rw [c22]; decide, _, z22, rfl, by rw [c22]; rfl⟩
theorem e22 : elemOf Try.prog 22 = some 64 := by kernel_rfl
theorem u22 : Try.prog.underlying 22 = some (.slice 64) := by kernel_rfl
theorem i22 : (Try.prog.info? 22).isSome = true := by kernel_rfl
theorem c23 : Try.prog.cellsOf 23 = 1 := by kernel_rfl
theorem s23 : (Try.prog.underlying 23).isSome = true := by kernel_rfl
theorem a23 : isAgg Try.prog 23 = false := by kernel_rfl
theorem b23 : Try.prog.bytesOf 23 = 24 := by kernel_rfl
theorem z23 : zeroOf Try.prog 23 = some (.nils) := by kernel_rfl
theorem o23 : elemOk Try.prog 23 := ⟨by rw [c23]; decide, _, z23, rfl, by rw [c23]; rfl⟩
theorem e23 : elemOf Try.prog 23 = some 68 := by kernel_rfl
theorem u23 : Try.prog.underlying 23 = some (.slice 68) := by kernel_rfl
theorem i23 : (Try.prog.info? 23).isSome = true := by kernel_rfl
theorem c24 : Try.prog.cellsOf 24 = 2 := by kernel_rfl
theorem s24 : (Try.prog.underlying 24).isSome = true := by kernel_rfl
theorem a24 : isAgg Try.prog 24 = true := by kernel_rfl
theorem b24 : Try.prog.bytesOf 24 = 48 := by kernel_rfl
theorem z24 : zeroOf Try.prog 24 = some (.agg [.nils, .nils]) := by kernel_rfl
theorem o24 : elemOk Try.prog 24 := ⟨by rw [c24]; decide, _, z24, rfl, by rw [c24]; rfl⟩
theorem f24_0 : fieldOf Try.prog 24 0 = some (0, false, 1) := by kernel_rfl
theorem f24_1 : fieldOf Try.prog 24 1 = some (1, false, 1) := by kernel_rfl
theorem fo24 : fieldsOk Try.prog 24 = true := by kernel_rfl
theorem r24 : arrOf Try.prog 24 = none := by kernel_rfl
theorem i24 : (Try.prog.info? 24).isSome = true := by kernel_rfl
theorem c25 : Try.prog.cellsOf 25 = 2 := by kernel_rfl
theorem s25 : (Try.prog.underlying 25).isSome = true := by kernel_rfl
theorem a25 : isAgg Try.prog 25 = true := by kernel_rfl
theorem b25 : Try.prog.bytesOf 25 = 48 := by kernel_rfl
theorem z25 : zeroOf Try.prog 25 = some (.agg [.nils, .nils]) := by kernel_rfl
theorem o25 : elemOk Try.prog 25 := ⟨by rw [c25]; decide, _, z25, rfl, by rw [c25]; rfl⟩
theorem f25_0 : fieldOf Try.prog 25 0 = some (0, false, 1) := by kernel_rfl
theorem f25_1 : fieldOf Try.prog 25 1 = some (1, false, 1) := by kernel_rfl
theorem fo25 : fieldsOk Try.prog 25 = true := by kernel_rfl
theorem r25 : arrOf Try.prog 25 = none := by kernel_rfl
theorem i25 : (Try.prog.info? 25).isSome = true := by kernel_rfl
theorem c26 : Try.prog.cellsOf 26 = 1 := by kernel_rfl
theorem s26 : (Try.prog.underlying 26).isSome = true := by kernel_rfl
theorem a26 : isAgg Try.prog 26 = false := by kernel_rfl
theorem b26 : Try.prog.bytesOf 26 = 24 := by kernel_rfl
theorem z26 : zeroOf Try.prog 26 = some (.nils) := by kernel_rfl
theorem o26 : elemOk Try.prog 26 := ⟨by rw [c26]; decide, _, z26, rfl, by rw [c26]; rfl⟩
theorem e26 : elemOf Try.prog 26 = some 71 := by kernel_rfl
theorem u26 : Try.prog.underlying 26 = some (.slice 71) := by kernel_rfl
theorem i26 : (Try.prog.info? 26).isSome = true := by kernel_rfl
theorem c27 : Try.prog.cellsOf 27 = 3 := by kernel_rfl
theorem s27 : (Try.prog.underlying 27).isSome = true := by kernel_rfl
theorem a27 : isAgg Try.prog 27 = true := by kernel_rfl
theorem b27 : Try.prog.bytesOf 27 = 24 := by kernel_rfl
theorem z27 : zeroOf Try.prog 27 = some (.agg [.int .i64 0, .int .i64 0, .int .i64 0]) := by kernel_rfl
theorem o27 : elemOk Try.prog 27 := ⟨by rw [c27]; decide, _, z27, rfl, by rw [c27]; rfl⟩
theorem f27_0 : fieldOf Try.prog 27 0 = some (0, false, 1) := by kernel_rfl
theorem f27_1 : fieldOf Try.prog 27 1 = some (1, false, 1) := by kernel_rfl
theorem f27_2 : fieldOf Try.prog 27 2 = some (2, false, 1) := by kernel_rfl
theorem q27 : eqL Try.prog 27 = some [(0, false), (1, false), (2, false)] := by kernel_rfl
theorem fo27 : fieldsOk Try.prog 27 = true := by kernel_rfl
theorem r27 : arrOf Try.prog 27 = none := by kernel_rfl
theorem i27 : (Try.prog.info? 27).isSome = true := by kernel_rfl
theorem c28 : Try.prog.cellsOf 28 = 3 := by kernel_rfl
theorem s28 : (Try.prog.underlying 28).isSome = true := by kernel_rfl
theorem a28 : isAgg Try.prog 28 = true := by kernel_rfl
theorem b28 : Try.prog.bytesOf 28 = 24 := by kernel_rfl
theorem z28 : zeroOf Try.prog 28 = some (.agg [.int .i64 0, .int .i64 0, .int .i64 0]) := by kernel_rfl
theorem o28 : elemOk Try.prog 28 := ⟨by rw [c28]; decide, _, z28, rfl, by rw [c28]; rfl⟩
theorem f28_0 : fieldOf Try.prog 28 0 = some (0, false, 1) := by kernel_rfl
theorem f28_1 : fieldOf Try.prog 28 1 = some (1, false, 1) := by kernel_rfl
theorem f28_2 : fieldOf Try.prog 28 2 = some (2, false, 1) := by kernel_rfl
theorem q28 : eqL Try.prog 28 = some [(0, false), (1, false), (2, false)] := by kernel_rfl
theorem fo28 : fieldsOk Try.prog 28 = true := by kernel_rfl
theorem r28 : arrOf Try.prog 28 = none := by kernel_rfl
theorem i28 : (Try.prog.info? 28).isSome = true := by kernel_rfl
theorem c29 : Try.prog.cellsOf 29 = 1 := by kernel_rfl
theorem s29 : (Try.prog.underlying 29).isSome = true := by kernel_rfl
theorem a29 : isAgg Try.prog 29 = false := by kernel_rfl
theorem b29 : Try.prog.bytesOf 29 = 8 := by kernel_rfl
theorem z29 : zeroOf Try.prog 29 = some (.nilf) := by kernel_rfl
theorem o29 : elemOk Try.prog 29 := ⟨by rw [c29]; decide, _, z29, rfl, by rw [c29]; rfl⟩
theorem i29 : (Try.prog.info? 29).isSome = true := by kernel_rfl
theorem c30 : Try.prog.cellsOf 30 = 1 := by kernel_rfl
theorem s30 : (Try.prog.underlying 30).isSome = true := by kernel_rfl
theorem a30 : isAgg Try.prog 30 = false := by kernel_rfl
theorem b30 : Try.prog.bytesOf 30 = 8 := by kernel_rfl
theorem z30 : zeroOf Try.prog 30 = some (.nilf) := by kernel_rfl
theorem o30 : elemOk Try.prog 30 := ⟨by rw [c30]; decide, _, z30, rfl, by rw [c30]; rfl⟩
theorem i30 : (Try.prog.info? 30).isSome = true := by kernel_rfl
theorem c31 : Try.prog.cellsOf 31 = 1 := by kernel_rfl
theorem s31 : (Try.prog.underlying 31).isSome = true := by kernel_rfl
theorem a31 : isAgg Try.prog 31 = false := by kernel_rfl
theorem b31 : Try.prog.bytesOf 31 = 24 := by kernel_rfl
theorem z31 : zeroOf Try.prog 31 = some (.nils) := by kernel_rfl
theorem o31 : elemOk Try.prog 31 := ⟨by rw [c31]; decide, _, z31, rfl, by rw [c31]; rfl⟩
theorem e31 : elemOf Try.prog 31 = some 74 := by kernel_rfl
theorem u31 : Try.prog.underlying 31 = some (.slice 74) := by kernel_rfl
theorem i31 : (Try.prog.info? 31).isSome = true := by kernel_rfl
theorem c32 : Try.prog.cellsOf 32 = 1 := by kernel_rfl
theorem s32 : (Try.prog.underlying 32).isSome = true := by kernel_rfl
theorem a32 : isAgg Try.prog 32 = false := by kernel_rfl
theorem b32 : Try.prog.bytesOf 32 = 24 := by kernel_rfl
theorem z32 : zeroOf Try.prog 32 = some (.nils) := by kernel_rfl
theorem o32 : elemOk Try.prog 32 := ⟨by rw [c32]; decide, _, z32, rfl, by rw [c32]; rfl⟩
theorem e32 : elemOf Try.prog 32 = some 77 := by kernel_rfl
theorem u32 : Try.prog.underlying 32 = some (.slice 77) := by kernel_rfl
theorem i32 : (Try.prog.info? 32).isSome = true := by kernel_rfl
theorem c33 : Try.prog.cellsOf 33 = 2 := by kernel_rfl
theorem s33 : (Try.prog.underlying 33).isSome = true := by kernel_rfl
theorem a33 : isAgg Try.prog 33 = true := by kernel_rfl
theorem b33 : Try.prog.bytesOf 33 = 48 := by kernel_rfl
theorem z33 : zeroOf Try.prog 33 = some (.agg [.nils, .nils]) := by kernel_rfl
theorem o33 : elemOk Try.prog 33 := ⟨by rw [c33]; decide, _, z33, rfl, by rw [c33]; rfl⟩
theorem f33_0 : fieldOf Try.prog 33 0 = some (0, false, 1) := by kernel_rfl
theorem f33_1 : fieldOf Try.prog 33 1 = some (1, false, 1) := by kernel_rfl
theorem fo33 : fieldsOk Try.prog 33 = true := by kernel_rfl
theorem r33 : arrOf Try.prog 33 = none := by kernel_rfl
theorem i33 : (Try.prog.info? 33).isSome = true := by kernel_rfl
theorem c34 : Try.prog.cellsOf 34 = 2 := by kernel_rfl
theorem s34 : (Try.prog.underlying 34).isSome = true := by kernel_rfl
theorem a34 : isAgg Try.prog 34 = true := by kernel_rfl
theorem b34 : Try.prog.bytesOf 34 = 48 := by kernel_rfl
theorem z34 : zeroOf Try.prog 34 = some (.agg [.nils, .nils]) := by kernel_rfl
theorem o34 : elemOk Try.prog 34 := ⟨by rw [c34]; decide, _, z34, rfl, by rw [c34]; rfl⟩
theorem f34_0 : fieldOf Try.prog 34 0 = some (0, false, 1) := by kernel_rfl
theorem f34_1 : fieldOf Try.prog 34 1 = some (1, false, 1) := by kernel_rfl
theorem fo34 : fieldsOk Try.prog 34 = true := by kernel_rfl
theorem r34 : arrOf Try.prog 34 = none := by kernel_rfl
theorem i34 : (Try.prog.info? 34).isSome = true := by kernel_rfl
theorem c35 : Try.prog.cellsOf 35 = 1 := by kernel_rfl
theorem s35 : (Try.prog.underlying 35).isSome = true := by kernel_rfl
theorem a35 : isAgg Try.prog 35 = false := by kernel_rfl
theorem b35 : Try.prog.bytesOf 35 = 8 := by kernel_rfl
theorem z35 : zeroOf Try.prog 35 = some (.nilf) := by kernel_rfl
theorem o35 : elemOk Try.prog 35 := ⟨by rw [c35]; decide, _, z35, rfl, by rw [c35]; rfl⟩
theorem i35 : (Try.prog.info? 35).isSome = true := by kernel_rfl
theorem c36 : Try.prog.cellsOf 36 = 3 := by kernel_rfl
theorem s36 : (Try.prog.underlying 36).isSome = true := by kernel_rfl
theorem a36 : isAgg Try.prog 36 = true := by kernel_rfl
theorem b36 : Try.prog.bytesOf 36 = 24 := by kernel_rfl
theorem z36 : zeroOf Try.prog 36 = some (.agg [.int .i64 0, .int .i64 0, .int .i64 0]) := by kernel_rfl
theorem o36 : elemOk Try.prog 36 := ⟨by rw [c36]; decide, _, z36, rfl, by rw [c36]; rfl⟩
theorem f36_0 : fieldOf Try.prog 36 0 = some (0, false, 1) := by kernel_rfl
theorem f36_1 : fieldOf Try.prog 36 1 = some (1, false, 1) := by kernel_rfl
theorem f36_2 : fieldOf Try.prog 36 2 = some (2, false, 1) := by kernel_rfl
theorem q36 : eqL Try.prog 36 = some [(0, false), (1, false), (2, false)] := by kernel_rfl
theorem fo36 : fieldsOk Try.prog 36 = true := by kernel_rfl
theorem r36 : arrOf Try.prog 36 = none := by kernel_rfl
theorem i36 : (Try.prog.info? 36).isSome = true := by kernel_rfl
theorem c37 : Try.prog.cellsOf 37 = 5 := by kernel_rfl
theorem s37 : (Try.prog.underlying 37).isSome = true := by kernel_rfl
theorem a37 : isAgg Try.prog 37 = true := by kernel_rfl
theorem b37 : Try.prog.bytesOf 37 = 40 := by kernel_rfl
theorem z37 : zeroOf Try.prog 37 = some (.agg [.int .i64 0, .int .i64 0, .int .i64 0, .bool false, .int .i64 0]) := by kernel_rfl
theorem o37 : elemOk Try.prog 37 := ⟨by rw [c37]; decide, _, z37, rfl, by rw [c37]; rfl⟩
theorem f37_0 : fieldOf Try.prog 37 0 = some (0, false, 1) := by kernel_rfl
theorem f37_1 : fieldOf Try.prog 37 1 = some (1, false, 1) := by kernel_rfl
theorem f37_2 : fieldOf Try.prog 37 2 = some (2, false, 1) := by kernel_rfl
theorem f37_3 : fieldOf Try.prog 37 3 = some (3, false, 1) := by kernel_rfl
theorem f37_4 : fieldOf Try.prog 37 4 = some (4, false, 1) := by kernel_rfl
theorem q37 : eqL Try.prog 37 = some [(0, false), (1, false), (2, false), (3, true), (4, false)] := by kernel_rfl
theorem fo37 : fieldsOk Try.prog 37 = true := by kernel_rfl
theorem r37 : arrOf Try.prog 37 = none := by kernel_rfl
theorem i37 : (Try.prog.info? 37).isSome = true := by kernel_rfl
theorem c38 : Try.prog.cellsOf 38 = 5 := by kernel_rfl
theorem s38 : (Try.prog.underlying 38).isSome = true := by kernel_rfl
theorem a38 : isAgg Try.prog 38 = true := by kernel_rfl
theorem b38 : Try.prog.bytesOf 38 = 40 := by kernel_rfl
theorem z38 : zeroOf Try.prog 38 = some (.agg [.int .i64 0, .int .i64 0, .int .i64 0, .bool false, .int .i64 0]) := by kernel_rfl
theorem o38 : elemOk Try.prog 38 := ⟨by rw [c38]; decide, _, z38, rfl, by rw [c38]; rfl⟩
theorem f38_0 : fieldOf Try.prog 38 0 = some (0, false, 1) := by kernel_rfl
theorem f38_1 : fieldOf Try.prog 38 1 = some (1, false, 1) := by kernel_rfl
theorem f38_2 : fieldOf Try.prog 38 2 = some (2, false, 1) := by kernel_rfl
theorem f38_3 : fieldOf Try.prog 38 3 = some (3, false, 1) := by kernel_rfl
theorem f38_4 : fieldOf Try.prog 38 4 = some (4, false, 1) := by kernel_rfl
theorem q38 : eqL Try.prog 38 = some [(0, false), (1, false), (2, false), (3, true), (4, false)] := by kernel_rfl
theorem fo38 : fieldsOk Try.prog 38 = true := by kernel_rfl
theorem r38 : arrOf Try.prog 38 = none := by kernel_rfl
theorem i38 : (Try.prog.info? 38).isSome = true := by kernel_rfl
theorem c39 : Try.prog.cellsOf 39 = 1 := by kernel_rfl
theorem s39 : (Try.prog.underlying 39).isSome = true := by kernel_rfl
theorem a39 : isAgg Try.prog 39 = false := by kernel_rfl
theorem b39 : Try.prog.bytesOf 39 = 8 := by kernel_rfl
theorem z39 : zeroOf Try.prog 39 = some (.int .i64 0) := by kernel_rfl
theorem o39 : elemOk Try.prog 39 := ⟨by rw [c39]; decide, _, z39, rfl, by rw [c39]; rfl⟩
theorem i39 : (Try.prog.info? 39).isSome = true := by kernel_rfl
theorem u39 : Try.prog.underlying 39 = some (.int .i64) := by kernel_rfl
theorem c41 : Try.prog.cellsOf 41 = 1 := by kernel_rfl
theorem s41 : (Try.prog.underlying 41).isSome = true := by kernel_rfl
theorem a41 : isAgg Try.prog 41 = false := by kernel_rfl
theorem b41 : Try.prog.bytesOf 41 = 8 := by kernel_rfl
theorem z41 : zeroOf Try.prog 41 = some (.nilf) := by kernel_rfl
theorem o41 : elemOk Try.prog 41 := ⟨by rw [c41]; decide, _, z41, rfl, by rw [c41]; rfl⟩
theorem i41 : (Try.prog.info? 41).isSome = true := by kernel_rfl
theorem c42 : Try.prog.cellsOf 42 = 1 := by kernel_rfl
theorem s42 : (Try.prog.underlying 42).isSome = true := by kernel_rfl
theorem a42 : isAgg Try.prog 42 = false := by kernel_rfl
theorem b42 : Try.prog.bytesOf 42 = 8 := by kernel_rfl
theorem z42 : zeroOf Try.prog 42 = some (.nilf) := by kernel_rfl
theorem o42 : elemOk Try.prog 42 := ⟨by rw [c42]; decide, _, z42, rfl, by rw [c42]; rfl⟩
theorem i42 : (Try.prog.info? 42).isSome = true := by kernel_rfl
theorem c43 : Try.prog.cellsOf 43 = 5 := by kernel_rfl
theorem s43 : (Try.prog.underlying 43).isSome = true := by kernel_rfl
theorem a43 : isAgg Try.prog 43 = true := by kernel_rfl
theorem b43 : Try.prog.bytesOf 43 = 40 := by kernel_rfl
theorem z43 : zeroOf Try.prog 43 = some (.agg [.int .i64 0, .int .i64 0, .int .i64 0, .bool false, .int .i64 0]) := by kernel_rfl
theorem o43 : elemOk Try.prog 43 := ⟨by rw [c43]; decide, _, z43, rfl, by rw [c43]; rfl⟩
theorem f43_0 : fieldOf Try.prog 43 0 = some (0, false, 1) := by kernel_rfl
theorem f43_1 : fieldOf Try.prog 43 1 = some (1, false, 1) := by kernel_rfl
theorem f43_2 : fieldOf Try.prog 43 2 = some (2, false, 1) := by kernel_rfl
theorem f43_3 : fieldOf Try.prog 43 3 = some (3, false, 1) := by kernel_rfl
theorem f43_4 : fieldOf Try.prog 43 4 = some (4, false, 1) := by kernel_rfl
theorem q43 : eqL Try.prog 43 = some [(0, false), (1, false), (2, false), (3, true), (4, false)] := by kernel_rfl
theorem fo43 : fieldsOk Try.prog 43 = true := by kernel_rfl
theorem r43 : arrOf Try.prog 43 = none := by kernel_rfl
theorem i43 : (Try.prog.info? 43).isSome = true := by kernel_rfl
theorem c45 : Try.prog.cellsOf 45 = 1 := by kernel_rfl
theorem s45 : (Try.prog.underlying 45).isSome = true := by kernel_rfl
theorem a45 : isAgg Try.prog 45 = false := by kernel_rfl
theorem b45 : Try.prog.bytesOf 45 = 8 := by kernel_rfl
theorem z45 : zeroOf Try.prog 45 = some (.nilf) := by kernel_rfl
theorem o45 : elemOk Try.prog 45 := ⟨by rw [c45]; decide, _, z45, rfl, by rw [c45]; rfl⟩
theorem i45 : (Try.prog.info? 45).isSome = true := by kernel_rfl
theorem c46 : Try.prog.cellsOf 46 = 2 := by kernel_rfl
theorem s46 : (Try.prog.underlying 46).isSome = true := by kernel_rfl
theorem a46 : isAgg Try.prog 46 = true := by kernel_rfl
theorem b46 : Try.prog.bytesOf 46 = 16 := by kernel_rfl
theorem z46 : zeroOf Try.prog 46 = some (.agg [.int .i64 0, .int .i64 0]) := by kernel_rfl
theorem o46 : elemOk Try.prog 46 := ⟨by rw [c46]; decide, _, z46, rfl, by rw [c46]; rfl⟩
theorem f46_0 : fieldOf Try.prog 46 0 = some (0, false, 1) := by kernel_rfl
theorem f46_1 : fieldOf Try.prog 46 1 = some (1, false, 1) := by kernel_rfl
theorem q46 : eqL Try.prog 46 = some [(0, false), (1, false)] := by kernel_rfl
theorem fo46 : fieldsOk Try.prog 46 = true := by kernel_rfl
theorem r46 : arrOf Try.prog 46 = none := by kernel_rfl
theorem i46 : (Try.prog.info? 46).isSome = true := by kernel_rfl
theorem c47 : Try.prog.cellsOf 47 = 2 := by kernel_rfl
theorem s47 : (Try.prog.underlying 47).isSome = true := by kernel_rfl
theorem a47 : isAgg Try.prog 47 = true := by kernel_rfl
theorem b47 : Try.prog.bytesOf 47 = 16 := by kernel_rfl
theorem z47 : zeroOf Try.prog 47 = some (.agg [.int .i64 0, .int .i64 0]) := by kernel_rfl
theorem o47 : elemOk Try.prog 47 := ⟨by rw [c47]; decide, _, z47, rfl, by rw [c47]; rfl⟩
theorem f47_0 : fieldOf Try.prog 47 0 = some (0, false, 1) := by kernel_rfl
theorem f47_1 : fieldOf Try.prog 47 1 = some (1, false, 1) := by kernel_rfl
theorem q47 : eqL Try.prog 47 = some [(0, false), (1, false)] := by kernel_rfl
theorem fo47 : fieldsOk Try.prog 47 = true := by kernel_rfl
theorem r47 : arrOf Try.prog 47 = none := by kernel_rfl
theorem i47 : (Try.prog.info? 47).isSome = true := by kernel_rfl
theorem c49 : Try.prog.cellsOf 49 = 1 := by kernel_rfl
theorem s49 : (Try.prog.underlying 49).isSome = true := by kernel_rfl
theorem a49 : isAgg Try.prog 49 = false := by kernel_rfl
theorem b49 : Try.prog.bytesOf 49 = 8 := by kernel_rfl
theorem z49 : zeroOf Try.prog 49 = some (.nilf) := by kernel_rfl
theorem o49 : elemOk Try.prog 49 := ⟨by rw [c49]; decide, _, z49, rfl, by rw [c49]; rfl⟩
theorem i49 : (Try.prog.info? 49).isSome = true := by kernel_rfl
theorem c50 : Try.prog.cellsOf 50 = 1 := by kernel_rfl
theorem s50 : (Try.prog.underlying 50).isSome = true := by kernel_rfl
theorem a50 : isAgg Try.prog 50 = false := by kernel_rfl
theorem b50 : Try.prog.bytesOf 50 = 8 := by kernel_rfl
theorem z50 : zeroOf Try.prog 50 = some (.nilf) := by kernel_rfl
theorem o50 : elemOk Try.prog 50 := ⟨by rw [c50]; decide, _, z50, rfl, by rw [c50]; rfl⟩
theorem i50 : (Try.prog.info? 50).isSome = true := by kernel_rfl
theorem c51 : Try.prog.cellsOf 51 = 1 := by kernel_rfl
theorem s51 : (Try.prog.underlying 51).isSome = true := by kernel_rfl
theorem a51 : isAgg Try.prog 51 = false := by kernel_rfl
theorem b51 : Try.prog.bytesOf 51 = 8 := by kernel_rfl
theorem z51 : zeroOf Try.prog 51 = some (.nilf) := by kernel_rfl
theorem o51 : elemOk Try.prog 51 := ⟨by rw [c51]; decide, _, z51, rfl, by rw [c51]; rfl⟩
theorem i51 : (Try.prog.info? 51).isSome = true := by kernel_rfl
theorem c52 : Try.prog.cellsOf 52 = 1 := by kernel_rfl
theorem s52 : (Try.prog.underlying 52).isSome = true := by kernel_rfl
theorem a52 : isAgg Try.prog 52 = false := by kernel_rfl
theorem b52 : Try.prog.bytesOf 52 = 8 := by kernel_rfl
theorem z52 : zeroOf Try.prog 52 = some (.nilf) := by kernel_rfl
theorem o52 : elemOk Try.prog 52 := ⟨by rw [c52]; decide, _, z52, rfl, by rw [c52]; rfl⟩
theorem i52 : (Try.prog.info? 52).isSome = true := by kernel_rfl
theorem c53 : Try.prog.cellsOf 53 = 1 := by kernel_rfl
theorem s53 : (Try.prog.underlying 53).isSome = true := by kernel_rfl
theorem a53 : isAgg Try.prog 53 = false := by kernel_rfl
theorem b53 : Try.prog.bytesOf 53 = 8 := by kernel_rfl
theorem z53 : zeroOf Try.prog 53 = some (.nilf) := by kernel_rfl
theorem o53 : elemOk Try.prog 53 := ⟨by rw [c53]; decide, _, z53, rfl, by rw [c53]; rfl⟩
theorem i53 : (Try.prog.info? 53).isSome = true := by kernel_rfl
theorem c54 : Try.prog.cellsOf 54 = 1 := by kernel_rfl
theorem s54 : (Try.prog.underlying 54).isSome = true := by kernel_rfl
theorem a54 : isAgg Try.prog 54 = false := by kernel_rfl
theorem b54 : Try.prog.bytesOf 54 = 8 := by kernel_rfl
theorem z54 : zeroOf Try.prog 54 = some (.nilf) := by kernel_rfl
theorem o54 : elemOk Try.prog 54 := ⟨by rw [c54]; decide, _, z54, rfl, by rw [c54]; rfl⟩
theorem i54 : (Try.prog.info? 54).isSome = true := by kernel_rfl
theorem c55 : Try.prog.cellsOf 55 = 1 := by kernel_rfl
theorem s55 : (Try.prog.underlying 55).isSome = true := by kernel_rfl
theorem a55 : isAgg Try.prog 55 = false := by kernel_rfl
theorem b55 : Try.prog.bytesOf 55 = 24 := by kernel_rfl
theorem z55 : zeroOf Try.prog 55 = some (.nils) := by kernel_rfl
theorem o55 : elemOk Try.prog 55 := ⟨by rw [c55]; decide, _, z55, rfl, by rw [c55]; rfl⟩
theorem e55 : elemOf Try.prog 55 = some 3 := by kernel_rfl
theorem u55 : Try.prog.underlying 55 = some (.slice 3) := by kernel_rfl
theorem i55 : (Try.prog.info? 55).isSome = true := by kernel_rfl
theorem c57 : Try.prog.cellsOf 57 = 1 := by kernel_rfl
theorem s57 : (Try.prog.underlying 57).isSome = true := by kernel_rfl
theorem a57 : isAgg Try.prog 57 = false := by kernel_rfl
theorem b57 : Try.prog.bytesOf 57 = 8 := by kernel_rfl
theorem z57 : zeroOf Try.prog 57 = some (.nilf) := by kernel_rfl
theorem o57 : elemOk Try.prog 57 := ⟨by rw [c57]; decide, _, z57, rfl, by rw [c57]; rfl⟩
theorem i57 : (Try.prog.info? 57).isSome = true := by kernel_rfl
theorem c59 : Try.prog.cellsOf 59 = 1 := by kernel_rfl
theorem s59 : (Try.prog.underlying 59).isSome = true := by kernel_rfl
theorem a59 : isAgg Try.prog 59 = false := by kernel_rfl
theorem b59 : Try.prog.bytesOf 59 = 8 := by kernel_rfl
theorem z59 : zeroOf Try.prog 59 = some (.nilf) := by kernel_rfl
theorem o59 : elemOk Try.prog 59 := ⟨by rw [c59]; decide, _, z59, rfl, by rw [c59]; rfl⟩
theorem i59 : (Try.prog.info? 59).isSome = true := by kernel_rfl
theorem c60 : Try.prog.cellsOf 60 = 1 := by kernel_rfl
theorem s60 : (Try.prog.underlying 60).isSome = true := by kernel_rfl
theorem a60 : isAgg Try.prog 60 = false := by kernel_rfl
theorem b60 : Try.prog.bytesOf 60 = 8 := by kernel_rfl
theorem z60 : zeroOf Try.prog 60 = some (.nilf) := by kernel_rfl
theorem o60 : elemOk Try.prog 60 := ⟨by rw [c60]; decide, _, z60, rfl, by rw [c60]; rfl⟩
theorem i60 : (Try.prog.info? 60).isSome = true := by kernel_rfl
theorem c61 : Try.prog.cellsOf 61 = 1 := by kernel_rfl
theorem s61 : (Try.prog.underlying 61).isSome = true := by kernel_rfl
theorem a61 : isAgg Try.prog 61 = false := by kernel_rfl
theorem b61 : Try.prog.bytesOf 61 = 8 := by kernel_rfl
theorem z61 : zeroOf Try.prog 61 = some (.nilf) := by kernel_rfl
theorem o61 : elemOk Try.prog 61 := ⟨by rw [c61]; decide, _, z61, rfl, by rw [c61]; rfl⟩
theorem i61 : (Try.prog.info? 61).isSome = true := by kernel_rfl
theorem c62 : Try.prog.cellsOf 62 = 1 := by kernel_rfl
theorem s62 : (Try.prog.underlying 62).isSome = true := by kernel_rfl
theorem a62 : isAgg Try.prog 62 = false := by kernel_rfl
theorem b62 : Try.prog.bytesOf 62 = 8 := by kernel_rfl
theorem z62 : zeroOf Try.prog 62 = some (.nilf) := by kernel_rfl
theorem o62 : elemOk Try.prog 62 := ⟨by rw [c62]; decide, _, z62, rfl, by rw [c62]; rfl⟩
theorem i62 : (Try.prog.info? 62).isSome = true := by kernel_rfl
theorem c63 : Try.prog.cellsOf 63 = 2 := by kernel_rfl
theorem s63 : (Try.prog.underlying 63).isSome = true := by kernel_rfl
theorem a63 : isAgg Try.prog 63 = true := by kernel_rfl
theorem b63 : Try.prog.bytesOf 63 = 32 := by kernel_rfl
theorem z63 : zeroOf Try.prog 63 = some (.agg [.int .i64 0, .nils]) := by kernel_rfl
theorem o63 : elemOk Try.prog 63 := ⟨by rw [c63]; decide, _, z63, rfl, by rw [c63]; rfl⟩
theorem f63_0 : fieldOf Try.prog 63 0 = some (0, false, 1) := by kernel_rfl
theorem f63_1 : fieldOf Try.prog 63 1 = some (1, false, 1) := by kernel_rfl
theorem fo63 : fieldsOk Try.prog 63 = true := by kernel_rfl
theorem r63 : arrOf Try.prog 63 = none := by kernel_rfl
theorem i63 : (Try.prog.info? 63).isSome = true := by kernel_rfl
theorem c64 : Try.prog.cellsOf 64 = 2 := by kernel_rfl
theorem s64 : (Try.prog.underlying 64).isSome = true := by kernel_rfl
theorem a64 : isAgg Try.prog 64 = true := by kernel_rfl
theorem b64 : Try.prog.bytesOf 64 = 32 := by kernel_rfl
theorem z64 : zeroOf Try.prog 64 = some (.agg [.int .i64 0, .nils]) := by kernel_rfl
theorem o64 : elemOk Try.prog 64 := ⟨by rw [c64]; decide, _, z64, rfl, by rw [c64]; rfl⟩
theorem f64_0 : fieldOf Try.prog 64 0 = some (0, false, 1) := by kernel_rfl
theorem f64_1 : fieldOf Try.prog 64 1 = some (1, false, 1) := by kernel_rfl
theorem fo64 : fieldsOk Try.prog 64 = true := by kernel_rfl
theorem r64 : arrOf Try.prog 64 = none := by kernel_rfl
theorem i64 : (Try.prog.info? 64).isSome = true := by kernel_rfl
theorem c65 : Try.prog.cellsOf 65 = 1 := by kernel_rfl
theorem s65 : (Try.prog.underlying 65).isSome = true := by kernel_rfl
theorem a65 : isAgg Try.prog 65 = false := by kernel_rfl
theorem b65 : Try.prog.bytesOf 65 = 24 := by kernel_rfl
theorem z65 : zeroOf Try.prog 65 = some (.nils) := by kernel_rfl
theorem o65 : elemOk Try.prog 65 := ⟨by rw [c65]; decide, _, z65, rfl, by rw [c65]; rfl⟩
theorem e65 : elemOf Try.prog 65 = some 2 := by kernel_rfl
theorem u65 : Try.prog.underlying 65 = some (.slice 2) := by kernel_rfl
theorem i65 : (Try.prog.info? 65).isSome = true := by kernel_rfl
theorem c66 : Try.prog.cellsOf 66 = 1 := by kernel_rfl
theorem s66 : (Try.prog.underlying 66).isSome = true := by kernel_rfl
theorem a66 : isAgg Try.prog 66 = false := by kernel_rfl
theorem b66 : Try.prog.bytesOf 66 = 24 := by kernel_rfl
theorem z66 : zeroOf Try.prog 66 = some (.nils) := by kernel_rfl
theorem o66 : elemOk Try.prog 66 := ⟨by rw [c66]; decide, _, z66, rfl, by rw [c66]; rfl⟩
theorem e66 : elemOf Try.prog 66 = some 70 := by kernel_rfl
theorem u66 : Try.prog.underlying 66 = some (.slice 70) := by kernel_rfl
theorem i66 : (Try.prog.info? 66).isSome = true := by kernel_rfl
theorem c67 : Try.prog.cellsOf 67 = 4 := by kernel_rfl
theorem s67 : (Try.prog.underlying 67).isSome = true := by kernel_rfl
theorem a67 : isAgg Try.prog 67 = true := by kernel_rfl
theorem b67 : Try.prog.bytesOf 67 = 80 := by kernel_rfl
theorem z67 : zeroOf Try.prog 67 = some (.agg [.int .i64 0, .nils, .nils, .nils]) := by kernel_rfl
theorem o67 : elemOk Try.prog 67 := ⟨by rw [c67]; decide, _, z67, rfl, by rw [c67]; rfl⟩
theorem f67_0 : fieldOf Try.prog 67 0 = some (0, false, 1) := by kernel_rfl
theorem f67_1 : fieldOf Try.prog 67 1 = some (1, false, 1) := by kernel_rfl
theorem f67_2 : fieldOf Try.prog 67 2 = some (2, false, 1) := by kernel_rfl
theorem f67_3 : fieldOf Try.prog 67 3 = some (3, false, 1) := by kernel_rfl
theorem fo67 : fieldsOk Try.prog 67 = true := by kernel_rfl
theorem r67 : arrOf Try.prog 67 = none := by kernel_rfl
theorem i67 : (Try.prog.info? 67).isSome = true := by kernel_rfl
theorem c68 : Try.prog.cellsOf 68 = 4 := by kernel_rfl
theorem s68 : (Try.prog.underlying 68).isSome = true := by kernel_rfl
theorem a68 : isAgg Try.prog 68 = true := by kernel_rfl
theorem b68 : Try.prog.bytesOf 68 = 80 := by kernel_rfl
theorem z68 : zeroOf Try.prog 68 = some (.agg [.int .i64 0, .nils, .nils, .nils]) := by kernel_rfl
theorem o68 : elemOk Try.prog 68 := ⟨by rw [c68]; decide, _, z68, rfl, by rw [c68]; rfl⟩
theorem f68_0 : fieldOf Try.prog 68 0 = some (0, false, 1) := by kernel_rfl
theorem f68_1 : fieldOf Try.prog 68 1 = some (1, false, 1) := by kernel_rfl
theorem f68_2 : fieldOf Try.prog 68 2 = some (2, false, 1) := by kernel_rfl
theorem f68_3 : fieldOf Try.prog 68 3 = some (3, false, 1) := by kernel_rfl
theorem fo68 : fieldsOk Try.prog 68 = true := by kernel_rfl
theorem r68 : arrOf Try.prog 68 = none := by kernel_rfl
theorem i68 : (Try.prog.info? 68).isSome = true := by kernel_rfl
theorem c69 : Try.prog.cellsOf 69 = 2 := by kernel_rfl
theorem s69 : (Try.prog.underlying 69).isSome = true := by kernel_rfl
theorem a69 : isAgg Try.prog 69 = true := by kernel_rfl
theorem b69 : Try.prog.bytesOf 69 = 16 := by kernel_rfl
theorem z69 : zeroOf Try.prog 69 = some (.agg [.int .i64 0, .int .i64 0]) := by kernel_rfl
theorem o69 : elemOk Try.prog 69 := ⟨by rw [c69]; decide, _, z69, rfl, by rw [c69]; rfl⟩
theorem f69_0 : fieldOf Try.prog 69 0 = some (0, false, 1) := by kernel_rfl
theorem f69_1 : fieldOf Try.prog 69 1 = some (1, false, 1) := by kernel_rfl
theorem q69 : eqL Try.prog 69 = some [(0, false), (1, false)] := by kernel_rfl
theorem fo69 : fieldsOk Try.prog 69 = true := by kernel_rfl
theorem r69 : arrOf Try.prog 69 = none := by kernel_rfl
theorem i69 : (Try.prog.info? 69).isSome = true := by kernel_rfl
theorem c70 : Try.prog.cellsOf 70 = 2 := by kernel_rfl
theorem s70 : (Try.prog.underlying 70).isSome = true := by kernel_rfl
theorem a70 : isAgg Try.prog 70 = true := by kernel_rfl
theorem b70 : Try.prog.bytesOf 70 = 16 := by kernel_rfl
theorem z70 : zeroOf Try.prog 70 = some (.agg [.int .i64 0, .int .i64 0]) := by kernel_rfl
theorem o70 : elemOk Try.prog 70 := ⟨by rw [c70]; decide, _, z70, rfl, by rw [c70]; rfl⟩
theorem f70_0 : fieldOf Try.prog 70 0 = some (0, false, 1) := by kernel_rfl
theorem f70_1 : fieldOf Try.prog 70 1 = some (1, false, 1) := by kernel_rfl
theorem q70 : eqL Try.prog 70 = some [(0, false), (1, false)] := by kernel_rfl
theorem fo70 : fieldsOk Try.prog 70 = true := by kernel_rfl
theorem r70 : arrOf Try.prog 70 = none := by kernel_rfl
theorem i70 : (Try.prog.info? 70).isSome = true := by kernel_rfl
theorem c71 : Try.prog.cellsOf 71 = 1 := by kernel_rfl
theorem s71 : (Try.prog.underlying 71).isSome = true := by kernel_rfl
theorem a71 : isAgg Try.prog 71 = false := by kernel_rfl
theorem b71 : Try.prog.bytesOf 71 = 24 := by kernel_rfl
theorem z71 : zeroOf Try.prog 71 = some (.nils) := by kernel_rfl
theorem o71 : elemOk Try.prog 71 := ⟨by rw [c71]; decide, _, z71, rfl, by rw [c71]; rfl⟩
theorem e71 : elemOf Try.prog 71 = some 47 := by kernel_rfl
theorem u71 : Try.prog.underlying 71 = some (.slice 47) := by kernel_rfl
theorem i71 : (Try.prog.info? 71).isSome = true := by kernel_rfl
theorem c72 : Try.prog.cellsOf 72 = 1 := by kernel_rfl
theorem s72 : (Try.prog.underlying 72).isSome = true := by kernel_rfl
theorem a72 : isAgg Try.prog 72 = false := by kernel_rfl
theorem b72 : Try.prog.bytesOf 72 = 8 := by kernel_rfl
theorem z72 : zeroOf Try.prog 72 = some (.nilf) := by kernel_rfl
theorem o72 : elemOk Try.prog 72 := ⟨by rw [c72]; decide, _, z72, rfl, by rw [c72]; rfl⟩
theorem i72 : (Try.prog.info? 72).isSome = true := by kernel_rfl
theorem c73 : Try.prog.cellsOf 73 = 1 := by kernel_rfl
theorem s73 : (Try.prog.underlying 73).isSome = true := by kernel_rfl
theorem a73 : isAgg Try.prog 73 = false := by kernel_rfl
theorem b73 : Try.prog.bytesOf 73 = 8 := by kernel_rfl
theorem z73 : zeroOf Try.prog 73 = some (.nilf) := by kernel_rfl
theorem o73 : elemOk Try.prog 73 := ⟨by rw [c73]; decide, _, z73, rfl, by rw [c73]; rfl⟩
theorem i73 : (Try.prog.info? 73).isSome = true := by kernel_rfl
theorem c74 : Try.prog.cellsOf 74 = 2 := by kernel_rfl
theorem s74 : (Try.prog.underlying 74).isSome = true := by kernel_rfl
theorem a74 : isAgg Try.prog 74 = true := by kernel_rfl
theorem b74 : Try.prog.bytesOf 74 = 32 := by kernel_rfl
theorem z74 : zeroOf Try.prog 74 = some (.agg [.int .i64 0, .nils]) := by kernel_rfl
theorem o74 : elemOk Try.prog 74 := ⟨by rw [c74]; decide, _, z74, rfl, by rw [c74]; rfl⟩
theorem f74_0 : fieldOf Try.prog 74 0 = some (0, false, 1) := by kernel_rfl
theorem f74_1 : fieldOf Try.prog 74 1 = some (1, false, 1) := by kernel_rfl
theorem fo74 : fieldsOk Try.prog 74 = true := by kernel_rfl
theorem r74 : arrOf Try.prog 74 = none := by kernel_rfl
theorem i74 : (Try.prog.info? 74).isSome = true := by kernel_rfl
theorem c75 : Try.prog.cellsOf 75 = 1 := by kernel_rfl
theorem s75 : (Try.prog.underlying 75).isSome = true := by kernel_rfl
theorem a75 : isAgg Try.prog 75 = false := by kernel_rfl
theorem b75 : Try.prog.bytesOf 75 = 24 := by kernel_rfl
theorem z75 : zeroOf Try.prog 75 = some (.nils) := by kernel_rfl
theorem o75 : elemOk Try.prog 75 := ⟨by rw [c75]; decide, _, z75, rfl, by rw [c75]; rfl⟩
theorem e75 : elemOf Try.prog 75 = some 78 := by kernel_rfl
theorem u75 : Try.prog.underlying 75 = some (.slice 78) := by kernel_rfl
theorem i75 : (Try.prog.info? 75).isSome = true := by kernel_rfl
theorem c76 : Try.prog.cellsOf 76 = 4 := by kernel_rfl
theorem s76 : (Try.prog.underlying 76).isSome = true := by kernel_rfl
theorem a76 : isAgg Try.prog 76 = true := by kernel_rfl
theorem b76 : Try.prog.bytesOf 76 = 80 := by kernel_rfl
theorem z76 : zeroOf Try.prog 76 = some (.agg [.int .i64 0, .nils, .nils, .nils]) := by kernel_rfl
theorem o76 : elemOk Try.prog 76 := ⟨by rw [c76]; decide, _, z76, rfl, by rw [c76]; rfl⟩
theorem f76_0 : fieldOf Try.prog 76 0 = some (0, false, 1) := by kernel_rfl
theorem f76_1 : fieldOf Try.prog 76 1 = some (1, false, 1) := by kernel_rfl
theorem f76_2 : fieldOf Try.prog 76 2 = some (2, false, 1) := by kernel_rfl
theorem f76_3 : fieldOf Try.prog 76 3 = some (3, false, 1) := by kernel_rfl
theorem fo76 : fieldsOk Try.prog 76 = true := by kernel_rfl
theorem r76 : arrOf Try.prog 76 = none := by kernel_rfl
theorem i76 : (Try.prog.info? 76).isSome = true := by kernel_rfl
theorem c77 : Try.prog.cellsOf 77 = 4 := by kernel_rfl
theorem s77 : (Try.prog.underlying 77).isSome = true := by kernel_rfl
theorem a77 : isAgg Try.prog 77 = true := by kernel_rfl
theorem b77 : Try.prog.bytesOf 77 = 80 := by kernel_rfl
theorem z77 : zeroOf Try.prog 77 = some (.agg [.int .i64 0, .nils, .nils, .nils]) := by kernel_rfl
theorem o77 : elemOk Try.prog 77 := ⟨by rw [c77]; decide, _, z77, rfl, by rw [c77]; rfl⟩
theorem f77_0 : fieldOf Try.prog 77 0 = some (0, false, 1) := by kernel_rfl
theorem f77_1 : fieldOf Try.prog 77 1 = some (1, false, 1) := by kernel_rfl
theorem f77_2 : fieldOf Try.prog 77 2 = some (2, false, 1) := by kernel_rfl
theorem f77_3 : fieldOf Try.prog 77 3 = some (3, false, 1) := by kernel_rfl
theorem fo77 : fieldsOk Try.prog 77 = true := by kernel_rfl
theorem r77 : arrOf Try.prog 77 = none := by kernel_rfl
theorem i77 : (Try.prog.info? 77).isSome = true := by kernel_rfl
theorem c78 : Try.prog.cellsOf 78 = 2 := by kernel_rfl
theorem s78 : (Try.prog.underlying 78).isSome = true := by kernel_rfl
theorem a78 : isAgg Try.prog 78 = true := by kernel_rfl
theorem b78 : Try.prog.bytesOf 78 = 16 := by kernel_rfl
theorem z78 : zeroOf Try.prog 78 = some (.agg [.int .i64 0, .int .i64 0]) := by kernel_rfl
theorem o78 : elemOk Try.prog 78 := ⟨by rw [c78]; decide, _, z78, rfl, by rw [c78]; rfl⟩
theorem f78_0 : fieldOf Try.prog 78 0 = some (0, false, 1) := by kernel_rfl
theorem f78_1 : fieldOf Try.prog 78 1 = some (1, false, 1) := by kernel_rfl
theorem q78 : eqL Try.prog 78 = some [(0, false), (1, false)] := by kernel_rfl
theorem fo78 : fieldsOk Try.prog 78 = true := by kernel_rfl
theorem r78 : arrOf Try.prog 78 = none := by kernel_rfl
theorem i78 : (Try.prog.info? 78).isSome = true := by kernel_rfl
theorem c79 : Try.prog.cellsOf 79 = 1 := by kernel_rfl
theorem s79 : (Try.prog.underlying 79).isSome = true := by kernel_rfl
theorem a79 : isAgg Try.prog 79 = false := by kernel_rfl
theorem b79 : Try.prog.bytesOf 79 = 8 := by kernel_rfl
theorem z79 : zeroOf Try.prog 79 = some (.nilf) := by kernel_rfl
theorem o79 : elemOk Try.prog 79 := ⟨by rw [c79]; decide, _, z79, rfl, by rw [c79]; rfl⟩
theorem i79 : (Try.prog.info? 79).isSome = true := by kernel_rfl
theorem c81 : Try.prog.cellsOf 81 = 1 := by kernel_rfl
theorem s81 : (Try.prog.underlying 81).isSome = true := by kernel_rfl
theorem a81 : isAgg Try.prog 81 = false := by kernel_rfl
theorem b81 : Try.prog.bytesOf 81 = 8 := by kernel_rfl
theorem z81 : zeroOf Try.prog 81 = some (.nilf) := by kernel_rfl
theorem o81 : elemOk Try.prog 81 := ⟨by rw [c81]; decide, _, z81, rfl, by rw [c81]; rfl⟩
theorem i81 : (Try.prog.info? 81).isSome = true := by kernel_rfl
theorem c82 : Try.prog.cellsOf 82 = 1 := by kernel_rfl
theorem s82 : (Try.prog.underlying 82).isSome = true := by kernel_rfl
theorem a82 : isAgg Try.prog 82 = false := by kernel_rfl
theorem b82 : Try.prog.bytesOf 82 = 8 := by kernel_rfl
theorem z82 : zeroOf Try.prog 82 = some (.nilf) := by kernel_rfl
theorem o82 : elemOk Try.prog 82 := ⟨by rw [c82]; decide, _, z82, rfl, by rw [c82]; rfl⟩
theorem i82 : (Try.prog.info? 82).isSome = true := by kernel_rfl
theorem c83 : Try.prog.cellsOf 83 = 1 := by kernel_rfl
theorem s83 : (Try.prog.underlying 83).isSome = true := by kernel_rfl
theorem a83 : isAgg Try.prog 83 = false := by kernel_rfl
theorem b83 : Try.prog.bytesOf 83 = 8 := by kernel_rfl
theorem z83 : zeroOf Try.prog 83 = some (.nilp) := by kernel_rfl
theorem o83 : elemOk Try.prog 83 := ⟨by rw [c83]; decide, _, z83, rfl, by rw [c83]; rfl⟩
theorem p83 : isPtr Try.prog 83 = true := by kernel_rfl
theorem i83 : (Try.prog.info? 83).isSome = true := by kernel_rfl
theorem c84 : Try.prog.cellsOf 84 = 12 := by kernel_rfl
theorem s84 : (Try.prog.underlying 84).isSome = true := by kernel_rfl
theorem a84 : isAgg Try.prog 84 = true := by kernel_rfl
theorem b84 : Try.prog.bytesOf 84 = 128 := by kernel_rfl
theorem z84 : zeroOf Try.prog 84 = some (.agg [.nils, .nils, .int .i64 0, .int .i64 0, .int .i64 0, .int .i64 0, .int .i64 0, .int .i64 0, .bool false, .int .i64 0, .int .i64 0, .int .i64 0]) := by kernel_rfl
theorem o84 : elemOk Try.prog 84 := ⟨by rw [c84]; decide, _, z84, rfl, by rw [c84]; rfl⟩
theorem f84_0 : fieldOf Try.prog 84 0 = some (0, true, 2) := by kernel_rfl
theorem f84_1 : fieldOf Try.prog 84 1 = some (2, true, 3) := by kernel_rfl
theorem f84_2 : fieldOf Try.prog 84 2 = some (5, true, 5) := by kernel_rfl
theorem f84_3 : fieldOf Try.prog 84 3 = some (10, false, 1) := by kernel_rfl
theorem f84_4 : fieldOf Try.prog 84 4 = some (11, false, 1) := by kernel_rfl
theorem fo84 : fieldsOk Try.prog 84 = true := by kernel_rfl
theorem r84 : arrOf Try.prog 84 = none := by kernel_rfl
theorem i84 : (Try.prog.info? 84).isSome = true := by kernel_rfl
theorem c85 : Try.prog.cellsOf 85 = 12 := by kernel_rfl
theorem s85 : (Try.prog.underlying 85).isSome = true := by kernel_rfl
theorem a85 : isAgg Try.prog 85 = true := by kernel_rfl
theorem b85 : Try.prog.bytesOf 85 = 128 := by kernel_rfl
theorem z85 : zeroOf Try.prog 85 = some (.agg [.nils, .nils, .int .i64 0, .int .i64 0, .int .i64 0, .int .i64 0, .int .i64 0, .int .i64 0, .bool false, .int .i64 0, .int .i64 0, .int .i64 0]) := by kernel_rfl
theorem o85 : elemOk Try.prog 85 := ⟨by rw [c85]; decide, _, z85, rfl, by rw [c85]; rfl⟩
theorem f85_0 : fieldOf Try.prog 85 0 = some (0, true, 2) := by kernel_rfl
theorem f85_1 : fieldOf Try.prog 85 1 = some (2, true, 3) := by kernel_rfl
theorem f85_2 : fieldOf Try.prog 85 2 = some (5, true, 5) := by kernel_rfl
theorem f85_3 : fieldOf Try.prog 85 3 = some (10, false, 1) := by kernel_rfl
theorem f85_4 : fieldOf Try.prog 85 4 = some (11, false, 1) := by kernel_rfl
theorem fo85 : fieldsOk Try.prog 85 = true := by kernel_rfl
theorem r85 : arrOf Try.prog 85 = none := by kernel_rfl
theorem i85 : (Try.prog.info? 85).isSome = true := by kernel_rfl
theorem c86 : Try.prog.cellsOf 86 = 1 := by kernel_rfl
theorem s86 : (Try.prog.underlying 86).isSome = true := by kernel_rfl
theorem a86 : isAgg Try.prog 86 = false := by kernel_rfl
theorem b86 : Try.prog.bytesOf 86 = 8 := by kernel_rfl
theorem z86 : zeroOf Try.prog 86 = some (.nilf) := by kernel_rfl
theorem o86 : elemOk Try.prog 86 := ⟨by rw [c86]; decide, _, z86, rfl, by rw [c86]; rfl⟩
theorem i86 : (Try.prog.info? 86).isSome = true := by kernel_rfl
theorem c88 : Try.prog.cellsOf 88 = 1 := by kernel_rfl
theorem s88 : (Try.prog.underlying 88).isSome = true := by kernel_rfl
theorem a88 : isAgg Try.prog 88 = false := by kernel_rfl
theorem b88 : Try.prog.bytesOf 88 = 8 := by kernel_rfl
theorem z88 : zeroOf Try.prog 88 = some (.nilf) := by kernel_rfl
theorem o88 : elemOk Try.prog 88 := ⟨by rw [c88]; decide, _, z88, rfl, by rw [c88]; rfl⟩
theorem i88 : (Try.prog.info? 88).isSome = true := by kernel_rfl
theorem c89 : Try.prog.cellsOf 89 = 1 := by kernel_rfl
theorem s89 : (Try.prog.underlying 89).isSome = true := by kernel_rfl
theorem a89 : isAgg Try.prog 89 = false := by kernel_rfl
theorem b89 : Try.prog.bytesOf 89 = 8 := by kernel_rfl
theorem z89 : zeroOf Try.prog 89 = some (.nilf) := by kernel_rfl
theorem o89 : elemOk Try.prog 89 := ⟨by rw [c89]; decide, _, z89, rfl, by rw [c89]; rfl⟩
theorem i89 : (Try.prog.info? 89).isSome = true := by kernel_rfl
theorem c91 : Try.prog.cellsOf 91 = 1 := by kernel_rfl
theorem s91 : (Try.prog.underlying 91).isSome = true := by kernel_rfl
theorem a91 : isAgg Try.prog 91 = false := by kernel_rfl
theorem b91 : Try.prog.bytesOf 91 = 8 := by kernel_rfl
theorem z91 : zeroOf Try.prog 91 = some (.nilf) := by kernel_rfl
theorem o91 : elemOk Try.prog 91 := ⟨by rw [c91]; decide, _, z91, rfl, by rw [c91]; rfl⟩
theorem i91 : (Try.prog.info? 91).isSome = true := by kernel_rfl
theorem c93 : Try.prog.cellsOf 93 = 1 := by kernel_rfl
theorem s93 : (Try.prog.underlying 93).isSome = true := by kernel_rfl
theorem a93 : isAgg Try.prog 93 = false := by kernel_rfl
theorem b93 : Try.prog.bytesOf 93 = 8 := by kernel_rfl
theorem z93 : zeroOf Try.prog 93 = some (.nilf) := by kernel_rfl
theorem o93 : elemOk Try.prog 93 := ⟨by rw [c93]; decide, _, z93, rfl, by rw [c93]; rfl⟩
theorem i93 : (Try.prog.info? 93).isSome = true := by kernel_rfl
theorem c94 : Try.prog.cellsOf 94 = 1 := by kernel_rfl
theorem s94 : (Try.prog.underlying 94).isSome = true := by kernel_rfl
theorem a94 : isAgg Try.prog 94 = false := by kernel_rfl
theorem b94 : Try.prog.bytesOf 94 = 8 := by kernel_rfl
theorem z94 : zeroOf Try.prog 94 = some (.nilf) := by kernel_rfl
theorem o94 : elemOk Try.prog 94 := ⟨by rw [c94]; decide, _, z94, rfl, by rw [c94]; rfl⟩
theorem i94 : (Try.prog.info? 94).isSome = true := by kernel_rfl
theorem c96 : Try.prog.cellsOf 96 = 1 := by kernel_rfl
theorem s96 : (Try.prog.underlying 96).isSome = true := by kernel_rfl
theorem a96 : isAgg Try.prog 96 = false := by kernel_rfl
theorem b96 : Try.prog.bytesOf 96 = 8 := by kernel_rfl
theorem z96 : zeroOf Try.prog 96 = some (.nilf) := by kernel_rfl
theorem o96 : elemOk Try.prog 96 := ⟨by rw [c96]; decide, _, z96, rfl, by rw [c96]; rfl⟩
theorem i96 : (Try.prog.info? 96).isSome = true := by kernel_rfl
theorem c97 : Try.prog.cellsOf 97 = 1 := by kernel_rfl
theorem s97 : (Try.prog.underlying 97).isSome = true := by kernel_rfl
theorem a97 : isAgg Try.prog 97 = false := by kernel_rfl
theorem b97 : Try.prog.bytesOf 97 = 8 := by kernel_rfl
theorem z97 : zeroOf Try.prog 97 = some (.nilf) := by kernel_rfl
theorem o97 : elemOk Try.prog 97 := ⟨by rw [c97]; decide, _, z97, rfl, by rw [c97]; rfl⟩
theorem i97 : (Try.prog.info? 97).isSome = true := by kernel_rfl
theorem c98 : Try.prog.cellsOf 98 = 1 := by kernel_rfl
theorem s98 : (Try.prog.underlying 98).isSome = true := by kernel_rfl
theorem a98 : isAgg Try.prog 98 = false := by kernel_rfl
theorem b98 : Try.prog.bytesOf 98 = 8 := by kernel_rfl
theorem z98 : zeroOf Try.prog 98 = some (.nilf) := by kernel_rfl
theorem o98 : elemOk Try.prog 98 := ⟨by rw [c98]; decide, _, z98, rfl, by rw [c98]; rfl⟩
theorem i98 : (Try.prog.info? 98).isSome = true := by kernel_rfl
theorem c99 : Try.prog.cellsOf 99 = 1 := by kernel_rfl
theorem s99 : (Try.prog.underlying 99).isSome = true := by kernel_rfl
theorem a99 : isAgg Try.prog 99 = false := by kernel_rfl
theorem b99 : Try.prog.bytesOf 99 = 8 := by kernel_rfl
theorem z99 : zeroOf Try.prog 99 = some (.nilf) := by kernel_rfl
theorem o99 : elemOk Try.prog 99 := ⟨by rw [c99]; decide, _, z99, rfl, by rw [c99]; rfl⟩
theorem i99 : (Try.prog.info? 99).isSome = true := by kernel_rfl
theorem c100 : Try.prog.cellsOf 100 = 1 := by kernel_rfl
theorem s100 : (Try.prog.underlying 100).isSome = true := by kernel_rfl
theorem a100 : isAgg Try.prog 100 = false := by kernel_rfl
theorem b100 : Try.prog.bytesOf 100 = 8 := by kernel_rfl
theorem z100 : zeroOf Try.prog 100 = some (.nilf) := by kernel_rfl
theorem o100 : elemOk Try.prog 100 := ⟨by rw [c100]; decide, _, z100, rfl, by rw [c100]; rfl⟩
theorem i100 : (Try.prog.info? 100).isSome = true := by kernel_rfl
theorem c101 : Try.prog.cellsOf 101 = 1 := by kernel_rfl
theorem s101 : (Try.prog.underlying 101).isSome = true := by kernel_rfl
theorem a101 : isAgg Try.prog 101 = false := by kernel_rfl
theorem b101 : Try.prog.bytesOf 101 = 8 := by kernel_rfl
theorem z101 : zeroOf Try.prog 101 = some (.nilf) := by kernel_rfl
theorem o101 : elemOk Try.prog 101 := ⟨by rw [c101]; decide, _, z101, rfl, by rw [c101]; rfl⟩
theorem i101 : (Try.prog.info? 101).isSome = true := by kernel_rfl
theorem c102 : Try.prog.cellsOf 102 = 1 := by kernel_rfl
theorem s102 : (Try.prog.underlying 102).isSome = true := by kernel_rfl
theorem a102 : isAgg Try.prog 102 = false := by kernel_rfl
theorem b102 : Try.prog.bytesOf 102 = 8 := by kernel_rfl
theorem z102 : zeroOf Try.prog 102 = some (.nilf) := by kernel_rfl
theorem o102 : elemOk Try.prog 102 := ⟨by rw [c102]; decide, _, z102, rfl, by rw [c102]; rfl⟩
theorem i102 : (Try.prog.info? 102).isSome = true := by kernel_rfl
theorem c104 : Try.prog.cellsOf 104 = 1 := by kernel_rfl
theorem s104 : (Try.prog.underlying 104).isSome = true := by kernel_rfl
theorem a104 : isAgg Try.prog 104 = false := by kernel_rfl
theorem b104 : Try.prog.bytesOf 104 = 8 := by kernel_rfl
theorem z104 : zeroOf Try.prog 104 = some (.nilf) := by kernel_rfl
theorem o104 : elemOk Try.prog 104 := ⟨by rw [c104]; decide, _, z104, rfl, by rw [c104]; rfl⟩
theorem i104 : (Try.prog.info? 104).isSome = true := by kernel_rfl
theorem c105 : Try.prog.cellsOf 105 = 1 := by kernel_rfl
theorem s105 : (Try.prog.underlying 105).isSome = true := by kernel_rfl
theorem a105 : isAgg Try.prog 105 = false := by kernel_rfl
theorem b105 : Try.prog.bytesOf 105 = 8 := by kernel_rfl
theorem z105 : zeroOf Try.prog 105 = some (.nilf) := by kernel_rfl
theorem o105 : elemOk Try.prog 105 := ⟨by rw [c105]; decide, _, z105, rfl, by rw [c105]; rfl⟩
theorem i105 : (Try.prog.info? 105).isSome = true := by kernel_rfl
theorem c107 : Try.prog.cellsOf 107 = 1 := by kernel_rfl
theorem s107 : (Try.prog.underlying 107).isSome = true := by kernel_rfl
theorem a107 : isAgg Try.prog 107 = false := by kernel_rfl
theorem b107 : Try.prog.bytesOf 107 = 8 := by kernel_rfl
theorem z107 : zeroOf Try.prog 107 = some (.nilf) := by kernel_rfl
theorem o107 : elemOk Try.prog 107 := ⟨by rw [c107]; decide, _, z107, rfl, by rw [c107]; rfl⟩
theorem i107 : (Try.prog.info? 107).isSome = true := by kernel_rfl
theorem c108 : Try.prog.cellsOf 108 = 1 := by kernel_rfl
theorem s108 : (Try.prog.underlying 108).isSome = true := by kernel_rfl
theorem a108 : isAgg Try.prog 108 = false := by kernel_rfl
theorem b108 : Try.prog.bytesOf 108 = 8 := by kernel_rfl
theorem z108 : zeroOf Try.prog 108 = some (.nilf) := by kernel_rfl
theorem o108 : elemOk Try.prog 108 := ⟨by rw [c108]; decide, _, z108, rfl, by rw [c108]; rfl⟩
theorem i108 : (Try.prog.info? 108).isSome = true := by kernel_rfl
theorem c110 : Try.prog.cellsOf 110 = 1 := by kernel_rfl
theorem s110 : (Try.prog.underlying 110).isSome = true := by kernel_rfl
theorem a110 : isAgg Try.prog 110 = false := by kernel_rfl
theorem b110 : Try.prog.bytesOf 110 = 8 := by kernel_rfl
theorem z110 : zeroOf Try.prog 110 = some (.nilf) := by kernel_rfl
theorem o110 : elemOk Try.prog 110 := ⟨by rw [c110]; decide, _, z110, rfl, by rw [c110]; rfl⟩
theorem i110 : (Try.prog.info? 110).isSome = true := by kernel_rfl
theorem c112 : Try.prog.cellsOf 112 = 1 := by kernel_rfl
theorem s112 : (Try.prog.underlying 112).isSome = true := by kernel_rfl
theorem a112 : isAgg Try.prog 112 = false := by kernel_rfl
theorem b112 : Try.prog.bytesOf 112 = 8 := by kernel_rfl
theorem z112 : zeroOf Try.prog 112 = some (.nilf) := by kernel_rfl
theorem o112 : elemOk Try.prog 112 := ⟨by rw [c112]; decide, _, z112, rfl, by rw [c112]; rfl⟩
theorem i112 : (Try.prog.info? 112).isSome = true := by kernel_rfl
theorem c113 : Try.prog.cellsOf 113 = 1 := by kernel_rfl
theorem s113 : (Try.prog.underlying 113).isSome = true := by kernel_rfl
theorem a113 : isAgg Try.prog 113 = false := by kernel_rfl
theorem b113 : Try.prog.bytesOf 113 = 8 := by kernel_rfl
theorem z113 : zeroOf Try.prog 113 = some (.nilf) := by kernel_rfl
theorem o113 : elemOk Try.prog 113 := ⟨by rw [c113]; decide, _, z113, rfl, by rw [c113]; rfl⟩
theorem i113 : (Try.prog.info? 113).isSome = true := by kernel_rfl
theorem c115 : Try.prog.cellsOf 115 = 1 := by kernel_rfl
theorem s115 : (Try.prog.underlying 115).isSome = true := by kernel_rfl
theorem a115 : isAgg Try.prog 115 = false := by kernel_rfl
theorem b115 : Try.prog.bytesOf 115 = 8 := by kernel_rfl
theorem z115 : zeroOf Try.prog 115 = some (.nilf) := by kernel_rfl
theorem o115 : elemOk Try.prog 115 := ⟨by rw [c115]; decide, _, z115, rfl, by rw [c115]; rfl⟩
theorem i115 : (Try.prog.info? 115).isSome = true := by kernel_rfl
theorem c116 : Try.prog.cellsOf 116 = 1 := by kernel_rfl
theorem s116 : (Try.prog.underlying 116).isSome = true := by kernel_rfl
theorem a116 : isAgg Try.prog 116 = false := by kernel_rfl
theorem b116 : Try.prog.bytesOf 116 = 8 := by kernel_rfl
theorem z116 : zeroOf Try.prog 116 = some (.nilf) := by kernel_rfl
theorem o116 : elemOk Try.prog 116 := ⟨by rw [c116]; decide, _, z116, rfl, by rw [c116]; rfl⟩
theorem i116 : (Try.prog.info? 116).isSome = true := by kernel_rfl
theorem c118 : Try.prog.cellsOf 118 = 1 := by kernel_rfl
theorem s118 : (Try.prog.underlying 118).isSome = true := by kernel_rfl
theorem a118 : isAgg Try.prog 118 = false := by kernel_rfl
theorem b118 : Try.prog.bytesOf 118 = 8 := by kernel_rfl
theorem z118 : zeroOf Try.prog 118 = some (.nilf) := by kernel_rfl
theorem o118 : elemOk Try.prog 118 := ⟨by rw [c118]; decide, _, z118, rfl, by rw [c118]; rfl⟩
theorem i118 : (Try.prog.info? 118).isSome = true := by kernel_rfl
theorem c119 : Try.prog.cellsOf 119 = 1 := by kernel_rfl
theorem s119 : (Try.prog.underlying 119).isSome = true := by kernel_rfl
theorem a119 : isAgg Try.prog 119 = false := by kernel_rfl
theorem b119 : Try.prog.bytesOf 119 = 8 := by kernel_rfl
theorem z119 : zeroOf Try.prog 119 = some (.nilf) := by kernel_rfl
theorem o119 : elemOk Try.prog 119 := ⟨by rw [c119]; decide, _, z119, rfl, by rw [c119]; rfl⟩
theorem i119 : (Try.prog.info? 119).isSome = true := by kernel_rfl
theorem c120 : Try.prog.cellsOf 120 = 1 := by kernel_rfl
theorem s120 : (Try.prog.underlying 120).isSome = true := by kernel_rfl
theorem a120 : isAgg Try.prog 120 = false := by kernel_rfl
theorem b120 : Try.prog.bytesOf 120 = 8 := by kernel_rfl
theorem z120 : zeroOf Try.prog 120 = some (.nilf) := by kernel_rfl
theorem o120 : elemOk Try.prog 120 := ⟨by rw [c120]; decide, _, z120, rfl, by rw [c120]; rfl⟩
theorem i120 : (Try.prog.info? 120).isSome = true := by kernel_rfl
theorem c122 : Try.prog.cellsOf 122 = 1 := by kernel_rfl
theorem s122 : (Try.prog.underlying 122).isSome = true := by kernel_rfl
theorem a122 : isAgg Try.prog 122 = false := by kernel_rfl
theorem b122 : Try.prog.bytesOf 122 = 8 := by kernel_rfl
theorem z122 : zeroOf Try.prog 122 = some (.nilf) := by kernel_rfl
theorem o122 : elemOk Try.prog 122 := ⟨by rw [c122]; decide, _, z122, rfl, by rw [c122]; rfl⟩
theorem i122 : (Try.prog.info? 122).isSome = true := by kernel_rfl
theorem c124 : Try.prog.cellsOf 124 = 1 := by kernel_rfl
theorem s124 : (Try.prog.underlying 124).isSome = true := by kernel_rfl
theorem a124 : isAgg Try.prog 124 = false := by kernel_rfl
theorem b124 : Try.prog.bytesOf 124 = 8 := by kernel_rfl
theorem z124 : zeroOf Try.prog 124 = some (.nilf) := by kernel_rfl
theorem o124 : elemOk Try.prog 124 := ⟨by rw [c124]; decide, _, z124, rfl, by rw [c124]; rfl⟩
theorem i124 : (Try.prog.info? 124).isSome = true := by kernel_rfl
theorem c125 : Try.prog.cellsOf 125 = 1 := by kernel_rfl
theorem s125 : (Try.prog.underlying 125).isSome = true := by kernel_rfl
theorem a125 : isAgg Try.prog 125 = false := by kernel_rfl
theorem b125 : Try.prog.bytesOf 125 = 8 := by kernel_rfl
theorem z125 : zeroOf Try.prog 125 = some (.nilf) := by kernel_rfl
theorem o125 : elemOk Try.prog 125 := ⟨by rw [c125]; decide, _, z125, rfl, by rw [c125]; rfl⟩
theorem i125 : (Try.prog.info? 125).isSome = true := by kernel_rfl
theorem c126 : Try.prog.cellsOf 126 = 4 := by kernel_rfl
theorem s126 : (Try.prog.underlying 126).isSome = true := by kernel_rfl
theorem a126 : isAgg Try.prog 126 = true := by kernel_rfl
theorem b126 : Try.prog.bytesOf 126 = 40 := by kernel_rfl
theorem z126 : zeroOf Try.prog 126 = some (.agg [.nilp, .nilp, .nilp, .str ⟨#[]⟩]) := by kernel_rfl
theorem o126 : elemOk Try.prog 126 := ⟨by rw [c126]; decide, _, z126, rfl, by rw [c126]; rfl⟩
theorem f126_0 : fieldOf Try.prog 126 0 = some (0, false, 1) := by kernel_rfl
theorem f126_1 : fieldOf Try.prog 126 1 = some (1, false, 1) := by kernel_rfl
theorem f126_2 : fieldOf Try.prog 126 2 = some (2, false, 1) := by kernel_rfl
theorem f126_3 : fieldOf Try.prog 126 3 = some (3, false, 1) := by kernel_rfl
theorem fo126 : fieldsOk Try.prog 126 = true := by kernel_rfl
theorem r126 : arrOf Try.prog 126 = none := by kernel_rfl
theorem i126 : (Try.prog.info? 126).isSome = true := by kernel_rfl
theorem c127 : Try.prog.cellsOf 127 = 4 := by kernel_rfl
theorem s127 : (Try.prog.underlying 127).isSome = true := by kernel_rfl
theorem a127 : isAgg Try.prog 127 = true := by kernel_rfl
theorem b127 : Try.prog.bytesOf 127 = 40 := by kernel_rfl
theorem z127 : zeroOf Try.prog 127 = some (.agg [.nilp, .nilp, .nilp, .str ⟨#[]⟩]) := by kernel_rfl
theorem o127 : elemOk Try.prog 127 := ⟨by rw [c127]; decide, _, z127, rfl, by rw [c127]; rfl⟩
theorem f127_0 : fieldOf Try.prog 127 0 = some (0, false, 1) := by kernel_rfl
theorem f127_1 : fieldOf Try.prog 127 1 = some (1, false, 1) := by kernel_rfl
theorem f127_2 : fieldOf Try.prog 127 2 = some (2, false, 1) := by kernel_rfl
theorem f127_3 : fieldOf Try.prog 127 3 = some (3, false, 1) := by kernel_rfl
theorem fo127 : fieldsOk Try.prog 127 = true := by kernel_rfl
theorem r127 : arrOf Try.prog 127 = none := by kernel_rfl
theorem i127 : (Try.prog.info? 127).isSome = true := by kernel_rfl
theorem c131 : Try.prog.cellsOf 131 = 1 := by kernel_rfl
theorem s131 : (Try.prog.underlying 131).isSome = true := by kernel_rfl
theorem a131 : isAgg Try.prog 131 = false := by kernel_rfl
theorem b131 : Try.prog.bytesOf 131 = 8 := by kernel_rfl
theorem z131 : zeroOf Try.prog 131 = some (.nilf) := by kernel_rfl
theorem o131 : elemOk Try.prog 131 := ⟨by rw [c131]; decide, _, z131, rfl, by rw [c131]; rfl⟩
theorem i131 : (Try.prog.info? 131).isSome = true := by kernel_rfl
theorem c132 : Try.prog.cellsOf 132 = 1 := by kernel_rfl
theorem s132 : (Try.prog.underlying 132).isSome = true := by kernel_rfl
theorem a132 : isAgg Try.prog 132 = false := by kernel_rfl
theorem b132 : Try.prog.bytesOf 132 = 4 := by kernel_rfl
theorem z132 : zeroOf Try.prog 132 = some (.int .u32 0) := by kernel_rfl
theorem o132 : elemOk Try.prog 132 := ⟨by rw [c132]; decide, _, z132, rfl, by rw [c132]; rfl⟩
theorem i132 : (Try.prog.info? 132).isSome = true := by kernel_rfl
theorem u132 : Try.prog.underlying 132 = some (.int .u32) := by kernel_rfl
theorem c133 : Try.prog.cellsOf 133 = 1 := by kernel_rfl
theorem s133 : (Try.prog.underlying 133).isSome = true := by kernel_rfl
theorem a133 : isAgg Try.prog 133 = false := by kernel_rfl
theorem b133 : Try.prog.bytesOf 133 = 1 := by kernel_rfl
theorem z133 : zeroOf Try.prog 133 = some (.int .u8 0) := by kernel_rfl
theorem o133 : elemOk Try.prog 133 := ⟨by rw [c133]; decide, _, z133, rfl, by rw [c133]; rfl⟩
theorem i133 : (Try.prog.info? 133).isSome = true := by kernel_rfl
theorem u133 : Try.prog.underlying 133 = some (.int .u8) := by kernel_rfl
theorem c134 : Try.prog.cellsOf 134 = 1 := by kernel_rfl
theorem s134 : (Try.prog.underlying 134).isSome = true := by kernel_rfl
theorem a134 : isAgg Try.prog 134 = false := by kernel_rfl
theorem b134 : Try.prog.bytesOf 134 = 1 := by kernel_rfl
theorem z134 : zeroOf Try.prog 134 = some (.int .u8 0) := by kernel_rfl
theorem o134 : elemOk Try.prog 134 := ⟨by rw [c134]; decide, _, z134, rfl, by rw [c134]; rfl⟩
theorem i134 : (Try.prog.info? 134).isSome = true := by kernel_rfl
theorem u134 : Try.prog.underlying 134 = some (.int .u8) := by kernel_rfl
theorem c135 : Try.prog.cellsOf 135 = 1 := by kernel_rfl
theorem s135 : (Try.prog.underlying 135).isSome = true := by kernel_rfl
theorem a135 : isAgg Try.prog 135 = false := by kernel_rfl
theorem b135 : Try.prog.bytesOf 135 = 8 := by kernel_rfl
theorem z135 : zeroOf Try.prog 135 = some (.nilf) := by kernel_rfl
theorem o135 : elemOk Try.prog 135 := ⟨by rw [c135]; decide, _, z135, rfl, by rw [c135]; rfl⟩
theorem i135 : (Try.prog.info? 135).isSome = true := by kernel_rfl
theorem c136 : Try.prog.cellsOf 136 = 1 := by kernel_rfl
theorem s136 : (Try.prog.underlying 136).isSome = true := by kernel_rfl
theorem a136 : isAgg Try.prog 136 = false := by kernel_rfl
theorem b136 : Try.prog.bytesOf 136 = 8 := by kernel_rfl
theorem z136 : zeroOf Try.prog 136 = some (.nilp) := by kernel_rfl
theorem o136 : elemOk Try.prog 136 := ⟨by rw [c136]; decide, _, z136, rfl, by rw [c136]; rfl⟩
theorem p136 : isPtr Try.prog 136 = true := by kernel_rfl
theorem i136 : (Try.prog.info? 136).isSome = true := by kernel_rfl
theorem c137 : Try.prog.cellsOf 137 = 1 := by kernel_rfl
theorem s137 : (Try.prog.underlying 137).isSome = true := by kernel_rfl
theorem a137 : isAgg Try.prog 137 = false := by kernel_rfl
theorem b137 : Try.prog.bytesOf 137 = 4 := by kernel_rfl
theorem z137 : zeroOf Try.prog 137 = some (.int .i32 0) := by kernel_rfl
theorem o137 : elemOk Try.prog 137 := ⟨by rw [c137]; decide, _, z137, rfl, by rw [c137]; rfl⟩
theorem i137 : (Try.prog.info? 137).isSome = true := by kernel_rfl
theorem u137 : Try.prog.underlying 137 = some (.int .i32) := by kernel_rfl
theorem c138 : Try.prog.cellsOf 138 = 1 := by kernel_rfl
theorem s138 : (Try.prog.underlying 138).isSome = true := by kernel_rfl
theorem a138 : isAgg Try.prog 138 = false := by kernel_rfl
theorem b138 : Try.prog.bytesOf 138 = 4 := by kernel_rfl
theorem z138 : zeroOf Try.prog 138 = some (.int .i32 0) := by kernel_rfl
theorem o138 : elemOk Try.prog 138 := ⟨by rw [c138]; decide, _, z138, rfl, by rw [c138]; rfl⟩
theorem i138 : (Try.prog.info? 138).isSome = true := by kernel_rfl
theorem u138 : Try.prog.underlying 138 = some (.int .i32) := by kernel_rfl
theorem c139 : Try.prog.cellsOf 139 = 11 := by kernel_rfl
theorem s139 : (Try.prog.underlying 139).isSome = true := by kernel_rfl
theorem a139 : isAgg Try.prog 139 = true := by kernel_rfl
theorem b139 : Try.prog.bytesOf 139 = 48 := by kernel_rfl
theorem z139 : zeroOf Try.prog 139 = some (.agg [.int .u64 0, .int .u64 0, .int .u32 0, .int .u8 0, .int .u8 0, .int .u8 0, .int .u8 0, .nilf, .nilp, .int .i32 0, .int .i32 0]) := by kernel_rfl
theorem o139 : elemOk Try.prog 139 := ⟨by rw [c139]; decide, _, z139, rfl, by rw [c139]; rfl⟩
theorem f139_0 : fieldOf Try.prog 139 0 = some (0, false, 1) := by kernel_rfl
theorem f139_1 : fieldOf Try.prog 139 1 = some (1, false, 1) := by kernel_rfl
theorem f139_2 : fieldOf Try.prog 139 2 = some (2, false, 1) := by kernel_rfl
theorem f139_3 : fieldOf Try.prog 139 3 = some (3, false, 1) := by kernel_rfl
theorem f139_4 : fieldOf Try.prog 139 4 = some (4, false, 1) := by kernel_rfl
theorem f139_5 : fieldOf Try.prog 139 5 = some (5, false, 1) := by kernel_rfl
theorem f139_6 : fieldOf Try.prog 139 6 = some (6, false, 1) := by kernel_rfl
theorem f139_7 : fieldOf Try.prog 139 7 = some (7, false, 1) := by kernel_rfl
theorem f139_8 : fieldOf Try.prog 139 8 = some (8, false, 1) := by kernel_rfl
theorem f139_9 : fieldOf Try.prog 139 9 = some (9, false, 1) := by kernel_rfl
theorem f139_10 : fieldOf Try.prog 139 10 = some (10, false, 1) := by kernel_rfl
theorem fo139 : fieldsOk Try.prog 139 = true := by kernel_rfl
theorem r139 : arrOf Try.prog 139 = none := by kernel_rfl
theorem i139 : (Try.prog.info? 139).isSome = true := by kernel_rfl
theorem c140 : Try.prog.cellsOf 140 = 11 := by kernel_rfl
theorem s140 : (Try.prog.underlying 140).isSome = true := by kernel_rfl
theorem a140 : isAgg Try.prog 140 = true := by kernel_rfl
theorem b140 : Try.prog.bytesOf 140 = 48 := by kernel_rfl
theorem z140 : zeroOf Try.prog 140 = some (.agg [.int .u64 0, .int .u64 0, .int .u32 0, .int .u8 0, .int .u8 0, .int .u8 0, .int .u8 0, .nilf, .nilp, .int .i32 0, .int .i32 0]) := by kernel_rfl
theorem o140 : elemOk Try.prog 140 := ⟨by rw [c140]; decide, _, z140, rfl, by rw [c140]; rfl⟩
theorem f140_0 : fieldOf Try.prog 140 0 = some (0, false, 1) := by kernel_rfl
theorem f140_1 : fieldOf Try.prog 140 1 = some (1, false, 1) := by kernel_rfl
theorem f140_2 : fieldOf Try.prog 140 2 = some (2, false, 1) := by kernel_rfl
theorem f140_3 : fieldOf Try.prog 140 3 = some (3, false, 1) := by kernel_rfl
theorem f140_4 : fieldOf Try.prog 140 4 = some (4, false, 1) := by kernel_rfl
theorem f140_5 : fieldOf Try.prog 140 5 = some (5, false, 1) := by kernel_rfl
theorem f140_6 : fieldOf Try.prog 140 6 = some (6, false, 1) := by kernel_rfl
theorem f140_7 : fieldOf Try.prog 140 7 = some (7, false, 1) := by kernel_rfl
theorem f140_8 : fieldOf Try.prog 140 8 = some (8, false, 1) := by kernel_rfl
theorem f140_9 : fieldOf Try.prog 140 9 = some (9, false, 1) := by kernel_rfl
theorem f140_10 : fieldOf Try.prog 140 10 = some (10, false, 1) := by kernel_rfl
theorem fo140 : fieldsOk Try.prog 140 = true := by kernel_rfl
theorem r140 : arrOf Try.prog 140 = none := by kernel_rfl
theorem i140 : (Try.prog.info? 140).isSome = true := by kernel_rfl
end Go.Proofs.YtodfkdnkgedgeaaT.Ty
