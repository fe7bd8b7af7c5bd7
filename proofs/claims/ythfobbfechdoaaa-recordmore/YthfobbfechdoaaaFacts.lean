/-
  HL: the tables of this program.
-/
import Derived.Test.YthfobbfechdoaaaProg
import Derived.Test.YthfobbfechdoaaaHlZd
import Derived.KernelRfl
namespace Go.Proofs.Ythfobbfechdoaaa
open Go.HL

noncomputable def pg : PG := ⟨Try.prog, fun _ => .und, fun _ => rfl, 0, fun _ => True, fun _ _ _ h => h, fun _ _ _ _ h => h⟩

instance : PG.Flat pg := ⟨fun _ => trivial, rfl⟩

theorem sz3 : szH pg.P 3 = some 1 := by kernel_rfl
theorem ag3 : isAggH pg.P 3 = some false := by kernel_rfl
theorem ce3 : pg.P.cellsOf 3 = 1 := by kernel_rfl
theorem by3 : bytesH pg.P 3 = some 8 := by kernel_rfl
theorem ze3 : zeroH pg.P 3 = some (.int .i64 0) := by kernel_rfl
theorem un3 : pg.P.underlying 3 = some (.int .i64) := by kernel_rfl
theorem sz4 : szH pg.P 4 = some 1 := by kernel_rfl
theorem ag4 : isAggH pg.P 4 = some false := by kernel_rfl
theorem ce4 : pg.P.cellsOf 4 = 1 := by kernel_rfl
theorem by4 : bytesH pg.P 4 = some 1 := by kernel_rfl
theorem ze4 : zeroH pg.P 4 = some (.bool false) := by kernel_rfl
theorem un4 : pg.P.underlying 4 = some (.bool) := by kernel_rfl
theorem sz22 : szH pg.P 22 = some 1 := by kernel_rfl
theorem ag22 : isAggH pg.P 22 = some false := by kernel_rfl
theorem ce22 : pg.P.cellsOf 22 = 1 := by kernel_rfl
theorem by22 : bytesH pg.P 22 = some 24 := by kernel_rfl
theorem ze22 : zeroH pg.P 22 = some (.sl true []) := by kernel_rfl
theorem el22 : elemH pg.P 22 = some 3 := by kernel_rfl
theorem un22 : pg.P.underlying 22 = some (.slice 3) := by kernel_rfl
theorem sz24 : szH pg.P 24 = some 2 := by kernel_rfl
theorem ag24 : isAggH pg.P 24 = some true := by kernel_rfl
theorem ce24 : pg.P.cellsOf 24 = 2 := by kernel_rfl
theorem by24 : bytesH pg.P 24 = some 48 := by kernel_rfl
theorem ze24 : zeroH pg.P 24 = some (.agg [.sl true [], .sl true []]) := by kernel_rfl
theorem st24 : structH pg.P 24 = some [(0, 1, false), (1, 1, false)] := by kernel_rfl
theorem sz25 : szH pg.P 25 = some 1 := by kernel_rfl
theorem ag25 : isAggH pg.P 25 = some false := by kernel_rfl
theorem ce25 : pg.P.cellsOf 25 = 1 := by kernel_rfl
theorem by25 : bytesH pg.P 25 = some 24 := by kernel_rfl
theorem ze25 : zeroH pg.P 25 = some (.sl true []) := by kernel_rfl
theorem el25 : elemH pg.P 25 = some 24 := by kernel_rfl
theorem un25 : pg.P.underlying 25 = some (.slice 24) := by kernel_rfl
theorem sz45 : szH pg.P 45 = some 1 := by kernel_rfl
theorem ag45 : isAggH pg.P 45 = some false := by kernel_rfl
theorem ce45 : pg.P.cellsOf 45 = 1 := by kernel_rfl
theorem by45 : bytesH pg.P 45 = some 8 := by kernel_rfl
theorem ze45 : zeroH pg.P 45 = some (.nul (.map none)) := by kernel_rfl
theorem un45 : pg.P.underlying 45 = some (.map 3 4) := by kernel_rfl
theorem ma45 : mapH pg.P 45 = some (3, 4, .int .i64) := by kernel_rfl
theorem sz47 : szH pg.P 47 = some 1 := by kernel_rfl
theorem ag47 : isAggH pg.P 47 = some false := by kernel_rfl
theorem ce47 : pg.P.cellsOf 47 = 1 := by kernel_rfl
theorem by47 : bytesH pg.P 47 = some 8 := by kernel_rfl
theorem ze47 : zeroH pg.P 47 = some (.nul .nilFunc) := by kernel_rfl
theorem sz52 : szH pg.P 52 = some 1 := by kernel_rfl
theorem ag52 : isAggH pg.P 52 = some false := by kernel_rfl
theorem ce52 : pg.P.cellsOf 52 = 1 := by kernel_rfl
theorem by52 : bytesH pg.P 52 = some 8 := by kernel_rfl
theorem ze52 : zeroH pg.P 52 = some (.nul .nilFunc) := by kernel_rfl
theorem sz54 : szH pg.P 54 = some 1 := by kernel_rfl
theorem ag54 : isAggH pg.P 54 = some false := by kernel_rfl
theorem ce54 : pg.P.cellsOf 54 = 1 := by kernel_rfl
theorem by54 : bytesH pg.P 54 = some 24 := by kernel_rfl
theorem ze54 : zeroH pg.P 54 = some (.sl true []) := by kernel_rfl
theorem el54 : elemH pg.P 54 = some 4 := by kernel_rfl
theorem un54 : pg.P.underlying 54 = some (.slice 4) := by kernel_rfl
theorem sz59 : szH pg.P 59 = some 1 := by kernel_rfl
theorem ag59 : isAggH pg.P 59 = some false := by kernel_rfl
theorem ce59 : pg.P.cellsOf 59 = 1 := by kernel_rfl
theorem by59 : bytesH pg.P 59 = some 8 := by kernel_rfl
theorem ze59 : zeroH pg.P 59 = some (.int .u64 0) := by kernel_rfl
theorem un59 : pg.P.underlying 59 = some (.int .u64) := by kernel_rfl
theorem en3 : entersH pg.P 3 = true := by kernel_rfl
theorem en4 : entersH pg.P 4 = true := by kernel_rfl
theorem en5 : entersH pg.P 5 = true := by kernel_rfl
theorem en6 : entersH pg.P 6 = true := by kernel_rfl
theorem en7 : entersH pg.P 7 = true := by kernel_rfl
theorem en8 : entersH pg.P 8 = true := by kernel_rfl
theorem en9 : entersH pg.P 9 = true := by kernel_rfl
theorem en10 : entersH pg.P 10 = true := by kernel_rfl
theorem en11 : entersH pg.P 11 = true := by kernel_rfl
theorem en12 : entersH pg.P 12 = true := by kernel_rfl
theorem en13 : entersH pg.P 13 = true := by kernel_rfl
theorem en14 : entersH pg.P 14 = true := by kernel_rfl
theorem en15 : entersH pg.P 15 = true := by kernel_rfl
theorem en16 : entersH pg.P 16 = true := by kernel_rfl
theorem en17 : entersH pg.P 17 = true := by kernel_rfl
theorem en18 : entersH pg.P 18 = true := by kernel_rfl
theorem en19 : entersH pg.P 19 = true := by kernel_rfl
theorem en20 : entersH pg.P 20 = true := by kernel_rfl
theorem en21 : entersH pg.P 21 = true := by kernel_rfl
theorem en22 : entersH pg.P 22 = true := by kernel_rfl
theorem en23 : entersH pg.P 23 = true := by kernel_rfl
theorem en24 : entersH pg.P 24 = true := by kernel_rfl
theorem en25 : entersH pg.P 25 = true := by kernel_rfl
theorem en26 : entersH pg.P 26 = true := by kernel_rfl
theorem en27 : entersH pg.P 27 = true := by kernel_rfl
theorem en28 : entersH pg.P 28 = true := by kernel_rfl
theorem en29 : entersH pg.P 29 = true := by kernel_rfl
theorem en30 : entersH pg.P 30 = true := by kernel_rfl
theorem en31 : entersH pg.P 31 = true := by kernel_rfl
theorem en32 : entersH pg.P 32 = true := by kernel_rfl
theorem en33 : entersH pg.P 33 = true := by kernel_rfl
theorem en34 : entersH pg.P 34 = true := by kernel_rfl
theorem en35 : entersH pg.P 35 = true := by kernel_rfl
theorem en36 : entersH pg.P 36 = true := by kernel_rfl
theorem en37 : entersH pg.P 37 = true := by kernel_rfl
theorem en38 : entersH pg.P 38 = true := by kernel_rfl
theorem en39 : entersH pg.P 39 = true := by kernel_rfl
theorem rs3 : Try.f3.results.toList = [.tmp 10] := by kernel_rfl
theorem rs4 : Try.f4.results.toList = [.tmp 8] := by kernel_rfl
theorem rs5 : Try.f5.results.toList = [.tmp 4] := by kernel_rfl
theorem rs6 : Try.f6.results.toList = [.tmp 6] := by kernel_rfl
theorem rs7 : Try.f7.results.toList = [.tmp 4] := by kernel_rfl
theorem rs8 : Try.f8.results.toList = [.tmp 8] := by kernel_rfl
theorem rs9 : Try.f9.results.toList = [.tmp 0] := by kernel_rfl
theorem rs10 : Try.f10.results.toList = [.tmp 2] := by kernel_rfl
theorem rs11 : Try.f11.results.toList = [.tmp 2] := by kernel_rfl
theorem rs12 : Try.f12.results.toList = [.tmp 4, .tmp 5] := by kernel_rfl
theorem rs13 : Try.f13.results.toList = [.tmp 4, .tmp 5] := by kernel_rfl
theorem rs14 : Try.f14.results.toList = [.tmp 4] := by kernel_rfl
theorem rs15 : Try.f15.results.toList = [.tmp 2] := by kernel_rfl
theorem rs16 : Try.f16.results.toList = [.tmp 2] := by kernel_rfl
theorem rs17 : Try.f17.results.toList = [.tmp 4] := by kernel_rfl
theorem rs18 : Try.f18.results.toList = [.tmp 4] := by kernel_rfl
theorem rs19 : Try.f19.results.toList = [.tmp 6] := by kernel_rfl
theorem rs20 : Try.f20.results.toList = [.tmp 6] := by kernel_rfl
theorem rs21 : Try.f21.results.toList = [.tmp 4] := by kernel_rfl
theorem rs22 : Try.f22.results.toList = [.tmp 4] := by kernel_rfl
theorem rs23 : Try.f23.results.toList = [.tmp 4, .tmp 5] := by kernel_rfl
theorem rs24 : Try.f24.results.toList = [.tmp 4] := by kernel_rfl
theorem rs25 : Try.f25.results.toList = [.cell 4 24] := by kernel_rfl
theorem rs26 : Try.f26.results.toList = [.tmp 2] := by kernel_rfl
theorem rs27 : Try.f27.results.toList = [.tmp 3] := by kernel_rfl
theorem rs28 : Try.f28.results.toList = [.tmp 3] := by kernel_rfl
theorem rs29 : Try.f29.results.toList = [.tmp 4] := by kernel_rfl
theorem rs30 : Try.f30.results.toList = [.tmp 4] := by kernel_rfl
theorem rs31 : Try.f31.results.toList = [.tmp 2] := by kernel_rfl
theorem rs32 : Try.f32.results.toList = [.tmp 2] := by kernel_rfl
theorem rs33 : Try.f33.results.toList = [.tmp 4] := by kernel_rfl
theorem rs34 : Try.f34.results.toList = [.tmp 2] := by kernel_rfl
theorem rs35 : Try.f35.results.toList = [] := by kernel_rfl
theorem rs36 : Try.f36.results.toList = [] := by kernel_rfl
theorem rs37 : Try.f37.results.toList = [.tmp 4] := by kernel_rfl
theorem rs38 : Try.f38.results.toList = [] := by kernel_rfl
theorem rs39 : Try.f39.results.toList = [.tmp 2] := by kernel_rfl

attribute [go_sem] sz3 ag3 ce3 by3 ze3 un3 sz4 ag4 ce4 by4 ze4 un4 sz22 ag22 ce22 by22 ze22 el22 un22 sz24 ag24 ce24 by24 ze24 st24 sz25 ag25 ce25 by25 ze25 el25 un25 sz45 ag45 ce45 by45 ze45 un45 ma45 sz47 ag47 ce47 by47 ze47 sz52 ag52 ce52 by52 ze52 sz54 ag54 ce54 by54 ze54 el54 un54 sz59 ag59 ce59 by59 ze59 un59 en3 en4 en5 en6 en7 en8 en9 en10 en11 en12 en13 en14 en15 en16 en17 en18 en19 en20 en21 en22 en23 en24 en25 en26 en27 en28 en29 en30 en31 en32 en33 en34 en35 en36 en37 en38 en39 rs3 rs4 rs5 rs6 rs7 rs8 rs9 rs10 rs11 rs12 rs13 rs14 rs15 rs16 rs17 rs18 rs19 rs20 rs21 rs22 rs23 rs24 rs25 rs26 rs27 rs28 rs29 rs30 rs31 rs32 rs33 rs34 rs35 rs36 rs37 rs38 rs39

theorem fn3 : pg.P.funcs[3]? = some Try.f3 := Try.func3
theorem fn4 : pg.P.funcs[4]? = some Try.f4 := Try.func4
theorem fn5 : pg.P.funcs[5]? = some Try.f5 := Try.func5
theorem fn6 : pg.P.funcs[6]? = some Try.f6 := Try.func6
theorem fn7 : pg.P.funcs[7]? = some Try.f7 := Try.func7
theorem fn8 : pg.P.funcs[8]? = some Try.f8 := Try.func8
theorem fn9 : pg.P.funcs[9]? = some Try.f9 := Try.func9
theorem fn10 : pg.P.funcs[10]? = some Try.f10 := Try.func10
theorem fn11 : pg.P.funcs[11]? = some Try.f11 := Try.func11
theorem fn12 : pg.P.funcs[12]? = some Try.f12 := Try.func12
theorem fn13 : pg.P.funcs[13]? = some Try.f13 := Try.func13
theorem fn14 : pg.P.funcs[14]? = some Try.f14 := Try.func14
theorem fn15 : pg.P.funcs[15]? = some Try.f15 := Try.func15
theorem fn16 : pg.P.funcs[16]? = some Try.f16 := Try.func16
theorem fn17 : pg.P.funcs[17]? = some Try.f17 := Try.func17
theorem fn18 : pg.P.funcs[18]? = some Try.f18 := Try.func18
theorem fn19 : pg.P.funcs[19]? = some Try.f19 := Try.func19
theorem fn20 : pg.P.funcs[20]? = some Try.f20 := Try.func20
theorem fn21 : pg.P.funcs[21]? = some Try.f21 := Try.func21
theorem fn22 : pg.P.funcs[22]? = some Try.f22 := Try.func22
theorem fn23 : pg.P.funcs[23]? = some Try.f23 := Try.func23
theorem fn24 : pg.P.funcs[24]? = some Try.f24 := Try.func24
theorem fn25 : pg.P.funcs[25]? = some Try.f25 := Try.func25
theorem fn26 : pg.P.funcs[26]? = some Try.f26 := Try.func26
theorem fn27 : pg.P.funcs[27]? = some Try.f27 := Try.func27
theorem fn28 : pg.P.funcs[28]? = some Try.f28 := Try.func28
theorem fn29 : pg.P.funcs[29]? = some Try.f29 := Try.func29
theorem fn30 : pg.P.funcs[30]? = some Try.f30 := Try.func30
theorem fn31 : pg.P.funcs[31]? = some Try.f31 := Try.func31
theorem fn32 : pg.P.funcs[32]? = some Try.f32 := Try.func32
theorem fn33 : pg.P.funcs[33]? = some Try.f33 := Try.func33
theorem fn34 : pg.P.funcs[34]? = some Try.f34 := Try.func34
theorem fn35 : pg.P.funcs[35]? = some Try.f35 := Try.func35
theorem fn36 : pg.P.funcs[36]? = some Try.f36 := Try.func36
theorem fn37 : pg.P.funcs[37]? = some Try.f37 := Try.func37
theorem fn38 : pg.P.funcs[38]? = some Try.f38 := Try.func38
theorem fn39 : pg.P.funcs[39]? = some Try.f39 := Try.func39
theorem mixed : pg.P.follows .mixedOrders = true := by kernel_rfl

end Go.Proofs.Ythfobbfechdoaaa
