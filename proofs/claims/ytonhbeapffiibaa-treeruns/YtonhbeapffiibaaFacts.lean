/-
  HL: the tables of this program.
-/
import Derived.Test.YtonhbeapffiibaaProg
import Derived.Test.YtonhbeapffiibaaHlZi
import Derived.KernelRfl
namespace Go.Proofs.Ytonhbeapffiibaa
open Go.HL

noncomputable def pg : PG := ⟨Try.prog, fun _ => .und, fun _ => rfl, 0, fun _ => True, fun _ _ _ h => h, fun _ _ _ _ h => h⟩

instance : PG.Flat pg := ⟨fun _ => trivial, rfl⟩

theorem sz3 : szH pg.P 3 = some 1 := by kernel_rfl
theorem ag3 : isAggH pg.P 3 = some false := by kernel_rfl
theorem ce3 : pg.P.cellsOf 3 = 1 := by kernel_rfl
theorem by3 : bytesH pg.P 3 = some 8 := by kernel_rfl
theorem ze3 : zeroH pg.P 3 = some (.int .i64 0) := by kernel_rfl
theorem un3 : pg.P.underlying 3 = some (.int .i64) := by kernel_rfl
theorem sz4 : szH pg.P 4 = some 1 := by kernel_rfl
theorem ag4 : isAggH pg.P 4 = some false := by kernel_rfl
theorem ce4 : pg.P.cellsOf 4 = 1 := by kernel_rfl
theorem by4 : bytesH pg.P 4 = some 1 := by kernel_rfl
theorem ze4 : zeroH pg.P 4 = some (.bool false) := by kernel_rfl
theorem un4 : pg.P.underlying 4 = some (.bool) := by kernel_rfl
theorem sz22 : szH pg.P 22 = some 1 := by kernel_rfl
theorem ag22 : isAggH pg.P 22 = some false := by kernel_rfl
theorem ce22 : pg.P.cellsOf 22 = 1 := by kernel_rfl
theorem by22 : bytesH pg.P 22 = some 24 := by kernel_rfl
theorem ze22 : zeroH pg.P 22 = some (.sl true []) := by kernel_rfl
theorem el22 : elemH pg.P 22 = some 3 := by kernel_rfl
theorem un22 : pg.P.underlying 22 = some (.slice 3) := by kernel_rfl
theorem sz23 : szH pg.P 23 = some 1 := by kernel_rfl
theorem ag23 : isAggH pg.P 23 = some false := by kernel_rfl
theorem ce23 : pg.P.cellsOf 23 = 1 := by kernel_rfl
theorem by23 : bytesH pg.P 23 = some 24 := by kernel_rfl
theorem ze23 : zeroH pg.P 23 = some (.sl true []) := by kernel_rfl
theorem el23 : elemH pg.P 23 = some 51 := by kernel_rfl
theorem un23 : pg.P.underlying 23 = some (.slice 51) := by kernel_rfl
theorem sz25 : szH pg.P 25 = some 3 := by kernel_rfl
theorem ag25 : isAggH pg.P 25 = some true := by kernel_rfl
theorem ce25 : pg.P.cellsOf 25 = 3 := by kernel_rfl
theorem by25 : bytesH pg.P 25 = some 56 := by kernel_rfl
theorem ze25 : zeroH pg.P 25 = some (.agg [.int .i64 0, .sl true [], .sl true []]) := by kernel_rfl
theorem st25 : structH pg.P 25 = some [(0, 1, false), (1, 1, false), (2, 1, false)] := by kernel_rfl
theorem sz26 : szH pg.P 26 = some 1 := by kernel_rfl
theorem ag26 : isAggH pg.P 26 = some false := by kernel_rfl
theorem ce26 : pg.P.cellsOf 26 = 1 := by kernel_rfl
theorem by26 : bytesH pg.P 26 = some 24 := by kernel_rfl
theorem ze26 : zeroH pg.P 26 = some (.sl true []) := by kernel_rfl
theorem el26 : elemH pg.P 26 = some 43 := by kernel_rfl
theorem un26 : pg.P.underlying 26 = some (.slice 43) := by kernel_rfl
theorem sz31 : szH pg.P 31 = some 2 := by kernel_rfl
theorem ag31 : isAggH pg.P 31 = some true := by kernel_rfl
theorem ce31 : pg.P.cellsOf 31 = 2 := by kernel_rfl
theorem by31 : bytesH pg.P 31 = some 48 := by kernel_rfl
theorem ze31 : zeroH pg.P 31 = some (.agg [.sl true [], .sl true []]) := by kernel_rfl
theorem st31 : structH pg.P 31 = some [(0, 1, false), (1, 1, false)] := by kernel_rfl
theorem sz43 : szH pg.P 43 = some 3 := by kernel_rfl
theorem ag43 : isAggH pg.P 43 = some true := by kernel_rfl
theorem ce43 : pg.P.cellsOf 43 = 3 := by kernel_rfl
theorem by43 : bytesH pg.P 43 = some 40 := by kernel_rfl
theorem ze43 : zeroH pg.P 43 = some (.agg [.int .i64 0, .int .i64 0, .sl true []]) := by kernel_rfl
theorem st43 : structH pg.P 43 = some [(0, 1, false), (1, 1, false), (2, 1, false)] := by kernel_rfl
theorem sz48 : szH pg.P 48 = some 1 := by kernel_rfl
theorem ag48 : isAggH pg.P 48 = some false := by kernel_rfl
theorem ce48 : pg.P.cellsOf 48 = 1 := by kernel_rfl
theorem by48 : bytesH pg.P 48 = some 24 := by kernel_rfl
theorem ze48 : zeroH pg.P 48 = some (.sl true []) := by kernel_rfl
theorem el48 : elemH pg.P 48 = some 22 := by kernel_rfl
theorem un48 : pg.P.underlying 48 = some (.slice 22) := by kernel_rfl
theorem sz51 : szH pg.P 51 = some 1 := by kernel_rfl
theorem ag51 : isAggH pg.P 51 = some false := by kernel_rfl
theorem ce51 : pg.P.cellsOf 51 = 1 := by kernel_rfl
theorem by51 : bytesH pg.P 51 = some 24 := by kernel_rfl
theorem ze51 : zeroH pg.P 51 = some (.sl true []) := by kernel_rfl
theorem el51 : elemH pg.P 51 = some 52 := by kernel_rfl
theorem un51 : pg.P.underlying 51 = some (.slice 52) := by kernel_rfl
theorem sz52 : szH pg.P 52 = some 1 := by kernel_rfl
theorem ag52 : isAggH pg.P 52 = some false := by kernel_rfl
theorem ce52 : pg.P.cellsOf 52 = 1 := by kernel_rfl
theorem by52 : bytesH pg.P 52 = some 24 := by kernel_rfl
theorem ze52 : zeroH pg.P 52 = some (.sl true []) := by kernel_rfl
theorem el52 : elemH pg.P 52 = some 54 := by kernel_rfl
theorem un52 : pg.P.underlying 52 = some (.slice 54) := by kernel_rfl
theorem sz54 : szH pg.P 54 = some 2 := by kernel_rfl
theorem ag54 : isAggH pg.P 54 = some true := by kernel_rfl
theorem ce54 : pg.P.cellsOf 54 = 2 := by kernel_rfl
theorem by54 : bytesH pg.P 54 = some 16 := by kernel_rfl
theorem ze54 : zeroH pg.P 54 = some (.agg [.int .i64 0, .bool false]) := by kernel_rfl
theorem st54 : structH pg.P 54 = some [(0, 1, false), (1, 1, false)] := by kernel_rfl
theorem sz62 : szH pg.P 62 = some 1 := by kernel_rfl
theorem ag62 : isAggH pg.P 62 = some false := by kernel_rfl
theorem ce62 : pg.P.cellsOf 62 = 1 := by kernel_rfl
theorem by62 : bytesH pg.P 62 = some 24 := by kernel_rfl
theorem ze62 : zeroH pg.P 62 = some (.sl true []) := by kernel_rfl
theorem el62 : elemH pg.P 62 = some 66 := by kernel_rfl
theorem un62 : pg.P.underlying 62 = some (.slice 66) := by kernel_rfl
theorem sz66 : szH pg.P 66 = some 1 := by kernel_rfl
theorem ag66 : isAggH pg.P 66 = some false := by kernel_rfl
theorem ce66 : pg.P.cellsOf 66 = 1 := by kernel_rfl
theorem by66 : bytesH pg.P 66 = some 8 := by kernel_rfl
theorem ze66 : zeroH pg.P 66 = some (.nul (.pointer none)) := by kernel_rfl
theorem un66 : pg.P.underlying 66 = some (.pointer 70) := by kernel_rfl
theorem sz68 : szH pg.P 68 = some 1 := by kernel_rfl
theorem ag68 : isAggH pg.P 68 = some false := by kernel_rfl
theorem ce68 : pg.P.cellsOf 68 = 1 := by kernel_rfl
theorem by68 : bytesH pg.P 68 = some 8 := by kernel_rfl
theorem ze68 : zeroH pg.P 68 = some (.nul (.map none)) := by kernel_rfl
theorem un68 : pg.P.underlying 68 = some (.map 3 4) := by kernel_rfl
theorem ma68 : mapH pg.P 68 = some (3, 4, .int .i64) := by kernel_rfl
theorem sz70 : szH pg.P 70 = some 7 := by kernel_rfl
theorem ag70 : isAggH pg.P 70 = some true := by kernel_rfl
theorem ce70 : pg.P.cellsOf 70 = 7 := by kernel_rfl
theorem by70 : bytesH pg.P 70 = some 72 := by kernel_rfl
theorem ze70 : zeroH pg.P 70 = some (.agg [.int .i64 0, .int .i64 0, .sl true [], .nul (.pointer none), .nul (.map none), .nul (.map none), .bool false]) := by kernel_rfl
theorem st70 : structH pg.P 70 = some [(0, 3, true), (3, 1, false), (4, 1, false), (5, 1, false), (6, 1, false)] := by kernel_rfl
theorem sz73 : szH pg.P 73 = some 1 := by kernel_rfl
theorem ag73 : isAggH pg.P 73 = some false := by kernel_rfl
theorem ce73 : pg.P.cellsOf 73 = 1 := by kernel_rfl
theorem by73 : bytesH pg.P 73 = some 8 := by kernel_rfl
theorem ze73 : zeroH pg.P 73 = some (.nul .nilFunc) := by kernel_rfl
theorem sz77 : szH pg.P 77 = some 1 := by kernel_rfl
theorem ag77 : isAggH pg.P 77 = some false := by kernel_rfl
theorem ce77 : pg.P.cellsOf 77 = 1 := by kernel_rfl
theorem by77 : bytesH pg.P 77 = some 24 := by kernel_rfl
theorem ze77 : zeroH pg.P 77 = some (.sl true []) := by kernel_rfl
theorem el77 : elemH pg.P 77 = some 4 := by kernel_rfl
theorem un77 : pg.P.underlying 77 = some (.slice 4) := by kernel_rfl
theorem sz84 : szH pg.P 84 = some 1 := by kernel_rfl
theorem ag84 : isAggH pg.P 84 = some false := by kernel_rfl
theorem ce84 : pg.P.cellsOf 84 = 1 := by kernel_rfl
theorem by84 : bytesH pg.P 84 = some 24 := by kernel_rfl
theorem ze84 : zeroH pg.P 84 = some (.sl true []) := by kernel_rfl
theorem el84 : elemH pg.P 84 = some 68 := by kernel_rfl
theorem un84 : pg.P.underlying 84 = some (.slice 68) := by kernel_rfl
theorem sz102 : szH pg.P 102 = some 1 := by kernel_rfl
theorem ag102 : isAggH pg.P 102 = some false := by kernel_rfl
theorem ce102 : pg.P.cellsOf 102 = 1 := by kernel_rfl
theorem by102 : bytesH pg.P 102 = some 8 := by kernel_rfl
theorem ze102 : zeroH pg.P 102 = some (.nul .nilFunc) := by kernel_rfl
theorem sz105 : szH pg.P 105 = some 1 := by kernel_rfl
theorem ag105 : isAggH pg.P 105 = some false := by kernel_rfl
theorem ce105 : pg.P.cellsOf 105 = 1 := by kernel_rfl
theorem by105 : bytesH pg.P 105 = some 8 := by kernel_rfl
theorem ze105 : zeroH pg.P 105 = some (.nul .nilFunc) := by kernel_rfl
theorem sz107 : szH pg.P 107 = some 1 := by kernel_rfl
theorem ag107 : isAggH pg.P 107 = some false := by kernel_rfl
theorem ce107 : pg.P.cellsOf 107 = 1 := by kernel_rfl
theorem by107 : bytesH pg.P 107 = some 8 := by kernel_rfl
theorem ze107 : zeroH pg.P 107 = some (.nul .nilFunc) := by kernel_rfl
theorem sz109 : szH pg.P 109 = some 1 := by kernel_rfl
theorem ag109 : isAggH pg.P 109 = some false := by kernel_rfl
theorem ce109 : pg.P.cellsOf 109 = 1 := by kernel_rfl
theorem by109 : bytesH pg.P 109 = some 8 := by kernel_rfl
theorem ze109 : zeroH pg.P 109 = some (.nul .nilFunc) := by kernel_rfl
theorem en3 : entersH pg.P 3 = true := by kernel_rfl
theorem en4 : entersH pg.P 4 = true := by kernel_rfl
theorem en5 : entersH pg.P 5 = true := by kernel_rfl
theorem en6 : entersH pg.P 6 = true := by kernel_rfl
theorem en7 : entersH pg.P 7 = true := by kernel_rfl
theorem en9 : entersH pg.P 9 = true := by kernel_rfl
theorem en10 : entersH pg.P 10 = true := by kernel_rfl
theorem en11 : entersH pg.P 11 = true := by kernel_rfl
theorem en12 : entersH pg.P 12 = true := by kernel_rfl
theorem en13 : entersH pg.P 13 = true := by kernel_rfl
theorem en14 : entersH pg.P 14 = true := by kernel_rfl
theorem en15 : entersH pg.P 15 = true := by kernel_rfl
theorem en16 : entersH pg.P 16 = true := by kernel_rfl
theorem en17 : entersH pg.P 17 = true := by kernel_rfl
theorem en18 : entersH pg.P 18 = true := by kernel_rfl
theorem en19 : entersH pg.P 19 = true := by kernel_rfl
theorem en20 : entersH pg.P 20 = true := by kernel_rfl
theorem en21 : entersH pg.P 21 = true := by kernel_rfl
theorem en22 : entersH pg.P 22 = true := by kernel_rfl
theorem en23 : entersH pg.P 23 = true := by kernel_rfl
theorem en24 : entersH pg.P 24 = true := by kernel_rfl
theorem en25 : entersH pg.P 25 = true := by kernel_rfl
theorem en26 : entersH pg.P 26 = true := by kernel_rfl
theorem en27 : entersH pg.P 27 = true := by kernel_rfl
theorem en28 : entersH pg.P 28 = true := by kernel_rfl
theorem en32 : entersH pg.P 32 = true := by kernel_rfl
theorem en33 : entersH pg.P 33 = true := by kernel_rfl
theorem en34 : entersH pg.P 34 = true := by kernel_rfl
theorem en35 : entersH pg.P 35 = true := by kernel_rfl
theorem en36 : entersH pg.P 36 = true := by kernel_rfl
theorem en37 : entersH pg.P 37 = true := by kernel_rfl
theorem en38 : entersH pg.P 38 = true := by kernel_rfl
theorem en39 : entersH pg.P 39 = true := by kernel_rfl
theorem en40 : entersH pg.P 40 = true := by kernel_rfl
theorem en41 : entersH pg.P 41 = true := by kernel_rfl
theorem en42 : entersH pg.P 42 = true := by kernel_rfl
theorem en43 : entersH pg.P 43 = true := by kernel_rfl
theorem en44 : entersH pg.P 44 = true := by kernel_rfl
theorem en45 : entersH pg.P 45 = true := by kernel_rfl
theorem en46 : entersH pg.P 46 = true := by kernel_rfl
theorem en47 : entersH pg.P 47 = true := by kernel_rfl
theorem en48 : entersH pg.P 48 = true := by kernel_rfl
theorem en49 : entersH pg.P 49 = true := by kernel_rfl
theorem en50 : entersH pg.P 50 = true := by kernel_rfl
theorem en51 : entersH pg.P 51 = true := by kernel_rfl
theorem en52 : entersH pg.P 52 = true := by kernel_rfl
theorem en53 : entersH pg.P 53 = true := by kernel_rfl
theorem en57 : entersH pg.P 57 = true := by kernel_rfl
theorem en60 : entersH pg.P 60 = true := by kernel_rfl
theorem en61 : entersH pg.P 61 = true := by kernel_rfl
theorem en62 : entersH pg.P 62 = true := by kernel_rfl
theorem en63 : entersH pg.P 63 = true := by kernel_rfl
theorem en64 : entersH pg.P 64 = true := by kernel_rfl
theorem en65 : entersH pg.P 65 = true := by kernel_rfl
theorem en66 : entersH pg.P 66 = true := by kernel_rfl
theorem en67 : entersH pg.P 67 = true := by kernel_rfl
theorem en68 : entersH pg.P 68 = true := by kernel_rfl
theorem en69 : entersH pg.P 69 = true := by kernel_rfl
theorem en70 : entersH pg.P 70 = true := by kernel_rfl
theorem en71 : entersH pg.P 71 = true := by kernel_rfl
theorem en93 : entersH pg.P 93 = true := by kernel_rfl
theorem en94 : entersH pg.P 94 = true := by kernel_rfl
theorem en95 : entersH pg.P 95 = true := by kernel_rfl
theorem rs3 : Try.f3.results.toList = [.tmp 6] := by kernel_rfl
theorem rs4 : Try.f4.results.toList = [.tmp 4] := by kernel_rfl
theorem rs5 : Try.f5.results.toList = [.tmp 6] := by kernel_rfl
theorem rs6 : Try.f6.results.toList = [.tmp 4] := by kernel_rfl
theorem rs7 : Try.f7.results.toList = [.tmp 6] := by kernel_rfl
theorem rs9 : Try.f9.results.toList = [.tmp 0] := by kernel_rfl
theorem rs10 : Try.f10.results.toList = [.tmp 2] := by kernel_rfl
theorem rs11 : Try.f11.results.toList = [.tmp 2] := by kernel_rfl
theorem rs12 : Try.f12.results.toList = [.tmp 6, .cell 7 31] := by kernel_rfl
theorem rs13 : Try.f13.results.toList = [.tmp 6, .cell 7 31] := by kernel_rfl
theorem rs14 : Try.f14.results.toList = [.tmp 2] := by kernel_rfl
theorem rs15 : Try.f15.results.toList = [.tmp 2] := by kernel_rfl
theorem rs16 : Try.f16.results.toList = [.tmp 4] := by kernel_rfl
theorem rs17 : Try.f17.results.toList = [.tmp 2] := by kernel_rfl
theorem rs18 : Try.f18.results.toList = [.tmp 2] := by kernel_rfl
theorem rs19 : Try.f19.results.toList = [.tmp 4] := by kernel_rfl
theorem rs20 : Try.f20.results.toList = [.tmp 4] := by kernel_rfl
theorem rs21 : Try.f21.results.toList = [.tmp 4] := by kernel_rfl
theorem rs22 : Try.f22.results.toList = [.tmp 6] := by kernel_rfl
theorem rs23 : Try.f23.results.toList = [.tmp 4] := by kernel_rfl
theorem rs24 : Try.f24.results.toList = [.tmp 8] := by kernel_rfl
theorem rs25 : Try.f25.results.toList = [.tmp 4] := by kernel_rfl
theorem rs26 : Try.f26.results.toList = [.tmp 4] := by kernel_rfl
theorem rs27 : Try.f27.results.toList = [.tmp 6, .tmp 7] := by kernel_rfl
theorem rs28 : Try.f28.results.toList = [.tmp 2] := by kernel_rfl
theorem rs32 : Try.f32.results.toList = [.cell 0 25] := by kernel_rfl
theorem rs33 : Try.f33.results.toList = [.tmp 6] := by kernel_rfl
theorem rs34 : Try.f34.results.toList = [] := by kernel_rfl
theorem rs35 : Try.f35.results.toList = [.tmp 2] := by kernel_rfl
theorem rs36 : Try.f36.results.toList = [] := by kernel_rfl
theorem rs37 : Try.f37.results.toList = [.tmp 4] := by kernel_rfl
theorem rs38 : Try.f38.results.toList = [.tmp 2] := by kernel_rfl
theorem rs39 : Try.f39.results.toList = [] := by kernel_rfl
theorem rs40 : Try.f40.results.toList = [.tmp 2] := by kernel_rfl
theorem rs41 : Try.f41.results.toList = [.tmp 4] := by kernel_rfl
theorem rs42 : Try.f42.results.toList = [.tmp 4] := by kernel_rfl
theorem rs43 : Try.f43.results.toList = [.tmp 2, .tmp 3] := by kernel_rfl
theorem rs44 : Try.f44.results.toList = [.tmp 4] := by kernel_rfl
theorem rs45 : Try.f45.results.toList = [.tmp 4, .tmp 5] := by kernel_rfl
theorem rs46 : Try.f46.results.toList = [.tmp 2] := by kernel_rfl
theorem rs47 : Try.f47.results.toList = [.tmp 2] := by kernel_rfl
theorem rs48 : Try.f48.results.toList = [.tmp 2] := by kernel_rfl
theorem rs49 : Try.f49.results.toList = [.tmp 2] := by kernel_rfl
theorem rs50 : Try.f50.results.toList = [.tmp 2] := by kernel_rfl
theorem rs51 : Try.f51.results.toList = [.tmp 4] := by kernel_rfl
theorem rs52 : Try.f52.results.toList = [.tmp 6] := by kernel_rfl
theorem rs53 : Try.f53.results.toList = [.tmp 4] := by kernel_rfl
theorem rs57 : Try.f57.results.toList = [.tmp 6, .tmp 7] := by kernel_rfl
theorem rs60 : Try.f60.results.toList = [.tmp 4] := by kernel_rfl
theorem rs61 : Try.f61.results.toList = [.tmp 6] := by kernel_rfl
theorem rs62 : Try.f62.results.toList = [.tmp 2] := by kernel_rfl
theorem rs63 : Try.f63.results.toList = [.tmp 3] := by kernel_rfl
theorem rs64 : Try.f64.results.toList = [.tmp 4] := by kernel_rfl
theorem rs65 : Try.f65.results.toList = [.tmp 4] := by kernel_rfl
theorem rs66 : Try.f66.results.toList = [.tmp 4] := by kernel_rfl
theorem rs67 : Try.f67.results.toList = [.tmp 4] := by kernel_rfl
theorem rs68 : Try.f68.results.toList = [.tmp 4] := by kernel_rfl
theorem rs69 : Try.f69.results.toList = [.tmp 4] := by kernel_rfl
theorem rs70 : Try.f70.results.toList = [.tmp 3] := by kernel_rfl
theorem rs71 : Try.f71.results.toList = [.tmp 4] := by kernel_rfl
theorem rs93 : Try.f93.results.toList = [.tmp 4] := by kernel_rfl
theorem rs94 : Try.f94.results.toList = [.tmp 4] := by kernel_rfl
theorem rs95 : Try.f95.results.toList = [.tmp 2] := by kernel_rfl

attribute [go_sem] sz3 ag3 ce3 by3 ze3 un3 sz4 ag4 ce4 by4 ze4 un4 sz22 ag22 ce22 by22 ze22 el22 un22 sz23 ag23 ce23 by23 ze23 el23 un23 sz25 ag25 ce25 by25 ze25 st25 sz26 ag26 ce26 by26 ze26 el26 un26 sz31 ag31 ce31 by31 ze31 st31 sz43 ag43 ce43 by43 ze43 st43 sz48 ag48 ce48 by48 ze48 el48 un48 sz51 ag51 ce51 by51 ze51 el51 un51 sz52 ag52 ce52 by52 ze52 el52 un52 sz54 ag54 ce54 by54 ze54 st54 sz62 ag62 ce62 by62 ze62 el62 un62 sz66 ag66 ce66 by66 ze66 un66 sz68 ag68 ce68 by68 ze68 un68 ma68 sz70 ag70 ce70 by70 ze70 st70 sz73 ag73 ce73 by73 ze73 sz77 ag77 ce77 by77 ze77 el77 un77 sz84 ag84 ce84 by84 ze84 el84 un84 sz102 ag102 ce102 by102 ze102 sz105 ag105 ce105 by105 ze105 sz107 ag107 ce107 by107 ze107 sz109 ag109 ce109 by109 ze109 en3 en4 en5 en6 en7 en9 en10 en11 en12 en13 en14 en15 en16 en17 en18 en19 en20 en21 en22 en23 en24 en25 en26 en27 en28 en32 en33 en34 en35 en36 en37 en38 en39 en40 en41 en42 en43 en44 en45 en46 en47 en48 en49 en50 en51 en52 en53 en57 en60 en61 en62 en63 en64 en65 en66 en67 en68 en69 en70 en71 en93 en94 en95 rs3 rs4 rs5 rs6 rs7 rs9 rs10 rs11 rs12 rs13 rs14 rs15 rs16 rs17 rs18 rs19 rs20 rs21 rs22 rs23 rs24 rs25 rs26 rs27 rs28 rs32 rs33 rs34 rs35 rs36 rs37 rs38 rs39 rs40 rs41 rs42 rs43 rs44 rs45 rs46 rs47 rs48 rs49 rs50 rs51 rs52 rs53 rs57 rs60 rs61 rs62 rs63 rs64 rs65 rs66 rs67 rs68 rs69 rs70 rs71 rs93 rs94 rs95

theorem fn3 : pg.P.funcs[3]? = some Try.f3 := Try.func3
theorem fn4 : pg.P.funcs[4]? = some Try.f4 := Try.func4
theorem fn5 : pg.P.funcs[5]? = some Try.f5 := Try.func5
theorem fn6 : pg.P.funcs[6]? = some Try.f6 := Try.func6
theorem fn7 : pg.P.funcs[7]? = some Try.f7 := Try.func7
theorem fn9 : pg.P.funcs[9]? = some Try.f9 := Try.func9
theorem fn10 : pg.P.funcs[10]? = some Try.f10 := Try.func10
theorem fn11 : pg.P.funcs[11]? = some Try.f11 := Try.func11
theorem fn12 : pg.P.funcs[12]? = some Try.f12 := Try.func12
theorem fn13 : pg.P.funcs[13]? = some Try.f13 := Try.func13
theorem fn14 : pg.P.funcs[14]? = some Try.f14 := Try.func14
theorem fn15 : pg.P.funcs[15]? = some Try.f15 := Try.func15
theorem fn16 : pg.P.funcs[16]? = some Try.f16 := Try.func16
theorem fn17 : pg.P.funcs[17]? = some Try.f17 := Try.func17
theorem fn18 : pg.P.funcs[18]? = some Try.f18 := Try.func18
theorem fn19 : pg.P.funcs[19]? = some Try.f19 := Try.func19
theorem fn20 : pg.P.funcs[20]? = some Try.f20 := Try.func20
theorem fn21 : pg.P.funcs[21]? = some Try.f21 := Try.func21
theorem fn22 : pg.P.funcs[22]? = some Try.f22 := Try.func22
theorem fn23 : pg.P.funcs[23]? = some Try.f23 := Try.func23
theorem fn24 : pg.P.funcs[24]? = some Try.f24 := Try.func24
theorem fn25 : pg.P.funcs[25]? = some Try.f25 := Try.func25
theorem fn26 : pg.P.funcs[26]? = some Try.f26 := Try.func26
theorem fn27 : pg.P.funcs[27]? = some Try.f27 := Try.func27
theorem fn28 : pg.P.funcs[28]? = some Try.f28 := Try.func28
theorem fn32 : pg.P.funcs[32]? = some Try.f32 := Try.func32
theorem fn33 : pg.P.funcs[33]? = some Try.f33 := Try.func33
theorem fn34 : pg.P.funcs[34]? = some Try.f34 := Try.func34
theorem fn35 : pg.P.funcs[35]? = some Try.f35 := Try.func35
theorem fn36 : pg.P.funcs[36]? = some Try.f36 := Try.func36
theorem fn37 : pg.P.funcs[37]? = some Try.f37 := Try.func37
theorem fn38 : pg.P.funcs[38]? = some Try.f38 := Try.func38
theorem fn39 : pg.P.funcs[39]? = some Try.f39 := Try.func39
theorem fn40 : pg.P.funcs[40]? = some Try.f40 := Try.func40
theorem fn41 : pg.P.funcs[41]? = some Try.f41 := Try.func41
theorem fn42 : pg.P.funcs[42]? = some Try.f42 := Try.func42
theorem fn43 : pg.P.funcs[43]? = some Try.f43 := Try.func43
theorem fn44 : pg.P.funcs[44]? = some Try.f44 := Try.func44
theorem fn45 : pg.P.funcs[45]? = some Try.f45 := Try.func45
theorem fn46 : pg.P.funcs[46]? = some Try.f46 := Try.func46
theorem fn47 : pg.P.funcs[47]? = some Try.f47 := Try.func47
theorem fn48 : pg.P.funcs[48]? = some Try.f48 := Try.func48
theorem fn49 : pg.P.funcs[49]? = some Try.f49 := Try.func49
theorem fn50 : pg.P.funcs[50]? = some Try.f50 := Try.func50
theorem fn51 : pg.P.funcs[51]? = some Try.f51 := Try.func51
theorem fn52 : pg.P.funcs[52]? = some Try.f52 := Try.func52
theorem fn53 : pg.P.funcs[53]? = some Try.f53 := Try.func53
theorem fn57 : pg.P.funcs[57]? = some Try.f57 := Try.func57
theorem fn60 : pg.P.funcs[60]? = some Try.f60 := Try.func60
theorem fn61 : pg.P.funcs[61]? = some Try.f61 := Try.func61
theorem fn62 : pg.P.funcs[62]? = some Try.f62 := Try.func62
theorem fn63 : pg.P.funcs[63]? = some Try.f63 := Try.func63
theorem fn64 : pg.P.funcs[64]? = some Try.f64 := Try.func64
theorem fn65 : pg.P.funcs[65]? = some Try.f65 := Try.func65
theorem fn66 : pg.P.funcs[66]? = some Try.f66 := Try.func66
theorem fn67 : pg.P.funcs[67]? = some Try.f67 := Try.func67
theorem fn68 : pg.P.funcs[68]? = some Try.f68 := Try.func68
theorem fn69 : pg.P.funcs[69]? = some Try.f69 := Try.func69
theorem fn70 : pg.P.funcs[70]? = some Try.f70 := Try.func70
theorem fn71 : pg.P.funcs[71]? = some Try.f71 := Try.func71
theorem fn93 : pg.P.funcs[93]? = some Try.f93 := Try.func93
theorem fn94 : pg.P.funcs[94]? = some Try.f94 := Try.func94
theorem fn95 : pg.P.funcs[95]? = some Try.f95 := Try.func95
theorem mixed : pg.P.follows .mixedOrders = true := by kernel_rfl

end Go.Proofs.Ytonhbeapffiibaa

