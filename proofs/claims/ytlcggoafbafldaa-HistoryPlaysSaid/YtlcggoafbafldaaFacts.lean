/-
  Closed facts on the types of this seat. No condition.
-/
import Derived.Test.YtlcggoafbafldaaFlowL
import Derived.Test.YtlcggoafbafldaaProg
namespace Go.Flow
open Go Go.Proofs

@[go_sem] theorem ze1 : zeroA Try.prog 1 = some (.v .nilFunc) := by kernel_rfl
@[go_sem] theorem kd1 : kindT Try.prog 1 = 5 := by kernel_rfl
@[go_sem] theorem fl2 : flatT Try.prog 2 = some (false, 1) := by kernel_rfl
@[go_sem] theorem ze2 : zeroA Try.prog 2 = some (.v (.int .i64 0)) := by kernel_rfl
@[go_sem] theorem kd2 : kindT Try.prog 2 = 7 := by kernel_rfl
@[go_sem] theorem fl3 : flatT Try.prog 3 = some (false, 1) := by kernel_rfl
@[go_sem] theorem ze3 : zeroA Try.prog 3 = some (.v (.int .i64 0)) := by kernel_rfl
@[go_sem] theorem kd3 : kindT Try.prog 3 = 7 := by kernel_rfl
@[go_sem] theorem fl4 : flatT Try.prog 4 = some (false, 1) := by kernel_rfl
@[go_sem] theorem ze4 : zeroA Try.prog 4 = some (.v (.bool false)) := by kernel_rfl
@[go_sem] theorem kd4 : kindT Try.prog 4 = 1 := by kernel_rfl
@[go_sem] theorem fl5 : flatT Try.prog 5 = some (false, 1) := by kernel_rfl
@[go_sem] theorem ze5 : zeroA Try.prog 5 = some (.v (.int .u8 0)) := by kernel_rfl
@[go_sem] theorem kd5 : kindT Try.prog 5 = 7 := by kernel_rfl
@[go_sem] theorem fl9 : flatT Try.prog 9 = some (false, 1) := by kernel_rfl
@[go_sem] theorem ze9 : zeroA Try.prog 9 = some (.v (.string (mkS []))) := by kernel_rfl
@[go_sem] theorem ni9 : notIntT Try.prog 9 = true := by kernel_rfl
@[go_sem] theorem st9 : isStrT Try.prog 9 = true := by kernel_rfl
@[go_sem] theorem ln9 : lenT Try.prog 9 = 2 := by kernel_rfl
@[go_sem] theorem kd9 : kindT Try.prog 9 = 6 := by kernel_rfl
@[go_sem] theorem fl12 : flatT Try.prog 12 = some (false, 1) := by kernel_rfl
@[go_sem] theorem ze12 : zeroA Try.prog 12 = some (.v (.int .u64 0)) := by kernel_rfl
@[go_sem] theorem kd12 : kindT Try.prog 12 = 7 := by kernel_rfl
@[go_sem] theorem fl15 : flatT Try.prog 15 = some (false, 1) := by kernel_rfl
@[go_sem] theorem ze15 : zeroA Try.prog 15 = some (.v (.pointer none)) := by kernel_rfl
@[go_sem] theorem kd15 : kindT Try.prog 15 = 2 := by kernel_rfl
@[go_sem] theorem fl16 : flatT Try.prog 16 = some (false, 1) := by kernel_rfl
@[go_sem] theorem ze16 : zeroA Try.prog 16 = some (.v (.pointer none)) := by kernel_rfl
@[go_sem] theorem kd16 : kindT Try.prog 16 = 2 := by kernel_rfl
@[go_sem] theorem fl17 : flatT Try.prog 17 = some (false, 1) := by kernel_rfl
@[go_sem] theorem ze17 : zeroA Try.prog 17 = some (.v (.pointer none)) := by kernel_rfl
@[go_sem] theorem kd17 : kindT Try.prog 17 = 2 := by kernel_rfl
@[go_sem] theorem ze20 : zeroA Try.prog 20 = some (.v .nilIface) := by kernel_rfl
@[go_sem] theorem kd20 : kindT Try.prog 20 = 0 := by kernel_rfl
@[go_sem] theorem fl21 : flatT Try.prog 21 = some (false, 1) := by kernel_rfl
@[go_sem] theorem ze21 : zeroA Try.prog 21 = some (.v (.int .i32 0)) := by kernel_rfl
@[go_sem] theorem kd21 : kindT Try.prog 21 = 7 := by kernel_rfl
@[go_sem] theorem fl22 : flatT Try.prog 22 = some (false, 1) := by kernel_rfl
@[go_sem] theorem ze22 : zeroA Try.prog 22 = some (.v (.slice none 0 0)) := by kernel_rfl
@[go_sem] theorem el22 : elemT Try.prog 22 = some (55, 2, 32) := by kernel_rfl
@[go_sem] theorem ni22 : notIntT Try.prog 22 = true := by kernel_rfl
@[go_sem] theorem ln22 : lenT Try.prog 22 = 1 := by kernel_rfl
@[go_sem] theorem kd22 : kindT Try.prog 22 = 3 := by kernel_rfl
@[go_sem] theorem fl23 : flatT Try.prog 23 = some (false, 1) := by kernel_rfl
@[go_sem] theorem ze23 : zeroA Try.prog 23 = some (.v (.slice none 0 0)) := by kernel_rfl
@[go_sem] theorem el23 : elemT Try.prog 23 = some (35, 4, 56) := by kernel_rfl
@[go_sem] theorem ni23 : notIntT Try.prog 23 = true := by kernel_rfl
@[go_sem] theorem ln23 : lenT Try.prog 23 = 1 := by kernel_rfl
@[go_sem] theorem kd23 : kindT Try.prog 23 = 3 := by kernel_rfl
@[go_sem] theorem ze24 : zeroA Try.prog 24 = some (.v .nilFunc) := by kernel_rfl
@[go_sem] theorem kd24 : kindT Try.prog 24 = 5 := by kernel_rfl
@[go_sem] theorem ze25 : zeroA Try.prog 25 = some (.v .nilFunc) := by kernel_rfl
@[go_sem] theorem kd25 : kindT Try.prog 25 = 5 := by kernel_rfl
@[go_sem] theorem fl26 : flatT Try.prog 26 = some (false, 1) := by kernel_rfl
@[go_sem] theorem ze26 : zeroA Try.prog 26 = some (.v (.pointer none)) := by kernel_rfl
@[go_sem] theorem kd26 : kindT Try.prog 26 = 2 := by kernel_rfl
@[go_sem] theorem fl27 : flatT Try.prog 27 = some (false, 1) := by kernel_rfl
@[go_sem] theorem ze27 : zeroA Try.prog 27 = some (.v (.int .i64 0)) := by kernel_rfl
@[go_sem] theorem kd27 : kindT Try.prog 27 = 7 := by kernel_rfl
@[go_sem] theorem ze29 : zeroA Try.prog 29 = some (.v .nilFunc) := by kernel_rfl
@[go_sem] theorem kd29 : kindT Try.prog 29 = 5 := by kernel_rfl
@[go_sem] theorem fl30 : flatT Try.prog 30 = some (false, 1) := by kernel_rfl
@[go_sem] theorem ze30 : zeroA Try.prog 30 = some (.v (.pointer none)) := by kernel_rfl
@[go_sem] theorem kd30 : kindT Try.prog 30 = 2 := by kernel_rfl
@[go_sem] theorem ze32 : zeroA Try.prog 32 = some (.v .nilFunc) := by kernel_rfl
@[go_sem] theorem kd32 : kindT Try.prog 32 = 5 := by kernel_rfl
@[go_sem] theorem fl33 : flatT Try.prog 33 = some (false, 1) := by kernel_rfl
@[go_sem] theorem ze33 : zeroA Try.prog 33 = some (.v (.slice none 0 0)) := by kernel_rfl
@[go_sem] theorem el33 : elemT Try.prog 33 = some (60, 2, 40) := by kernel_rfl
@[go_sem] theorem ni33 : notIntT Try.prog 33 = true := by kernel_rfl
@[go_sem] theorem ln33 : lenT Try.prog 33 = 1 := by kernel_rfl
@[go_sem] theorem kd33 : kindT Try.prog 33 = 3 := by kernel_rfl
@[go_sem] theorem fl34 : flatT Try.prog 34 = some (true, 4) := by kernel_rfl
@[go_sem] theorem ze34 : zeroA Try.prog 34 = some (.agg [.v (.int .i64 0), .v (.int .i64 0), .v (.string (mkS [])), .v (.slice none 0 0)]) := by kernel_rfl
@[go_sem] theorem kd34 : kindT Try.prog 34 = 0 := by kernel_rfl
@[go_sem] theorem of34_0 : offT Try.prog 34 0 = some 0 := by kernel_rfl
@[go_sem] theorem of34_1 : offT Try.prog 34 1 = some 1 := by kernel_rfl
@[go_sem] theorem of34_2 : offT Try.prog 34 2 = some 2 := by kernel_rfl
@[go_sem] theorem of34_3 : offT Try.prog 34 3 = some 3 := by kernel_rfl
@[go_sem] theorem pl34 : placesT Try.prog 34 = some [(0, 1), (1, 1), (2, 1), (3, 1)] := by kernel_rfl
@[go_sem] theorem fl35 : flatT Try.prog 35 = some (true, 4) := by kernel_rfl
@[go_sem] theorem ze35 : zeroA Try.prog 35 = some (.agg [.v (.int .i64 0), .v (.int .i64 0), .v (.string (mkS [])), .v (.slice none 0 0)]) := by kernel_rfl
@[go_sem] theorem kd35 : kindT Try.prog 35 = 0 := by kernel_rfl
@[go_sem] theorem of35_0 : offT Try.prog 35 0 = some 0 := by kernel_rfl
@[go_sem] theorem of35_1 : offT Try.prog 35 1 = some 1 := by kernel_rfl
@[go_sem] theorem of35_2 : offT Try.prog 35 2 = some 2 := by kernel_rfl
@[go_sem] theorem of35_3 : offT Try.prog 35 3 = some 3 := by kernel_rfl
@[go_sem] theorem pl35 : placesT Try.prog 35 = some [(0, 1), (1, 1), (2, 1), (3, 1)] := by kernel_rfl
@[go_sem] theorem ze36 : zeroA Try.prog 36 = some (.v .nilFunc) := by kernel_rfl
@[go_sem] theorem kd36 : kindT Try.prog 36 = 5 := by kernel_rfl
@[go_sem] theorem ze37 : zeroA Try.prog 37 = some (.v .nilFunc) := by kernel_rfl
@[go_sem] theorem kd37 : kindT Try.prog 37 = 5 := by kernel_rfl
@[go_sem] theorem ze38 : zeroA Try.prog 38 = some (.v .nilFunc) := by kernel_rfl
@[go_sem] theorem kd38 : kindT Try.prog 38 = 5 := by kernel_rfl
@[go_sem] theorem ze40 : zeroA Try.prog 40 = some (.v .nilFunc) := by kernel_rfl
@[go_sem] theorem kd40 : kindT Try.prog 40 = 5 := by kernel_rfl
@[go_sem] theorem ze42 : zeroA Try.prog 42 = some (.v .nilFunc) := by kernel_rfl
@[go_sem] theorem kd42 : kindT Try.prog 42 = 5 := by kernel_rfl
@[go_sem] theorem fl43 : flatT Try.prog 43 = some (false, 1) := by kernel_rfl
@[go_sem] theorem ze43 : zeroA Try.prog 43 = some (.v (.slice none 0 0)) := by kernel_rfl
@[go_sem] theorem el43 : elemT Try.prog 43 = some (9, 1, 16) := by kernel_rfl
@[go_sem] theorem ni43 : notIntT Try.prog 43 = true := by kernel_rfl
@[go_sem] theorem ln43 : lenT Try.prog 43 = 1 := by kernel_rfl
@[go_sem] theorem kd43 : kindT Try.prog 43 = 3 := by kernel_rfl
@[go_sem] theorem ze45 : zeroA Try.prog 45 = some (.v .nilFunc) := by kernel_rfl
@[go_sem] theorem kd45 : kindT Try.prog 45 = 5 := by kernel_rfl
@[go_sem] theorem ze46 : zeroA Try.prog 46 = some (.v .nilFunc) := by kernel_rfl
@[go_sem] theorem kd46 : kindT Try.prog 46 = 5 := by kernel_rfl
@[go_sem] theorem ze47 : zeroA Try.prog 47 = some (.v .nilFunc) := by kernel_rfl
@[go_sem] theorem kd47 : kindT Try.prog 47 = 5 := by kernel_rfl
@[go_sem] theorem ze48 : zeroA Try.prog 48 = some (.v .nilFunc) := by kernel_rfl
@[go_sem] theorem kd48 : kindT Try.prog 48 = 5 := by kernel_rfl
@[go_sem] theorem ze49 : zeroA Try.prog 49 = some (.v .nilFunc) := by kernel_rfl
@[go_sem] theorem kd49 : kindT Try.prog 49 = 5 := by kernel_rfl
@[go_sem] theorem fl50 : flatT Try.prog 50 = some (false, 1) := by kernel_rfl
@[go_sem] theorem ze50 : zeroA Try.prog 50 = some (.v (.slice none 0 0)) := by kernel_rfl
@[go_sem] theorem el50 : elemT Try.prog 50 = some (66, 2, 40) := by kernel_rfl
@[go_sem] theorem ni50 : notIntT Try.prog 50 = true := by kernel_rfl
@[go_sem] theorem ln50 : lenT Try.prog 50 = 1 := by kernel_rfl
@[go_sem] theorem kd50 : kindT Try.prog 50 = 3 := by kernel_rfl
@[go_sem] theorem fl51 : flatT Try.prog 51 = some (true, 2) := by kernel_rfl
@[go_sem] theorem ze51 : zeroA Try.prog 51 = some (.agg [.v (.slice none 0 0), .v (.slice none 0 0)]) := by kernel_rfl
@[go_sem] theorem kd51 : kindT Try.prog 51 = 0 := by kernel_rfl
@[go_sem] theorem of51_0 : offT Try.prog 51 0 = some 0 := by kernel_rfl
@[go_sem] theorem of51_1 : offT Try.prog 51 1 = some 1 := by kernel_rfl
@[go_sem] theorem pl51 : placesT Try.prog 51 = some [(0, 1), (1, 1)] := by kernel_rfl
@[go_sem] theorem fl52 : flatT Try.prog 52 = some (true, 2) := by kernel_rfl
@[go_sem] theorem ze52 : zeroA Try.prog 52 = some (.agg [.v (.slice none 0 0), .v (.slice none 0 0)]) := by kernel_rfl
@[go_sem] theorem kd52 : kindT Try.prog 52 = 0 := by kernel_rfl
@[go_sem] theorem of52_0 : offT Try.prog 52 0 = some 0 := by kernel_rfl
@[go_sem] theorem of52_1 : offT Try.prog 52 1 = some 1 := by kernel_rfl
@[go_sem] theorem pl52 : placesT Try.prog 52 = some [(0, 1), (1, 1)] := by kernel_rfl
@[go_sem] theorem ze53 : zeroA Try.prog 53 = some (.v .nilFunc) := by kernel_rfl
@[go_sem] theorem kd53 : kindT Try.prog 53 = 5 := by kernel_rfl
@[go_sem] theorem fl54 : flatT Try.prog 54 = some (true, 2) := by kernel_rfl
@[go_sem] theorem ze54 : zeroA Try.prog 54 = some (.agg [.v (.string (mkS [])), .v (.string (mkS []))]) := by kernel_rfl
@[go_sem] theorem kd54 : kindT Try.prog 54 = 0 := by kernel_rfl
@[go_sem] theorem of54_0 : offT Try.prog 54 0 = some 0 := by kernel_rfl
@[go_sem] theorem of54_1 : offT Try.prog 54 1 = some 1 := by kernel_rfl
@[go_sem] theorem pl54 : placesT Try.prog 54 = some [(0, 1), (1, 1)] := by kernel_rfl
@[go_sem] theorem pt54 : plainT Try.prog 54 = some [6, 6] := by kernel_rfl
@[go_sem] theorem fl55 : flatT Try.prog 55 = some (true, 2) := by kernel_rfl
@[go_sem] theorem ze55 : zeroA Try.prog 55 = some (.agg [.v (.string (mkS [])), .v (.string (mkS []))]) := by kernel_rfl
@[go_sem] theorem kd55 : kindT Try.prog 55 = 0 := by kernel_rfl
@[go_sem] theorem of55_0 : offT Try.prog 55 0 = some 0 := by kernel_rfl
@[go_sem] theorem of55_1 : offT Try.prog 55 1 = some 1 := by kernel_rfl
@[go_sem] theorem pl55 : placesT Try.prog 55 = some [(0, 1), (1, 1)] := by kernel_rfl
@[go_sem] theorem pt55 : plainT Try.prog 55 = some [6, 6] := by kernel_rfl
@[go_sem] theorem fl56 : flatT Try.prog 56 = some (true, 3) := by kernel_rfl
@[go_sem] theorem ze56 : zeroA Try.prog 56 = some (.agg [.v (.int .i64 0), .v (.int .i64 0), .v (.string (mkS []))]) := by kernel_rfl
@[go_sem] theorem kd56 : kindT Try.prog 56 = 0 := by kernel_rfl
@[go_sem] theorem of56_0 : offT Try.prog 56 0 = some 0 := by kernel_rfl
@[go_sem] theorem of56_1 : offT Try.prog 56 1 = some 1 := by kernel_rfl
@[go_sem] theorem of56_2 : offT Try.prog 56 2 = some 2 := by kernel_rfl
@[go_sem] theorem pl56 : placesT Try.prog 56 = some [(0, 1), (1, 1), (2, 1)] := by kernel_rfl
@[go_sem] theorem pt56 : plainT Try.prog 56 = some [7, 7, 6] := by kernel_rfl
@[go_sem] theorem fl57 : flatT Try.prog 57 = some (true, 3) := by kernel_rfl
@[go_sem] theorem ze57 : zeroA Try.prog 57 = some (.agg [.v (.int .i64 0), .v (.int .i64 0), .v (.string (mkS []))]) := by kernel_rfl
@[go_sem] theorem kd57 : kindT Try.prog 57 = 0 := by kernel_rfl
@[go_sem] theorem of57_0 : offT Try.prog 57 0 = some 0 := by kernel_rfl
@[go_sem] theorem of57_1 : offT Try.prog 57 1 = some 1 := by kernel_rfl
@[go_sem] theorem of57_2 : offT Try.prog 57 2 = some 2 := by kernel_rfl
@[go_sem] theorem pl57 : placesT Try.prog 57 = some [(0, 1), (1, 1), (2, 1)] := by kernel_rfl
@[go_sem] theorem pt57 : plainT Try.prog 57 = some [7, 7, 6] := by kernel_rfl
@[go_sem] theorem fl58 : flatT Try.prog 58 = some (false, 1) := by kernel_rfl
@[go_sem] theorem ze58 : zeroA Try.prog 58 = some (.v (.slice none 0 0)) := by kernel_rfl
@[go_sem] theorem el58 : elemT Try.prog 58 = some (57, 3, 32) := by kernel_rfl
@[go_sem] theorem ni58 : notIntT Try.prog 58 = true := by kernel_rfl
@[go_sem] theorem ln58 : lenT Try.prog 58 = 1 := by kernel_rfl
@[go_sem] theorem kd58 : kindT Try.prog 58 = 3 := by kernel_rfl
@[go_sem] theorem fl59 : flatT Try.prog 59 = some (true, 2) := by kernel_rfl
@[go_sem] theorem ze59 : zeroA Try.prog 59 = some (.agg [.v (.string (mkS [])), .v (.slice none 0 0)]) := by kernel_rfl
@[go_sem] theorem kd59 : kindT Try.prog 59 = 0 := by kernel_rfl
@[go_sem] theorem of59_0 : offT Try.prog 59 0 = some 0 := by kernel_rfl
@[go_sem] theorem of59_1 : offT Try.prog 59 1 = some 1 := by kernel_rfl
@[go_sem] theorem pl59 : placesT Try.prog 59 = some [(0, 1), (1, 1)] := by kernel_rfl
@[go_sem] theorem fl60 : flatT Try.prog 60 = some (true, 2) := by kernel_rfl
@[go_sem] theorem ze60 : zeroA Try.prog 60 = some (.agg [.v (.string (mkS [])), .v (.slice none 0 0)]) := by kernel_rfl
@[go_sem] theorem kd60 : kindT Try.prog 60 = 0 := by kernel_rfl
@[go_sem] theorem of60_0 : offT Try.prog 60 0 = some 0 := by kernel_rfl
@[go_sem] theorem of60_1 : offT Try.prog 60 1 = some 1 := by kernel_rfl
@[go_sem] theorem pl60 : placesT Try.prog 60 = some [(0, 1), (1, 1)] := by kernel_rfl
@[go_sem] theorem ze61 : zeroA Try.prog 61 = some (.v .nilFunc) := by kernel_rfl
@[go_sem] theorem kd61 : kindT Try.prog 61 = 5 := by kernel_rfl
@[go_sem] theorem fl62 : flatT Try.prog 62 = some (false, 1) := by kernel_rfl
@[go_sem] theorem ze62 : zeroA Try.prog 62 = some (.v (.slice none 0 0)) := by kernel_rfl
@[go_sem] theorem el62 : elemT Try.prog 62 = some (74, 3, 64) := by kernel_rfl
@[go_sem] theorem ni62 : notIntT Try.prog 62 = true := by kernel_rfl
@[go_sem] theorem ln62 : lenT Try.prog 62 = 1 := by kernel_rfl
@[go_sem] theorem kd62 : kindT Try.prog 62 = 3 := by kernel_rfl
@[go_sem] theorem fl63 : flatT Try.prog 63 = some (true, 3) := by kernel_rfl
@[go_sem] theorem ze63 : zeroA Try.prog 63 = some (.agg [.v (.slice none 0 0), .v (.slice none 0 0), .v (.slice none 0 0)]) := by kernel_rfl
@[go_sem] theorem kd63 : kindT Try.prog 63 = 0 := by kernel_rfl
@[go_sem] theorem of63_0 : offT Try.prog 63 0 = some 0 := by kernel_rfl
@[go_sem] theorem of63_1 : offT Try.prog 63 1 = some 1 := by kernel_rfl
@[go_sem] theorem of63_2 : offT Try.prog 63 2 = some 2 := by kernel_rfl
@[go_sem] theorem pl63 : placesT Try.prog 63 = some [(0, 1), (1, 1), (2, 1)] := by kernel_rfl
@[go_sem] theorem fl64 : flatT Try.prog 64 = some (true, 3) := by kernel_rfl
@[go_sem] theorem ze64 : zeroA Try.prog 64 = some (.agg [.v (.slice none 0 0), .v (.slice none 0 0), .v (.slice none 0 0)]) := by kernel_rfl
@[go_sem] theorem kd64 : kindT Try.prog 64 = 0 := by kernel_rfl
@[go_sem] theorem of64_0 : offT Try.prog 64 0 = some 0 := by kernel_rfl
@[go_sem] theorem of64_1 : offT Try.prog 64 1 = some 1 := by kernel_rfl
@[go_sem] theorem of64_2 : offT Try.prog 64 2 = some 2 := by kernel_rfl
@[go_sem] theorem pl64 : placesT Try.prog 64 = some [(0, 1), (1, 1), (2, 1)] := by kernel_rfl
@[go_sem] theorem fl65 : flatT Try.prog 65 = some (true, 2) := by kernel_rfl
@[go_sem] theorem ze65 : zeroA Try.prog 65 = some (.agg [.v (.string (mkS [])), .v (.slice none 0 0)]) := by kernel_rfl
@[go_sem] theorem kd65 : kindT Try.prog 65 = 0 := by kernel_rfl
@[go_sem] theorem of65_0 : offT Try.prog 65 0 = some 0 := by kernel_rfl
@[go_sem] theorem of65_1 : offT Try.prog 65 1 = some 1 := by kernel_rfl
@[go_sem] theorem pl65 : placesT Try.prog 65 = some [(0, 1), (1, 1)] := by kernel_rfl
@[go_sem] theorem fl66 : flatT Try.prog 66 = some (true, 2) := by kernel_rfl
@[go_sem] theorem ze66 : zeroA Try.prog 66 = some (.agg [.v (.string (mkS [])), .v (.slice none 0 0)]) := by kernel_rfl
@[go_sem] theorem kd66 : kindT Try.prog 66 = 0 := by kernel_rfl
@[go_sem] theorem of66_0 : offT Try.prog 66 0 = some 0 := by kernel_rfl
@[go_sem] theorem of66_1 : offT Try.prog 66 1 = some 1 := by kernel_rfl
@[go_sem] theorem pl66 : placesT Try.prog 66 = some [(0, 1), (1, 1)] := by kernel_rfl
@[go_sem] theorem ze68 : zeroA Try.prog 68 = some (.v .nilFunc) := by kernel_rfl
@[go_sem] theorem kd68 : kindT Try.prog 68 = 5 := by kernel_rfl
@[go_sem] theorem ze70 : zeroA Try.prog 70 = some (.v .nilFunc) := by kernel_rfl
@[go_sem] theorem kd70 : kindT Try.prog 70 = 5 := by kernel_rfl
@[go_sem] theorem ze71 : zeroA Try.prog 71 = some (.v .nilFunc) := by kernel_rfl
@[go_sem] theorem kd71 : kindT Try.prog 71 = 5 := by kernel_rfl
@[go_sem] theorem ze72 : zeroA Try.prog 72 = some (.v .nilFunc) := by kernel_rfl
@[go_sem] theorem kd72 : kindT Try.prog 72 = 5 := by kernel_rfl
@[go_sem] theorem fl73 : flatT Try.prog 73 = some (true, 3) := by kernel_rfl
@[go_sem] theorem ze73 : zeroA Try.prog 73 = some (.agg [.v (.string (mkS [])), .v (.slice none 0 0), .v (.slice none 0 0)]) := by kernel_rfl
@[go_sem] theorem kd73 : kindT Try.prog 73 = 0 := by kernel_rfl
@[go_sem] theorem of73_0 : offT Try.prog 73 0 = some 0 := by kernel_rfl
@[go_sem] theorem of73_1 : offT Try.prog 73 1 = some 1 := by kernel_rfl
@[go_sem] theorem of73_2 : offT Try.prog 73 2 = some 2 := by kernel_rfl
@[go_sem] theorem pl73 : placesT Try.prog 73 = some [(0, 1), (1, 1), (2, 1)] := by kernel_rfl
@[go_sem] theorem fl74 : flatT Try.prog 74 = some (true, 3) := by kernel_rfl
@[go_sem] theorem ze74 : zeroA Try.prog 74 = some (.agg [.v (.string (mkS [])), .v (.slice none 0 0), .v (.slice none 0 0)]) := by kernel_rfl
@[go_sem] theorem kd74 : kindT Try.prog 74 = 0 := by kernel_rfl
@[go_sem] theorem of74_0 : offT Try.prog 74 0 = some 0 := by kernel_rfl
@[go_sem] theorem of74_1 : offT Try.prog 74 1 = some 1 := by kernel_rfl
@[go_sem] theorem of74_2 : offT Try.prog 74 2 = some 2 := by kernel_rfl
@[go_sem] theorem pl74 : placesT Try.prog 74 = some [(0, 1), (1, 1), (2, 1)] := by kernel_rfl
@[go_sem] theorem ze75 : zeroA Try.prog 75 = some (.v .nilFunc) := by kernel_rfl
@[go_sem] theorem kd75 : kindT Try.prog 75 = 5 := by kernel_rfl
@[go_sem] theorem ze77 : zeroA Try.prog 77 = some (.v .nilFunc) := by kernel_rfl
@[go_sem] theorem kd77 : kindT Try.prog 77 = 5 := by kernel_rfl
@[go_sem] theorem ze78 : zeroA Try.prog 78 = some (.v .nilFunc) := by kernel_rfl
@[go_sem] theorem kd78 : kindT Try.prog 78 = 5 := by kernel_rfl
@[go_sem] theorem ze79 : zeroA Try.prog 79 = some (.v .nilFunc) := by kernel_rfl
@[go_sem] theorem kd79 : kindT Try.prog 79 = 5 := by kernel_rfl
@[go_sem] theorem ze80 : zeroA Try.prog 80 = some (.v .nilFunc) := by kernel_rfl
@[go_sem] theorem kd80 : kindT Try.prog 80 = 5 := by kernel_rfl
@[go_sem] theorem ze81 : zeroA Try.prog 81 = some (.v .nilFunc) := by kernel_rfl
@[go_sem] theorem kd81 : kindT Try.prog 81 = 5 := by kernel_rfl
@[go_sem] theorem fl82 : flatT Try.prog 82 = some (false, 1) := by kernel_rfl
@[go_sem] theorem ze82 : zeroA Try.prog 82 = some (.v (.map none)) := by kernel_rfl
@[go_sem] theorem ln82 : lenT Try.prog 82 = 3 := by kernel_rfl
@[go_sem] theorem kd82 : kindT Try.prog 82 = 4 := by kernel_rfl
@[go_sem] theorem mp82 : mapT Try.prog 82 = some (9, 4) := by kernel_rfl
@[go_sem] theorem ze83 : zeroA Try.prog 83 = some (.v .nilFunc) := by kernel_rfl
@[go_sem] theorem kd83 : kindT Try.prog 83 = 5 := by kernel_rfl
@[go_sem] theorem ze84 : zeroA Try.prog 84 = some (.v .nilFunc) := by kernel_rfl
@[go_sem] theorem kd84 : kindT Try.prog 84 = 5 := by kernel_rfl
@[go_sem] theorem ze85 : zeroA Try.prog 85 = some (.v .nilFunc) := by kernel_rfl
@[go_sem] theorem kd85 : kindT Try.prog 85 = 5 := by kernel_rfl
@[go_sem] theorem ze86 : zeroA Try.prog 86 = some (.v .nilFunc) := by kernel_rfl
@[go_sem] theorem kd86 : kindT Try.prog 86 = 5 := by kernel_rfl
@[go_sem] theorem ze87 : zeroA Try.prog 87 = some (.v .nilFunc) := by kernel_rfl
@[go_sem] theorem kd87 : kindT Try.prog 87 = 5 := by kernel_rfl
@[go_sem] theorem ze88 : zeroA Try.prog 88 = some (.v .nilFunc) := by kernel_rfl
@[go_sem] theorem kd88 : kindT Try.prog 88 = 5 := by kernel_rfl
@[go_sem] theorem ze89 : zeroA Try.prog 89 = some (.v .nilFunc) := by kernel_rfl
@[go_sem] theorem kd89 : kindT Try.prog 89 = 5 := by kernel_rfl
@[go_sem] theorem ze90 : zeroA Try.prog 90 = some (.v .nilFunc) := by kernel_rfl
@[go_sem] theorem kd90 : kindT Try.prog 90 = 5 := by kernel_rfl
@[go_sem] theorem fl91 : flatT Try.prog 91 = some (false, 1) := by kernel_rfl
@[go_sem] theorem ze91 : zeroA Try.prog 91 = some (.v (.pointer none)) := by kernel_rfl
@[go_sem] theorem kd91 : kindT Try.prog 91 = 2 := by kernel_rfl
@[go_sem] theorem fl92 : flatT Try.prog 92 = some (false, 1) := by kernel_rfl
@[go_sem] theorem ze92 : zeroA Try.prog 92 = some (.v (.slice none 0 0)) := by kernel_rfl
@[go_sem] theorem el92 : elemT Try.prog 92 = some (5, 1, 1) := by kernel_rfl
@[go_sem] theorem ni92 : notIntT Try.prog 92 = true := by kernel_rfl
@[go_sem] theorem ln92 : lenT Try.prog 92 = 1 := by kernel_rfl
@[go_sem] theorem kd92 : kindT Try.prog 92 = 3 := by kernel_rfl
@[go_sem] theorem fl93 : flatT Try.prog 93 = some (true, 2) := by kernel_rfl
@[go_sem] theorem ze93 : zeroA Try.prog 93 = some (.agg [.v (.pointer none), .v (.slice none 0 0)]) := by kernel_rfl
@[go_sem] theorem kd93 : kindT Try.prog 93 = 0 := by kernel_rfl
@[go_sem] theorem of93_0 : offT Try.prog 93 0 = some 0 := by kernel_rfl
@[go_sem] theorem of93_1 : offT Try.prog 93 1 = some 1 := by kernel_rfl
@[go_sem] theorem pl93 : placesT Try.prog 93 = some [(0, 1), (1, 1)] := by kernel_rfl
@[go_sem] theorem fl94 : flatT Try.prog 94 = some (true, 2) := by kernel_rfl
@[go_sem] theorem ze94 : zeroA Try.prog 94 = some (.agg [.v (.pointer none), .v (.slice none 0 0)]) := by kernel_rfl
@[go_sem] theorem kd94 : kindT Try.prog 94 = 0 := by kernel_rfl
@[go_sem] theorem of94_0 : offT Try.prog 94 0 = some 0 := by kernel_rfl
@[go_sem] theorem of94_1 : offT Try.prog 94 1 = some 1 := by kernel_rfl
@[go_sem] theorem pl94 : placesT Try.prog 94 = some [(0, 1), (1, 1)] := by kernel_rfl
@[go_sem] theorem ze95 : zeroA Try.prog 95 = some (.v .nilIface) := by kernel_rfl
@[go_sem] theorem kd95 : kindT Try.prog 95 = 0 := by kernel_rfl
@[go_sem] theorem fl96 : flatT Try.prog 96 = some (false, 1) := by kernel_rfl
@[go_sem] theorem ze96 : zeroA Try.prog 96 = some (.v .nilIface) := by kernel_rfl
@[go_sem] theorem kd96 : kindT Try.prog 96 = 0 := by kernel_rfl
@[go_sem] theorem ze98 : zeroA Try.prog 98 = some (.v .nilFunc) := by kernel_rfl
@[go_sem] theorem kd98 : kindT Try.prog 98 = 5 := by kernel_rfl
@[go_sem] theorem ze99 : zeroA Try.prog 99 = some (.v .nilFunc) := by kernel_rfl
@[go_sem] theorem kd99 : kindT Try.prog 99 = 5 := by kernel_rfl
@[go_sem] theorem ze100 : zeroA Try.prog 100 = some (.v .nilFunc) := by kernel_rfl
@[go_sem] theorem kd100 : kindT Try.prog 100 = 5 := by kernel_rfl
@[go_sem] theorem ze101 : zeroA Try.prog 101 = some (.v .nilFunc) := by kernel_rfl
@[go_sem] theorem kd101 : kindT Try.prog 101 = 5 := by kernel_rfl
@[go_sem] theorem ze102 : zeroA Try.prog 102 = some (.v .nilFunc) := by kernel_rfl
@[go_sem] theorem kd102 : kindT Try.prog 102 = 5 := by kernel_rfl
@[go_sem] theorem fl103 : flatT Try.prog 103 = some (false, 1) := by kernel_rfl
@[go_sem] theorem ze103 : zeroA Try.prog 103 = some (.v (.pointer none)) := by kernel_rfl
@[go_sem] theorem kd103 : kindT Try.prog 103 = 2 := by kernel_rfl
@[go_sem] theorem fl104 : flatT Try.prog 104 = some (false, 1) := by kernel_rfl
@[go_sem] theorem ze104 : zeroA Try.prog 104 = some (.v (.int .u64 0)) := by kernel_rfl
@[go_sem] theorem kd104 : kindT Try.prog 104 = 7 := by kernel_rfl
@[go_sem] theorem ze106 : zeroA Try.prog 106 = some (.v .nilFunc) := by kernel_rfl
@[go_sem] theorem kd106 : kindT Try.prog 106 = 5 := by kernel_rfl
@[go_sem] theorem fl109 : flatT Try.prog 109 = some (true, 0) := by kernel_rfl
@[go_sem] theorem kd109 : kindT Try.prog 109 = 0 := by kernel_rfl
@[go_sem] theorem ze112 : zeroA Try.prog 112 = some (.v .nilFunc) := by kernel_rfl
@[go_sem] theorem kd112 : kindT Try.prog 112 = 5 := by kernel_rfl
@[go_sem] theorem fl113 : flatT Try.prog 113 = some (false, 1) := by kernel_rfl
@[go_sem] theorem ze113 : zeroA Try.prog 113 = some (.v (.int .u32 0)) := by kernel_rfl
@[go_sem] theorem kd113 : kindT Try.prog 113 = 7 := by kernel_rfl
@[go_sem] theorem ze116 : zeroA Try.prog 116 = some (.v .nilFunc) := by kernel_rfl
@[go_sem] theorem kd116 : kindT Try.prog 116 = 5 := by kernel_rfl
@[go_sem] theorem fl119 : flatT Try.prog 119 = some (true, 11) := by kernel_rfl
@[go_sem] theorem ze119 : zeroA Try.prog 119 = some (.agg [.v (.int .u64 0), .v (.int .u64 0), .v (.int .u32 0), .v (.int .u8 0), .v (.int .u8 0), .v (.int .u8 0), .v (.int .u8 0), .v .nilFunc, .v (.pointer none), .v (.int .i32 0), .v (.int .i32 0)]) := by kernel_rfl
@[go_sem] theorem kd119 : kindT Try.prog 119 = 0 := by kernel_rfl
@[go_sem] theorem of119_0 : offT Try.prog 119 0 = some 0 := by kernel_rfl
@[go_sem] theorem of119_1 : offT Try.prog 119 1 = some 1 := by kernel_rfl
@[go_sem] theorem of119_2 : offT Try.prog 119 2 = some 2 := by kernel_rfl
@[go_sem] theorem of119_3 : offT Try.prog 119 3 = some 3 := by kernel_rfl
@[go_sem] theorem of119_4 : offT Try.prog 119 4 = some 4 := by kernel_rfl
@[go_sem] theorem of119_5 : offT Try.prog 119 5 = some 5 := by kernel_rfl
@[go_sem] theorem of119_6 : offT Try.prog 119 6 = some 6 := by kernel_rfl
@[go_sem] theorem of119_7 : offT Try.prog 119 7 = some 7 := by kernel_rfl
@[go_sem] theorem of119_8 : offT Try.prog 119 8 = some 8 := by kernel_rfl
@[go_sem] theorem of119_9 : offT Try.prog 119 9 = some 9 := by kernel_rfl
@[go_sem] theorem of119_10 : offT Try.prog 119 10 = some 10 := by kernel_rfl
@[go_sem] theorem pl119 : placesT Try.prog 119 = some [(0, 1), (1, 1), (2, 1), (3, 1), (4, 1), (5, 1), (6, 1), (7, 1), (8, 1), (9, 1), (10, 1)] := by kernel_rfl

end Go.Flow
