/- The functions as intermediate codes. -/
import Derived.Test.YtannfoaobeoafaaDoorRaeSem
namespace Go.Rae.Order
set_option maxRecDepth 100000
/- roundhouse/roundhouselaw10.OrderAll -/
def F0 : IFn := ⟨10, [.t 20],
 (.seq (.reg [⟨(some 20), .mv (.c (.b false)), none⟩] [0, 1, 2, 3, 4, 5, 6, 7, 8, 9])
  (.seq (.seq (.reg [⟨(some 42), .call (.f 1) [], none⟩,
        ⟨(some 43), .un .not (.t 42), none⟩] [0, 1, 2, 3, 4, 5, 6, 7, 8, 9, 43])
    (.cond (.t 43)
     (.seq (.reg [⟨(some 20), .mv (.c (.b false)), none⟩] [20])
      .ret)
     .skip))
   (.seq (.reg [⟨(some 44), .mv (.t 0), none⟩,
        ⟨(some 45), .call (.f 2) [(.t 44), (.c (.i .i64 60))], none⟩,
        ⟨(some 21), .box 15 (.c (.agg 15 [.i .i64 0, .i .i64 0, .i .i64 0, .agg 12 (List.replicate 64 (.agg 11 [.i .i64 0, .i .i64 0, .i .i64 0, .i .i64 0, .i .i64 0])), .agg 14 [.i .i64 0, .agg 13 [.i .u64 0, .i .u64 0], .agg 13 [.i .u64 0, .i .u64 0], .agg 13 [.i .u64 0, .i .u64 0]]])), none⟩,
        ⟨none, .store 15 (.t 21) (.t 45), none⟩] [1, 2, 3, 4, 5, 6, 7, 8, 9, 21])
    (.seq (.reg [⟨(some 46), .mv (.t 1), none⟩,
         ⟨(some 47), .call (.f 3) [(.t 46), (.c (.i .i64 6))], none⟩,
         ⟨(some 48), .mv (.t 2), none⟩,
         ⟨(some 49), .call (.f 3) [(.t 48), (.c (.i .i64 4))], none⟩,
         ⟨(some 50), .mv (.t 3), none⟩,
         ⟨(some 51), .call (.f 3) [(.t 50), (.c (.i .i64 8))], none⟩,
         ⟨(some 52), .bin .add (.c (.i .i64 1)) (.t 51), none⟩,
         ⟨(some 22), .mv (.t 47), none⟩,
         ⟨(some 23), .mv (.t 49), none⟩,
         ⟨(some 24), .mv (.t 52), none⟩] [1, 4, 5, 6, 7, 8, 9, 21, 22, 23, 24])
     (.seq (.seq (.reg [⟨(some 53), .mv (.t 1), none⟩,
           ⟨(some 54), .call (.f 3) [(.t 53), (.c (.i .i64 9))], none⟩,
           ⟨(some 55), .bin .eql (.t 54) (.c (.i .i64 0)), none⟩] [4, 5, 6, 7, 8, 9, 21, 22, 23, 24, 55])
       (.cond (.t 55)
        (.reg [⟨(some 22), .mv (.c (.i .i64 10)), none⟩,
            ⟨(some 23), .mv (.c (.i .i64 80)), none⟩] [4, 5, 6, 7, 8, 9, 21, 22, 23, 24])
        .skip))
      (.seq (.reg [⟨(some 57), .load 15 (.t 21), none⟩,
           ⟨(some 58), .mv (.t 22), none⟩,
           ⟨(some 59), .mv (.t 23), none⟩,
           ⟨(some 60), .mv (.t 24), none⟩,
           ⟨(some 61), .call (.f 4) [(.t 57), (.t 58), (.t 59), (.t 60)], none⟩,
           ⟨(some 56), .mv (.t 61), none⟩,
           ⟨(some 62), .ext (.t 56) 0, none⟩,
           ⟨(some 63), .ext (.t 56) 1, none⟩,
           ⟨(some 25), .mv (.t 62), none⟩,
           ⟨(some 26), .mv (.t 63), none⟩] [4, 5, 6, 7, 8, 9, 21, 22, 23, 24, 25, 26])
       (.seq (.reg [⟨(some 65), .load 15 (.t 21), none⟩,
            ⟨(some 66), .mv (.t 22), none⟩,
            ⟨(some 67), .mv (.t 23), none⟩,
            ⟨(some 68), .mv (.t 24), none⟩,
            ⟨(some 69), .call (.f 5) [(.t 65), (.t 66), (.t 67), (.t 68)], none⟩,
            ⟨(some 64), .mv (.t 69), none⟩,
            ⟨(some 70), .ext (.t 64) 0, none⟩,
            ⟨(some 71), .ext (.t 64) 1, none⟩,
            ⟨(some 27), .mv (.t 70), none⟩,
            ⟨(some 28), .mv (.t 71), none⟩] [4, 5, 6, 7, 8, 9, 21, 22, 23, 25, 26, 27, 28])
        (.seq (.reg [⟨(some 73), .load 15 (.t 21), none⟩,
             ⟨(some 74), .mv (.t 4), none⟩,
             ⟨(some 75), .mv (.t 5), none⟩,
             ⟨(some 76), .mv (.t 6), none⟩,
             ⟨(some 77), .call (.f 4) [(.t 73), (.t 74), (.t 75), (.t 76)], none⟩,
             ⟨(some 72), .mv (.t 77), none⟩,
             ⟨(some 78), .ext (.t 72) 0, none⟩,
             ⟨(some 79), .ext (.t 72) 1, none⟩,
             ⟨(some 29), .mv (.t 78), none⟩,
             ⟨(some 30), .mv (.t 79), none⟩] [4, 5, 6, 7, 8, 9, 21, 22, 23, 25, 26, 27, 28, 29, 30])
         (.seq (.reg [⟨(some 81), .load 15 (.t 21), none⟩,
              ⟨(some 82), .mv (.t 4), none⟩,
              ⟨(some 83), .mv (.t 5), none⟩,
              ⟨(some 84), .mv (.t 6), none⟩,
              ⟨(some 85), .call (.f 5) [(.t 81), (.t 82), (.t 83), (.t 84)], none⟩,
              ⟨(some 80), .mv (.t 85), none⟩,
              ⟨(some 86), .ext (.t 80) 0, none⟩,
              ⟨(some 87), .ext (.t 80) 1, none⟩,
              ⟨(some 31), .mv (.t 86), none⟩,
              ⟨(some 32), .mv (.t 87), none⟩] [4, 5, 7, 8, 9, 21, 22, 23, 25, 26, 27, 28, 29, 30, 31, 32])
          (.seq (.reg [⟨(some 89), .load 15 (.t 21), none⟩,
               ⟨(some 90), .mv (.t 22), none⟩,
               ⟨(some 91), .mv (.t 23), none⟩,
               ⟨(some 92), .call (.f 6) [(.t 89), (.t 90), (.t 91)], none⟩,
               ⟨(some 88), .mv (.t 92), none⟩,
               ⟨(some 93), .ext (.t 88) 0, none⟩,
               ⟨(some 94), .ext (.t 88) 1, none⟩,
               ⟨(some 33), .mv (.t 93), none⟩,
               ⟨(some 34), .mv (.t 94), none⟩] [4, 5, 7, 8, 9, 21, 22, 23, 25, 26, 27, 28, 29, 30, 31, 32, 33, 34])
           (.seq (.reg [⟨(some 96), .load 15 (.t 21), none⟩,
                ⟨(some 97), .mv (.t 22), none⟩,
                ⟨(some 98), .mv (.t 23), none⟩,
                ⟨(some 99), .call (.f 7) [(.t 96), (.t 97), (.t 98)], none⟩,
                ⟨(some 95), .mv (.t 99), none⟩,
                ⟨(some 100), .ext (.t 95) 0, none⟩,
                ⟨(some 101), .ext (.t 95) 1, none⟩,
                ⟨(some 35), .mv (.t 100), none⟩,
                ⟨(some 36), .mv (.t 101), none⟩] [4, 5, 7, 8, 9, 21, 25, 26, 27, 28, 29, 30, 31, 32, 33, 34, 35, 36])
            (.seq (.reg [⟨(some 103), .load 15 (.t 21), none⟩,
                 ⟨(some 104), .mv (.t 4), none⟩,
                 ⟨(some 105), .mv (.t 5), none⟩,
                 ⟨(some 106), .call (.f 6) [(.t 103), (.t 104), (.t 105)], none⟩,
                 ⟨(some 102), .mv (.t 106), none⟩,
                 ⟨(some 107), .ext (.t 102) 0, none⟩,
                 ⟨(some 108), .ext (.t 102) 1, none⟩,
                 ⟨(some 37), .mv (.t 107), none⟩,
                 ⟨(some 38), .mv (.t 108), none⟩] [4, 5, 7, 8, 9, 21, 25, 26, 27, 28, 29, 30, 31, 32, 33, 34, 35, 36, 37, 38])
             (.seq (.reg [⟨(some 110), .load 15 (.t 21), none⟩,
                  ⟨(some 111), .mv (.t 4), none⟩,
                  ⟨(some 112), .mv (.t 5), none⟩,
                  ⟨(some 113), .call (.f 7) [(.t 110), (.t 111), (.t 112)], none⟩,
                  ⟨(some 109), .mv (.t 113), none⟩,
                  ⟨(some 114), .ext (.t 109) 0, none⟩,
                  ⟨(some 115), .ext (.t 109) 1, none⟩,
                  ⟨(some 39), .mv (.t 114), none⟩,
                  ⟨(some 40), .mv (.t 115), none⟩] [7, 8, 9, 21, 25, 26, 27, 28, 29, 30, 31, 32, 33, 34, 35, 36, 37, 38, 39, 40])
              (.seq (.seq (.reg [⟨(some 116), .mv (.t 25), none⟩,
                    ⟨(some 117), .mv (.t 27), none⟩,
                    ⟨(some 118), .call (.f 8) [(.t 116), (.t 117)], none⟩,
                    ⟨(some 119), .un .not (.t 118), none⟩,
                    ⟨(some 120), .mv (.t 119), none⟩,
                    ⟨(some 121), .mv (.t 26), some (120, false)⟩,
                    ⟨(some 122), .mv (.t 28), some (120, false)⟩,
                    ⟨(some 123), .bin .neq (.t 121) (.t 122), some (120, false)⟩,
                    ⟨(some 124), .pick (.t 120) (.c (.b true)) (.t 123), none⟩,
                    ⟨(some 125), .mv (.t 124), none⟩,
                    ⟨(some 126), .mv (.t 29), some (125, false)⟩,
                    ⟨(some 127), .mv (.t 31), some (125, false)⟩,
                    ⟨(some 128), .call (.f 8) [(.t 126), (.t 127)], some (125, false)⟩,
                    ⟨(some 129), .un .not (.t 128), some (125, false)⟩,
                    ⟨(some 130), .pick (.t 125) (.c (.b true)) (.t 129), none⟩,
                    ⟨(some 131), .mv (.t 130), none⟩,
                    ⟨(some 132), .mv (.t 30), some (131, false)⟩,
                    ⟨(some 133), .mv (.t 32), some (131, false)⟩,
                    ⟨(some 134), .bin .neq (.t 132) (.t 133), some (131, false)⟩,
                    ⟨(some 135), .pick (.t 131) (.c (.b true)) (.t 134), none⟩,
                    ⟨(some 136), .mv (.t 135), none⟩,
                    ⟨(some 137), .mv (.t 33), some (136, false)⟩,
                    ⟨(some 138), .mv (.t 35), some (136, false)⟩,
                    ⟨(some 139), .call (.f 8) [(.t 137), (.t 138)], some (136, false)⟩,
                    ⟨(some 140), .un .not (.t 139), some (136, false)⟩,
                    ⟨(some 141), .pick (.t 136) (.c (.b true)) (.t 140), none⟩,
                    ⟨(some 142), .mv (.t 141), none⟩,
                    ⟨(some 143), .mv (.t 34), some (142, false)⟩,
                    ⟨(some 144), .mv (.t 36), some (142, false)⟩,
                    ⟨(some 145), .bin .neq (.t 143) (.t 144), some (142, false)⟩,
                    ⟨(some 146), .pick (.t 142) (.c (.b true)) (.t 145), none⟩,
                    ⟨(some 147), .mv (.t 146), none⟩,
                    ⟨(some 148), .mv (.t 37), some (147, false)⟩,
                    ⟨(some 149), .mv (.t 39), some (147, false)⟩,
                    ⟨(some 150), .call (.f 8) [(.t 148), (.t 149)], some (147, false)⟩,
                    ⟨(some 151), .un .not (.t 150), some (147, false)⟩,
                    ⟨(some 152), .pick (.t 147) (.c (.b true)) (.t 151), none⟩,
                    ⟨(some 153), .mv (.t 152), none⟩,
                    ⟨(some 154), .mv (.t 38), some (153, false)⟩,
                    ⟨(some 155), .mv (.t 40), some (153, false)⟩,
                    ⟨(some 156), .bin .neq (.t 154) (.t 155), some (153, false)⟩,
                    ⟨(some 157), .pick (.t 153) (.c (.b true)) (.t 156), none⟩] [7, 8, 9, 21, 157])
                (.cond (.t 157)
                 (.seq (.reg [⟨(some 20), .mv (.c (.b false)), none⟩] [20])
                  .ret)
                 .skip))
               (.seq (.reg [⟨(some 158), .mv (.t 8), none⟩,
                    ⟨(some 159), .call (.f 3) [(.t 158), (.c (.i .i64 66))], none⟩,
                    ⟨(some 160), .bin .sub (.t 159) (.c (.i .i64 1)), none⟩,
                    ⟨(some 41), .mv (.t 160), none⟩] [7, 8, 9, 21, 41])
                (.seq (.drw [⟨(some 161), .load 15 (.t 21), none⟩,
                     ⟨(some 162), .mv (.t 7), none⟩,
                     ⟨(some 163), .call (.f 9) [(.t 162)], none⟩,
                     ⟨(some 164), .call (.f 10) [(.t 161), (.t 163)], none⟩,
                     ⟨(some 165), .load 15 (.t 21), none⟩,
                     ⟨(some 166), .mv (.t 7), none⟩,
                     ⟨(some 167), .call (.f 9) [(.t 166)], none⟩,
                     ⟨(some 168), .call (.f 11) [(.t 165), (.t 167)], none⟩,
                     ⟨(some 169), .call (.f 8) [(.t 164), (.t 168)], none⟩,
                     ⟨(some 170), .mv (.t 169), none⟩,
                     ⟨(some 171), .load 15 (.t 21), some (170, true)⟩,
                     ⟨(some 172), .mv (.t 41), some (170, true)⟩,
                     ⟨(some 173), .mv (.t 9), some (170, true)⟩,
                     ⟨(some 174), .call (.f 3) [(.t 173), (.c (.i .i64 4))], some (170, true)⟩,
                     ⟨(some 175), .call (.f 12) [(.t 171), (.t 172), (.t 174)], some (170, true)⟩,
                     ⟨(some 176), .load 15 (.t 21), some (170, true)⟩,
                     ⟨(some 177), .mv (.t 41), some (170, true)⟩,
                     ⟨(some 178), .mv (.t 9), some (170, true)⟩,
                     ⟨(some 179), .call (.f 3) [(.t 178), (.c (.i .i64 4))], some (170, true)⟩,
                     ⟨(some 180), .call (.f 13) [(.t 176), (.t 177), (.t 179)], some (170, true)⟩,
                     ⟨(some 181), .call (.f 8) [(.t 175), (.t 180)], some (170, true)⟩,
                     ⟨(some 182), .pick (.t 170) (.t 181) (.c (.b false)), none⟩,
                     ⟨(some 183), .mv (.t 182), none⟩,
                     ⟨(some 184), .load 15 (.t 21), some (183, true)⟩,
                     ⟨(some 185), .mv (.t 8), some (183, true)⟩,
                     ⟨(some 186), .mv (.t 9), some (183, true)⟩,
                     ⟨(some 187), .call (.f 12) [(.t 184), (.t 185), (.t 186)], some (183, true)⟩,
                     ⟨(some 188), .load 15 (.t 21), some (183, true)⟩,
                     ⟨(some 189), .mv (.t 8), some (183, true)⟩,
                     ⟨(some 190), .mv (.t 9), some (183, true)⟩,
                     ⟨(some 191), .call (.f 13) [(.t 188), (.t 189), (.t 190)], some (183, true)⟩,
                     ⟨(some 192), .call (.f 8) [(.t 187), (.t 191)], some (183, true)⟩,
                     ⟨(some 193), .pick (.t 183) (.t 192) (.c (.b false)), none⟩,
                     ⟨(some 20), .mv (.t 193), none⟩] [0, 0, 2, 7, 0, 0, 47, 127, 255, 511, 1023, 1023, 1023, 5119, 16383, 1023, 1023, 1023, 163839, 524287, 1048575, 2097151, 4194303, 8388607, 8388607, 8388607, 67108863, 8388607, 8388607, 8388607, 1073741823, 2147483647, 4294967295, 8589934591] [20])
                 .ret))))))))))))))))⟩

/- roundhouse/roundhouselaw10.OrderDone -/
def F14 : IFn := ⟨4, [.t 8],
 (.seq (.reg [⟨(some 8), .mv (.c (.b false)), none⟩] [0, 1, 2, 3])
  (.seq (.seq (.reg [⟨(some 28), .call (.f 1) [], none⟩,
        ⟨(some 29), .un .not (.t 28), none⟩] [0, 1, 2, 3, 29])
    (.cond (.t 29)
     (.seq (.reg [⟨(some 8), .mv (.c (.b false)), none⟩] [8])
      .ret)
     .skip))
   (.seq (.reg [⟨(some 30), .mv (.t 0), none⟩,
        ⟨(some 31), .call (.f 2) [(.t 30), (.c (.i .i64 60))], none⟩,
        ⟨(some 9), .box 15 (.c (.agg 15 [.i .i64 0, .i .i64 0, .i .i64 0, .agg 12 (List.replicate 64 (.agg 11 [.i .i64 0, .i .i64 0, .i .i64 0, .i .i64 0, .i .i64 0])), .agg 14 [.i .i64 0, .agg 13 [.i .u64 0, .i .u64 0], .agg 13 [.i .u64 0, .i .u64 0], .agg 13 [.i .u64 0, .i .u64 0]]])), none⟩,
        ⟨none, .store 15 (.t 9) (.t 31), none⟩] [1, 2, 3, 9])
    (.seq (.reg [⟨(some 32), .mv (.t 1), none⟩,
         ⟨(some 33), .call (.f 3) [(.t 32), (.c (.i .i64 6))], none⟩,
         ⟨(some 34), .mv (.t 2), none⟩,
         ⟨(some 35), .call (.f 3) [(.t 34), (.c (.i .i64 4))], none⟩,
         ⟨(some 10), .mv (.t 33), none⟩,
         ⟨(some 11), .mv (.t 35), none⟩] [3, 9, 10, 11])
     (.seq (.reg [⟨(some 37), .load 15 (.t 9), none⟩,
          ⟨(some 38), .mv (.t 10), none⟩,
          ⟨(some 39), .mv (.t 11), none⟩,
          ⟨(some 40), .call (.f 4) [(.t 37), (.t 38), (.t 39), (.c (.i .i64 3))], none⟩,
          ⟨(some 36), .mv (.t 40), none⟩,
          ⟨(some 41), .ext (.t 36) 0, none⟩,
          ⟨(some 42), .ext (.t 36) 1, none⟩,
          ⟨(some 12), .mv (.t 41), none⟩,
          ⟨(some 13), .mv (.t 42), none⟩] [3, 9, 10, 11, 12, 13])
      (.seq (.seq (.reg [⟨(some 43), .mv (.t 13), none⟩,
            ⟨(some 44), .bin .eql (.t 43) (.c (.i .i64 0)), none⟩] [3, 9, 10, 11, 12, 44])
        (.cond (.t 44)
         (.seq (.reg [⟨(some 46), .load 15 (.t 9), none⟩,
              ⟨(some 47), .mv (.t 12), none⟩,
              ⟨(some 48), .call (.f 15) [(.t 46), (.t 47)], none⟩,
              ⟨(some 45), .mv (.t 48), none⟩,
              ⟨(some 49), .ext (.t 45) 0, none⟩,
              ⟨(some 50), .ext (.t 45) 1, none⟩,
              ⟨(some 51), .ext (.t 45) 2, none⟩,
              ⟨(some 14), .box 15 (.c (.agg 15 [.i .i64 0, .i .i64 0, .i .i64 0, .agg 12 (List.replicate 64 (.agg 11 [.i .i64 0, .i .i64 0, .i .i64 0, .i .i64 0, .i .i64 0])), .agg 14 [.i .i64 0, .agg 13 [.i .u64 0, .i .u64 0], .agg 13 [.i .u64 0, .i .u64 0], .agg 13 [.i .u64 0, .i .u64 0]]])), none⟩,
              ⟨none, .store 15 (.t 14) (.t 49), none⟩,
              ⟨(some 15), .mv (.t 50), none⟩,
              ⟨(some 16), .mv (.t 51), none⟩] [3, 9, 10, 11, 12, 14, 15, 16])
          (.seq (.reg [⟨(some 53), .load 15 (.t 14), none⟩,
               ⟨(some 54), .mv (.t 10), none⟩,
               ⟨(some 55), .mv (.t 11), none⟩,
               ⟨(some 56), .call (.f 16) [(.t 53), (.t 54), (.t 55)], none⟩,
               ⟨(some 52), .mv (.t 56), none⟩,
               ⟨(some 57), .ext (.t 52) 0, none⟩,
               ⟨(some 58), .ext (.t 52) 1, none⟩,
               ⟨(some 17), .mv (.t 57), none⟩,
               ⟨(some 18), .mv (.t 58), none⟩] [3, 9, 10, 11, 12, 14, 15, 16, 17, 18])
           (.seq (.reg [⟨(some 59), .mv (.t 16), none⟩,
                ⟨(some 60), .bin .neq (.t 59) (.c (.i .i64 0)), none⟩,
                ⟨(some 61), .mv (.t 60), none⟩,
                ⟨(some 62), .mv (.t 15), some (61, false)⟩,
                ⟨(some 63), .mv (.t 12), some (61, false)⟩,
                ⟨(some 64), .lenL (.t 63), some (61, false)⟩,
                ⟨(some 65), .bin .neq (.t 62) (.t 64), some (61, false)⟩,
                ⟨(some 66), .pick (.t 61) (.c (.b true)) (.t 65), none⟩,
                ⟨(some 67), .mv (.t 66), none⟩,
                ⟨(some 68), .mv (.t 18), some (67, false)⟩,
                ⟨(some 69), .un .not (.t 68), some (67, false)⟩,
                ⟨(some 70), .pick (.t 67) (.c (.b true)) (.t 69), none⟩,
                ⟨(some 71), .mv (.t 70), none⟩,
                ⟨(some 72), .mv (.t 17), some (71, false)⟩,
                ⟨(some 73), .fa 15 3 12 (.t 14), some (71, false)⟩,
                ⟨(some 74), .iaA 12 11 64 (.t 73) (.t 72), some (71, false)⟩,
                ⟨(some 75), .fa 11 0 6 (.t 74), some (71, false)⟩,
                ⟨(some 76), .load 6 (.t 75), some (71, false)⟩,
                ⟨(some 77), .bin .neq (.t 76) (.c (.i .i64 2)), some (71, false)⟩,
                ⟨(some 78), .pick (.t 71) (.c (.b true)) (.t 77), none⟩,
                ⟨(some 79), .mv (.t 78), none⟩,
                ⟨(some 80), .mv (.t 17), some (79, false)⟩,
                ⟨(some 81), .fa 15 3 12 (.t 14), some (79, false)⟩,
                ⟨(some 82), .iaA 12 11 64 (.t 81) (.t 80), some (79, false)⟩,
                ⟨(some 83), .fa 11 3 6 (.t 82), some (79, false)⟩,
                ⟨(some 84), .load 6 (.t 83), some (79, false)⟩,
                ⟨(some 85), .bin .neq (.t 84) (.c (.i .i64 3)), some (79, false)⟩,
                ⟨(some 86), .pick (.t 79) (.c (.b true)) (.t 85), none⟩] [3, 9, 10, 11, 86])
            (.cond (.t 86)
             (.seq (.reg [⟨(some 8), .mv (.c (.b false)), none⟩] [8])
              .ret)
             .skip))))
         .skip))
       (.seq (.reg [⟨(some 88), .load 15 (.t 9), none⟩,
            ⟨(some 89), .mv (.t 10), none⟩,
            ⟨(some 90), .mv (.t 11), none⟩,
            ⟨(some 91), .call (.f 6) [(.t 88), (.t 89), (.t 90)], none⟩,
            ⟨(some 87), .mv (.t 91), none⟩,
            ⟨(some 92), .ext (.t 87) 0, none⟩,
            ⟨(some 93), .ext (.t 87) 1, none⟩,
            ⟨(some 12), .mv (.t 92), none⟩,
            ⟨(some 13), .mv (.t 93), none⟩] [3, 9, 10, 11, 12, 13])
        (.seq (.seq (.reg [⟨(some 94), .mv (.t 13), none⟩,
              ⟨(some 95), .bin .eql (.t 94) (.c (.i .i64 0)), none⟩] [3, 9, 10, 11, 12, 95])
          (.cond (.t 95)
           (.seq (.reg [⟨(some 97), .load 15 (.t 9), none⟩,
                ⟨(some 98), .mv (.t 10), none⟩,
                ⟨(some 99), .mv (.t 11), none⟩,
                ⟨(some 100), .call (.f 16) [(.t 97), (.t 98), (.t 99)], none⟩,
                ⟨(some 96), .mv (.t 100), none⟩,
                ⟨(some 101), .ext (.t 96) 0, none⟩,
                ⟨(some 102), .ext (.t 96) 1, none⟩,
                ⟨(some 19), .mv (.t 101), none⟩,
                ⟨(some 20), .mv (.t 102), none⟩] [3, 9, 12, 19, 20])
            (.seq (.reg [⟨(some 104), .load 15 (.t 9), none⟩,
                 ⟨(some 105), .mv (.t 12), none⟩,
                 ⟨(some 106), .call (.f 15) [(.t 104), (.t 105)], none⟩,
                 ⟨(some 103), .mv (.t 106), none⟩,
                 ⟨(some 107), .ext (.t 103) 0, none⟩,
                 ⟨(some 108), .ext (.t 103) 1, none⟩,
                 ⟨(some 109), .ext (.t 103) 2, none⟩,
                 ⟨(some 21), .box 15 (.c (.agg 15 [.i .i64 0, .i .i64 0, .i .i64 0, .agg 12 (List.replicate 64 (.agg 11 [.i .i64 0, .i .i64 0, .i .i64 0, .i .i64 0, .i .i64 0])), .agg 14 [.i .i64 0, .agg 13 [.i .u64 0, .i .u64 0], .agg 13 [.i .u64 0, .i .u64 0], .agg 13 [.i .u64 0, .i .u64 0]]])), none⟩,
                 ⟨none, .store 15 (.t 21) (.t 107), none⟩,
                 ⟨(some 22), .mv (.t 108), none⟩,
                 ⟨(some 23), .mv (.t 109), none⟩] [3, 9, 12, 19, 20, 21, 22, 23])
             (.seq (.reg [⟨(some 110), .mv (.t 23), none⟩,
                  ⟨(some 111), .bin .neq (.t 110) (.c (.i .i64 0)), none⟩,
                  ⟨(some 112), .mv (.t 111), none⟩,
                  ⟨(some 113), .mv (.t 22), some (112, false)⟩,
                  ⟨(some 114), .mv (.t 12), some (112, false)⟩,
                  ⟨(some 115), .lenL (.t 114), some (112, false)⟩,
                  ⟨(some 116), .bin .neq (.t 113) (.t 115), some (112, false)⟩,
                  ⟨(some 117), .pick (.t 112) (.c (.b true)) (.t 116), none⟩,
                  ⟨(some 118), .mv (.t 117), none⟩,
                  ⟨(some 119), .mv (.t 20), some (118, false)⟩,
                  ⟨(some 120), .un .not (.t 119), some (118, false)⟩,
                  ⟨(some 121), .pick (.t 118) (.c (.b true)) (.t 120), none⟩,
                  ⟨(some 122), .mv (.t 121), none⟩,
                  ⟨(some 123), .mv (.t 19), some (122, false)⟩,
                  ⟨(some 124), .fa 15 3 12 (.t 21), some (122, false)⟩,
                  ⟨(some 125), .iaA 12 11 64 (.t 124) (.t 123), some (122, false)⟩,
                  ⟨(some 126), .fa 11 0 6 (.t 125), some (122, false)⟩,
                  ⟨(some 127), .load 6 (.t 126), some (122, false)⟩,
                  ⟨(some 128), .bin .neq (.t 127) (.c (.i .i64 4)), some (122, false)⟩,
                  ⟨(some 129), .pick (.t 122) (.c (.b true)) (.t 128), none⟩] [3, 9, 129])
              (.cond (.t 129)
               (.seq (.reg [⟨(some 8), .mv (.c (.b false)), none⟩] [8])
                .ret)
               .skip))))
           .skip))
         (.seq (.drw [⟨(some 131), .load 15 (.t 9), none⟩,
              ⟨(some 132), .load 15 (.t 9), none⟩,
              ⟨(some 133), .mv (.t 3), none⟩,
              ⟨(some 134), .call (.f 9) [(.t 133)], none⟩,
              ⟨(some 135), .call (.f 10) [(.t 132), (.t 134)], none⟩,
              ⟨(some 136), .call (.f 15) [(.t 131), (.t 135)], none⟩,
              ⟨(some 130), .mv (.t 136), none⟩,
              ⟨(some 137), .ext (.t 130) 0, none⟩,
              ⟨(some 138), .ext (.t 130) 1, none⟩,
              ⟨(some 139), .ext (.t 130) 2, none⟩,
              ⟨(some 24), .box 15 (.c (.agg 15 [.i .i64 0, .i .i64 0, .i .i64 0, .agg 12 (List.replicate 64 (.agg 11 [.i .i64 0, .i .i64 0, .i .i64 0, .i .i64 0, .i .i64 0])), .agg 14 [.i .i64 0, .agg 13 [.i .u64 0, .i .u64 0], .agg 13 [.i .u64 0, .i .u64 0], .agg 13 [.i .u64 0, .i .u64 0]]])), none⟩,
              ⟨none, .store 15 (.t 24) (.t 137), none⟩,
              ⟨(some 25), .mv (.t 138), none⟩,
              ⟨(some 26), .mv (.t 139), none⟩] [0, 0, 0, 4, 14, 31, 63, 127, 127, 127, 0, 1279, 3583, 8191] [3, 9, 24, 25, 26])
          (.seq (.seq (.drw [⟨(some 140), .mv (.t 26), none⟩,
                ⟨(some 141), .bin .neq (.t 140) (.c (.i .i64 0)), none⟩,
                ⟨(some 142), .mv (.t 141), none⟩,
                ⟨(some 143), .mv (.t 25), some (142, false)⟩,
                ⟨(some 144), .bin .lss (.t 143) (.c (.i .i64 1)), some (142, false)⟩,
                ⟨(some 145), .pick (.t 142) (.c (.b true)) (.t 144), none⟩,
                ⟨(some 146), .mv (.t 145), none⟩,
                ⟨(some 147), .fa 15 4 14 (.t 24), some (146, false)⟩,
                ⟨(some 148), .fa 14 3 13 (.t 147), some (146, false)⟩,
                ⟨(some 149), .load 13 (.t 148), some (146, false)⟩,
                ⟨(some 150), .mv (.t 3), some (146, false)⟩,
                ⟨(some 151), .call (.f 9) [(.t 150)], some (146, false)⟩,
                ⟨(some 152), .eqv 13 true (.t 149) (.t 151), some (146, false)⟩,
                ⟨(some 153), .pick (.t 146) (.c (.b true)) (.t 152), none⟩,
                ⟨(some 154), .mv (.t 153), none⟩,
                ⟨(some 155), .fa 15 4 14 (.t 24), some (154, false)⟩,
                ⟨(some 156), .fa 14 0 6 (.t 155), some (154, false)⟩,
                ⟨(some 157), .load 6 (.t 156), some (154, false)⟩,
                ⟨(some 158), .fa 15 4 14 (.t 9), some (154, false)⟩,
                ⟨(some 159), .fa 14 0 6 (.t 158), some (154, false)⟩,
                ⟨(some 160), .load 6 (.t 159), some (154, false)⟩,
                ⟨(some 161), .bin .add (.t 160) (.c (.i .i64 1)), some (154, false)⟩,
                ⟨(some 162), .bin .neq (.t 157) (.t 161), some (154, false)⟩,
                ⟨(some 163), .pick (.t 154) (.c (.b true)) (.t 162), none⟩] [0, 1, 3, 7, 15, 31, 63, 127, 255, 511, 127, 1151, 4095, 8191, 16383, 32767, 65535, 131071, 32767, 294911, 819199, 1867775, 4194303, 8388607] [24, 163])
            (.cond (.t 163)
             (.seq (.reg [⟨(some 8), .mv (.c (.b false)), none⟩] [8])
              .ret)
             .skip))
           (.seq (.seq (.reg [⟨(some 27), .mv (.c (.i .i64 0)), none⟩] [24, 27])
             (.blk 0 (.loop (.seq (.seq (.reg [⟨(some 164), .mv (.t 27), none⟩,
                     ⟨(some 165), .bin .lss (.t 164) (.c (.i .i64 64)), none⟩] [24, 27, 165])
                 (.cond (.t 165)
                  .skip
                  (.exit 0)))
                (.seq (.blk 1 (.seq (.drw [⟨(some 168), .mv (.t 27), none⟩,
                       ⟨(some 169), .fa 15 3 12 (.t 24), none⟩,
                       ⟨(some 170), .iaA 12 11 64 (.t 169) (.t 168), none⟩,
                       ⟨(some 171), .fa 11 0 6 (.t 170), none⟩,
                       ⟨(some 172), .load 6 (.t 171), none⟩,
                       ⟨(some 173), .bin .eql (.t 172) (.c (.i .i64 4)), none⟩,
                       ⟨(some 174), .mv (.t 173), none⟩,
                       ⟨(some 175), .mv (.t 27), some (174, true)⟩,
                       ⟨(some 176), .fa 15 3 12 (.t 24), some (174, true)⟩,
                       ⟨(some 177), .iaA 12 11 64 (.t 176) (.t 175), some (174, true)⟩,
                       ⟨(some 178), .fa 11 4 6 (.t 177), some (174, true)⟩,
                       ⟨(some 179), .load 6 (.t 178), some (174, true)⟩,
                       ⟨(some 180), .bin .add (.t 179) (.c (.i .i64 3)), some (174, true)⟩,
                       ⟨(some 181), .fa 15 4 14 (.t 24), some (174, true)⟩,
                       ⟨(some 182), .fa 14 0 6 (.t 181), some (174, true)⟩,
                       ⟨(some 183), .load 6 (.t 182), some (174, true)⟩,
                       ⟨(some 184), .bin .leq (.t 180) (.t 183), some (174, true)⟩,
                       ⟨(some 185), .pick (.t 174) (.t 184) (.c (.b false)), none⟩] [0, 0, 3, 7, 15, 31, 63, 127, 127, 511, 1023, 2047, 4095, 127, 8319, 24703, 65535, 131071] [24, 27, 185])
                   (.cond (.t 185)
                    (.seq (.reg [⟨(some 8), .mv (.c (.b false)), none⟩] [8])
                     .ret)
                    .skip)))
                 (.reg [⟨(some 166), .mv (.t 27), none⟩,
                     ⟨(some 167), .bin .add (.t 166) (.c (.i .i64 1)), none⟩,
                     ⟨(some 27), .mv (.t 167), none⟩] [24, 27]))))))
            (.seq (.reg [⟨(some 8), .mv (.c (.b true)), none⟩] [8])
             .ret))))))))))))⟩

/- roundhouse/roundhouselaw10.OrderMarks -/
def F17 : IFn := ⟨2, [.t 4],
 (.seq (.reg [⟨(some 4), .mv (.c (.b false)), none⟩] [0, 1])
  (.seq (.seq (.reg [⟨(some 16), .call (.f 1) [], none⟩,
        ⟨(some 17), .un .not (.t 16), none⟩] [0, 1, 17])
    (.cond (.t 17)
     (.seq (.reg [⟨(some 4), .mv (.c (.b false)), none⟩] [4])
      .ret)
     .skip))
   (.seq (.reg [⟨(some 18), .mv (.t 0), none⟩,
        ⟨(some 19), .call (.f 2) [(.t 18), (.c (.i .i64 60))], none⟩,
        ⟨(some 5), .box 15 (.c (.agg 15 [.i .i64 0, .i .i64 0, .i .i64 0, .agg 12 (List.replicate 64 (.agg 11 [.i .i64 0, .i .i64 0, .i .i64 0, .i .i64 0, .i .i64 0])), .agg 14 [.i .i64 0, .agg 13 [.i .u64 0, .i .u64 0], .agg 13 [.i .u64 0, .i .u64 0], .agg 13 [.i .u64 0, .i .u64 0]]])), none⟩,
        ⟨none, .store 15 (.t 5) (.t 19), none⟩] [1, 5])
    (.seq (.reg [⟨(some 20), .mv (.t 1), none⟩,
         ⟨(some 21), .call (.f 3) [(.t 20), (.c (.i .i64 6))], none⟩,
         ⟨(some 6), .mv (.t 21), none⟩] [5, 6])
     (.seq (.drw [⟨(some 23), .load 15 (.t 5), none⟩,
          ⟨(some 24), .load 15 (.t 5), none⟩,
          ⟨(some 25), .mv (.t 6), none⟩,
          ⟨(some 26), .call (.f 12) [(.t 24), (.t 25), (.c (.i .i64 1))], none⟩,
          ⟨(some 27), .call (.f 15) [(.t 23), (.t 26)], none⟩,
          ⟨(some 22), .mv (.t 27), none⟩,
          ⟨(some 28), .ext (.t 22) 0, none⟩,
          ⟨(some 29), .ext (.t 22) 1, none⟩,
          ⟨(some 30), .ext (.t 22) 2, none⟩,
          ⟨(some 7), .box 15 (.c (.agg 15 [.i .i64 0, .i .i64 0, .i .i64 0, .agg 12 (List.replicate 64 (.agg 11 [.i .i64 0, .i .i64 0, .i .i64 0, .i .i64 0, .i .i64 0])), .agg 14 [.i .i64 0, .agg 13 [.i .u64 0, .i .u64 0], .agg 13 [.i .u64 0, .i .u64 0], .agg 13 [.i .u64 0, .i .u64 0]]])), none⟩,
          ⟨none, .store 15 (.t 7) (.t 28), none⟩,
          ⟨(some 8), .mv (.t 29), none⟩,
          ⟨(some 9), .mv (.t 30), none⟩] [0, 0, 0, 6, 15, 31, 63, 63, 63, 0, 639, 1791, 4095] [5, 6, 7, 8, 9])
      (.seq (.drw [⟨(some 32), .load 15 (.t 5), none⟩,
           ⟨(some 33), .load 15 (.t 5), none⟩,
           ⟨(some 34), .mv (.t 6), none⟩,
           ⟨(some 35), .call (.f 12) [(.t 33), (.t 34), (.c (.i .i64 2))], none⟩,
           ⟨(some 36), .call (.f 15) [(.t 32), (.t 35)], none⟩,
           ⟨(some 31), .mv (.t 36), none⟩,
           ⟨(some 37), .ext (.t 31) 0, none⟩,
           ⟨(some 38), .ext (.t 31) 1, none⟩,
           ⟨(some 39), .ext (.t 31) 2, none⟩,
           ⟨(some 10), .box 15 (.c (.agg 15 [.i .i64 0, .i .i64 0, .i .i64 0, .agg 12 (List.replicate 64 (.agg 11 [.i .i64 0, .i .i64 0, .i .i64 0, .i .i64 0, .i .i64 0])), .agg 14 [.i .i64 0, .agg 13 [.i .u64 0, .i .u64 0], .agg 13 [.i .u64 0, .i .u64 0], .agg 13 [.i .u64 0, .i .u64 0]]])), none⟩,
           ⟨none, .store 15 (.t 10) (.t 37), none⟩,
           ⟨(some 11), .mv (.t 38), none⟩,
           ⟨(some 12), .mv (.t 39), none⟩] [0, 0, 0, 6, 15, 31, 63, 63, 63, 0, 639, 1791, 4095] [5, 6, 7, 8, 9, 10, 11, 12])
       (.seq (.reg [⟨(some 40), .mv (.t 6), none⟩,
            ⟨(some 41), .fa 15 3 12 (.t 5), none⟩,
            ⟨(some 42), .iaA 12 11 64 (.t 41) (.t 40), none⟩,
            ⟨(some 43), .fa 11 0 6 (.t 42), none⟩,
            ⟨(some 44), .load 6 (.t 43), none⟩,
            ⟨(some 13), .mv (.t 44), none⟩] [5, 6, 7, 8, 9, 10, 11, 12, 13])
        (.seq (.reg [⟨(some 45), .mv (.t 13), none⟩,
             ⟨(some 46), .mv (.t 13), none⟩,
             ⟨(some 14), .mv (.t 45), none⟩,
             ⟨(some 15), .mv (.t 46), none⟩] [5, 6, 7, 8, 9, 10, 11, 12, 13, 14, 15])
         (.seq (.seq (.reg [⟨(some 47), .mv (.t 13), none⟩,
               ⟨(some 48), .bin .eql (.t 47) (.c (.i .i64 1)), none⟩,
               ⟨(some 49), .mv (.t 48), none⟩,
               ⟨(some 50), .mv (.t 13), some (49, false)⟩,
               ⟨(some 51), .bin .eql (.t 50) (.c (.i .i64 3)), some (49, false)⟩,
               ⟨(some 52), .pick (.t 49) (.c (.b true)) (.t 51), none⟩] [5, 6, 7, 8, 9, 10, 11, 12, 13, 14, 15, 52])
           (.cond (.t 52)
            (.reg [⟨(some 14), .mv (.c (.i .i64 2)), none⟩] [5, 6, 7, 8, 9, 10, 11, 12, 13, 14, 15])
            .skip))
          (.seq (.seq (.reg [⟨(some 53), .mv (.t 13), none⟩,
                ⟨(some 54), .bin .eql (.t 53) (.c (.i .i64 2)), none⟩] [5, 6, 7, 8, 9, 10, 11, 12, 14, 15, 54])
            (.cond (.t 54)
             (.reg [⟨(some 15), .mv (.c (.i .i64 3)), none⟩] [5, 6, 7, 8, 9, 10, 11, 12, 14, 15])
             .skip))
           (.seq (.reg [⟨(some 55), .mv (.t 9), none⟩,
                ⟨(some 56), .bin .eql (.t 55) (.c (.i .i64 0)), none⟩,
                ⟨(some 57), .mv (.t 56), none⟩,
                ⟨(some 58), .mv (.t 12), some (57, true)⟩,
                ⟨(some 59), .bin .eql (.t 58) (.c (.i .i64 0)), some (57, true)⟩,
                ⟨(some 60), .pick (.t 57) (.t 59) (.c (.b false)), none⟩,
                ⟨(some 61), .mv (.t 60), none⟩,
                ⟨(some 62), .mv (.t 8), some (61, true)⟩,
                ⟨(some 63), .bin .lss (.t 62) (.c (.i .i64 2)), some (61, true)⟩,
                ⟨(some 64), .pick (.t 61) (.t 63) (.c (.b false)), none⟩,
                ⟨(some 65), .mv (.t 64), none⟩,
                ⟨(some 66), .mv (.t 11), some (65, true)⟩,
                ⟨(some 67), .bin .lss (.t 66) (.c (.i .i64 2)), some (65, true)⟩,
                ⟨(some 68), .pick (.t 65) (.t 67) (.c (.b false)), none⟩,
                ⟨(some 69), .mv (.t 68), none⟩,
                ⟨(some 70), .mv (.t 6), some (69, true)⟩,
                ⟨(some 71), .fa 15 3 12 (.t 7), some (69, true)⟩,
                ⟨(some 72), .iaA 12 11 64 (.t 71) (.t 70), some (69, true)⟩,
                ⟨(some 73), .fa 11 0 6 (.t 72), some (69, true)⟩,
                ⟨(some 74), .load 6 (.t 73), some (69, true)⟩,
                ⟨(some 75), .mv (.t 14), some (69, true)⟩,
                ⟨(some 76), .bin .eql (.t 74) (.t 75), some (69, true)⟩,
                ⟨(some 77), .pick (.t 69) (.t 76) (.c (.b false)), none⟩,
                ⟨(some 78), .mv (.t 77), none⟩,
                ⟨(some 79), .mv (.t 6), some (78, true)⟩,
                ⟨(some 80), .fa 15 3 12 (.t 10), some (78, true)⟩,
                ⟨(some 81), .iaA 12 11 64 (.t 80) (.t 79), some (78, true)⟩,
                ⟨(some 82), .fa 11 0 6 (.t 81), some (78, true)⟩,
                ⟨(some 83), .load 6 (.t 82), some (78, true)⟩,
                ⟨(some 84), .mv (.t 15), some (78, true)⟩,
                ⟨(some 85), .bin .eql (.t 83) (.t 84), some (78, true)⟩,
                ⟨(some 86), .pick (.t 78) (.t 85) (.c (.b false)), none⟩,
                ⟨(some 87), .mv (.t 86), none⟩,
                ⟨(some 88), .load 15 (.t 5), some (87, true)⟩,
                ⟨(some 89), .mv (.t 6), some (87, true)⟩,
                ⟨(some 90), .call (.f 12) [(.t 88), (.t 89), (.c (.i .i64 0))], some (87, true)⟩,
                ⟨(some 91), .lenL (.t 90), some (87, true)⟩,
                ⟨(some 92), .bin .eql (.t 91) (.c (.i .i64 0)), some (87, true)⟩,
                ⟨(some 93), .pick (.t 87) (.t 92) (.c (.b false)), none⟩,
                ⟨(some 4), .mv (.t 93), none⟩] [4])
            .ret)))))))))))⟩

/- roundhouse/roundhouselaw10.OrderBack -/
def F18 : IFn := ⟨3, [.t 6],
 (.seq (.reg [⟨(some 6), .mv (.c (.b false)), none⟩] [0, 1, 2])
  (.seq (.seq (.reg [⟨(some 12), .call (.f 1) [], none⟩,
        ⟨(some 13), .un .not (.t 12), none⟩] [0, 1, 2, 13])
    (.cond (.t 13)
     (.seq (.reg [⟨(some 6), .mv (.c (.b false)), none⟩] [6])
      .ret)
     .skip))
   (.seq (.reg [⟨(some 14), .mv (.t 0), none⟩,
        ⟨(some 15), .call (.f 19) [(.t 14)], none⟩,
        ⟨(some 16), .mv (.t 1), none⟩,
        ⟨(some 17), .mv (.t 2), none⟩,
        ⟨(some 18), .build 13 [.i .u64 0, .i .u64 0] [(0, (.t 16)), (1, (.t 17))], none⟩,
        ⟨(some 19), .build 16 [.i .i64 0, .i .i64 0, .i .i64 0, .i .i64 0, .i .i64 0, .agg 13 [.i .u64 0, .i .u64 0]] [(0, (.c (.i .i64 6))), (5, (.t 18))], none⟩,
        ⟨(some 20), .bsl 17 16 (.agg 16 [.i .i64 0, .i .i64 0, .i .i64 0, .i .i64 0, .i .i64 0, .agg 13 [.i .u64 0, .i .u64 0]]) 2 [(0, (.t 15)), (1, (.t 19))], none⟩,
        ⟨(some 7), .mv (.t 20), none⟩] [7])
    (.seq (.seq (.reg [⟨(some 8), .mv (.c (.i .i64 0)), none⟩] [7, 8])
      (.blk 0 (.loop (.seq (.seq (.reg [⟨(some 21), .mv (.t 8), none⟩,
              ⟨(some 22), .bin .lss (.t 21) (.c (.i .i64 2)), none⟩] [7, 8, 22])
          (.cond (.t 22)
           .skip
           (.exit 0)))
         (.seq (.blk 1 (.seq (.seq (.reg [⟨(some 25), .mv (.t 7), none⟩,
                 ⟨(some 26), .mv (.t 8), none⟩,
                 ⟨(some 27), .iaL 16 (.t 25) (.t 26), none⟩,
                 ⟨(some 28), .load 16 (.t 27), none⟩,
                 ⟨(some 29), .call (.f 20) [(.t 28)], none⟩,
                 ⟨(some 30), .bin .neq (.t 29) (.c (.i .i64 0)), none⟩] [7, 8, 30])
             (.cond (.t 30)
              (.exit 1)
              .skip))
            (.seq (.reg [⟨(some 31), .mv (.t 7), none⟩,
                 ⟨(some 32), .mv (.t 8), none⟩,
                 ⟨(some 33), .iaL 16 (.t 31) (.t 32), none⟩,
                 ⟨(some 34), .load 16 (.t 33), none⟩,
                 ⟨(some 35), .call (.f 21) [(.t 34)], none⟩,
                 ⟨(some 9), .mv (.t 35), none⟩] [7, 8, 9])
             (.seq (.reg [⟨(some 37), .mv (.t 9), none⟩,
                  ⟨(some 38), .call (.f 22) [(.t 37)], none⟩,
                  ⟨(some 36), .mv (.t 38), none⟩,
                  ⟨(some 39), .ext (.t 36) 0, none⟩,
                  ⟨(some 40), .ext (.t 36) 1, none⟩,
                  ⟨(some 10), .box 16 (.c (.agg 16 [.i .i64 0, .i .i64 0, .i .i64 0, .i .i64 0, .i .i64 0, .agg 13 [.i .u64 0, .i .u64 0]])), none⟩,
                  ⟨none, .store 16 (.t 10) (.t 39), none⟩,
                  ⟨(some 11), .mv (.t 40), none⟩] [7, 8, 9, 10, 11])
              (.seq (.drw [⟨(some 41), .mv (.t 9), none⟩,
                   ⟨(some 42), .mv (.t 7), none⟩,
                   ⟨(some 43), .mv (.t 8), none⟩,
                   ⟨(some 44), .iaL 16 (.t 42) (.t 43), none⟩,
                   ⟨(some 45), .load 16 (.t 44), none⟩,
                   ⟨(some 46), .call (.f 23) [(.t 45)], none⟩,
                   ⟨(some 47), .bin .neq (.t 41) (.t 46), none⟩,
                   ⟨(some 48), .mv (.t 47), none⟩,
                   ⟨(some 49), .mv (.t 11), some (48, false)⟩,
                   ⟨(some 50), .un .not (.t 49), some (48, false)⟩,
                   ⟨(some 51), .pick (.t 48) (.c (.b true)) (.t 50), none⟩,
                   ⟨(some 52), .mv (.t 51), none⟩,
                   ⟨(some 53), .load 16 (.t 10), some (52, false)⟩,
                   ⟨(some 54), .mv (.t 7), some (52, false)⟩,
                   ⟨(some 55), .mv (.t 8), some (52, false)⟩,
                   ⟨(some 56), .iaL 16 (.t 54) (.t 55), some (52, false)⟩,
                   ⟨(some 57), .load 16 (.t 56), some (52, false)⟩,
                   ⟨(some 58), .eqv 16 true (.t 53) (.t 57), some (52, false)⟩,
                   ⟨(some 59), .pick (.t 52) (.c (.b true)) (.t 58), none⟩] [0, 0, 0, 6, 14, 30, 63, 127, 255, 511, 1023, 2047, 4095, 4095, 4095, 28671, 61439, 131071, 262143] [7, 8, 59])
               (.cond (.t 59)
                (.seq (.reg [⟨(some 6), .mv (.c (.b false)), none⟩] [6])
                 .ret)
                .skip))))))
          (.reg [⟨(some 23), .mv (.t 8), none⟩,
              ⟨(some 24), .bin .add (.t 23) (.c (.i .i64 1)), none⟩,
              ⟨(some 8), .mv (.t 24), none⟩] [7, 8]))))))
     (.seq (.reg [⟨(some 6), .mv (.c (.b true)), none⟩] [6])
      .ret)))))⟩

/- roundhouse/roundhouselaw10.OrderReads -/
def F24 : IFn := ⟨5, [.t 10],
 (.seq (.reg [⟨(some 10), .mv (.c (.b false)), none⟩] [0, 1, 2, 3, 4])
  (.seq (.seq (.reg [⟨(some 20), .call (.f 1) [], none⟩,
        ⟨(some 21), .un .not (.t 20), none⟩] [0, 1, 2, 3, 4, 21])
    (.cond (.t 21)
     (.seq (.reg [⟨(some 10), .mv (.c (.b false)), none⟩] [10])
      .ret)
     .skip))
   (.seq (.seq (.reg [⟨(some 22), .mv (.t 4), none⟩,
         ⟨(some 23), .lenS (.t 22), none⟩,
         ⟨(some 24), .bin .gtr (.t 23) (.c (.i .i64 60)), none⟩] [0, 1, 2, 3, 4, 24])
     (.cond (.t 24)
      (.seq (.reg [⟨(some 10), .mv (.c (.b true)), none⟩] [10])
       .ret)
      .skip))
    (.seq (.reg [⟨(some 25), .mv (.t 0), none⟩,
         ⟨(some 26), .call (.f 19) [(.t 25)], none⟩,
         ⟨(some 11), .box 16 (.c (.agg 16 [.i .i64 0, .i .i64 0, .i .i64 0, .i .i64 0, .i .i64 0, .agg 13 [.i .u64 0, .i .u64 0]])), none⟩,
         ⟨none, .store 16 (.t 11) (.t 26), none⟩] [1, 2, 3, 4, 11])
     (.seq (.seq (.reg [⟨(some 27), .load 16 (.t 11), none⟩,
           ⟨(some 28), .call (.f 20) [(.t 27)], none⟩,
           ⟨(some 29), .bin .neq (.t 28) (.c (.i .i64 0)), none⟩] [1, 2, 3, 4, 11, 29])
       (.cond (.t 29)
        (.reg [⟨(some 30), .mv (.t 1), none⟩,
            ⟨(some 31), .build 13 [.i .u64 0, .i .u64 0] [(0, (.t 30))], none⟩,
            ⟨(some 32), .build 16 [.i .i64 0, .i .i64 0, .i .i64 0, .i .i64 0, .i .i64 0, .agg 13 [.i .u64 0, .i .u64 0]] [(0, (.c (.i .i64 6))), (5, (.t 31))], none⟩,
            ⟨none, .store 16 (.t 11) (.t 32), none⟩] [2, 3, 4, 11])
        .skip))
      (.seq (.reg [⟨(some 33), .load 16 (.t 11), none⟩,
           ⟨(some 34), .call (.f 23) [(.t 33)], none⟩,
           ⟨(some 12), .mv (.t 34), none⟩] [2, 3, 4, 12])
       (.seq (.reg [⟨(some 35), .mv (.t 12), none⟩,
            ⟨(some 36), .csb 18 (.t 35), none⟩,
            ⟨(some 13), .mv (.t 36), none⟩] [2, 3, 4, 12, 13])
        (.seq (.reg [⟨(some 37), .mv (.t 13), none⟩,
             ⟨(some 38), .mv (.t 2), none⟩,
             ⟨(some 39), .mv (.t 13), none⟩,
             ⟨(some 40), .lenL (.t 39), none⟩,
             ⟨(some 41), .call (.f 3) [(.t 38), (.t 40)], none⟩,
             ⟨(some 42), .iaL 7 (.t 37) (.t 41), none⟩,
             ⟨(some 43), .load 7 (.t 42), none⟩,
             ⟨(some 44), .mv (.t 3), none⟩,
             ⟨(some 45), .bin .add (.t 43) (.t 44), none⟩,
             ⟨(some 46), .iaL 7 (.t 37) (.t 41), none⟩,
             ⟨none, .store 7 (.t 46) (.t 45), none⟩] [4, 12, 13])
         (.seq (.reg [⟨(some 47), .mv (.t 12), none⟩,
              ⟨(some 48), .mv (.t 13), none⟩,
              ⟨(some 49), .cbs (.t 48), none⟩,
              ⟨(some 50), .mv (.t 4), none⟩,
              ⟨(some 51), .mv (.t 12), none⟩,
              ⟨(some 52), .mv (.t 4), none⟩,
              ⟨(some 53), .bin .add (.t 51) (.t 52), none⟩,
              ⟨(some 54), .mv (.t 12), none⟩,
              ⟨(some 55), .bin .add (.t 54) (.c (.s [32, 49])), none⟩,
              ⟨(some 56), .mv (.t 12), none⟩,
              ⟨(some 57), .bin .add (.t 56) (.c (.s [32])), none⟩,
              ⟨(some 58), .bsl 19 2 (.s []) 20 [(0, (.t 47)), (1, (.t 49)), (2, (.t 50)), (3, (.t 53)), (4, (.t 55)), (5, (.t 57)), (6, (.c (.s [111, 112, 101, 110]))), (7, (.c (.s [111, 112, 101, 110, 32]))), (8, (.c (.s [111, 112, 101, 110, 32, 54, 52]))), (9, (.c (.s [111, 112, 101, 110, 32, 48, 51]))), (10, (.c (.s [98, 105, 110, 100, 32, 49, 32, 50, 32, 51]))), (11, (.c (.s [98, 105, 110, 100, 32, 49, 32, 52, 50, 57, 52, 57, 54, 55, 50, 57, 54, 32, 51, 32, 52]))), (12, (.c (.s [98, 105, 110, 100, 32, 49, 32, 50, 32, 54, 53, 53, 51, 54, 32, 52]))), (13, (.c (.s [98, 105, 110, 100, 32, 49, 32, 50, 32, 51, 32, 57]))), (14, (.c (.s [114, 111, 116, 97, 116, 101, 32, 49, 56, 52, 52, 54, 55, 52, 52, 48, 55, 51, 55, 48, 57, 53, 53, 49, 54, 49, 53, 32, 48]))), (15, (.c (.s [114, 111, 116, 97, 116, 101, 32, 49, 56, 52, 52, 54, 55, 52, 52, 48, 55, 51, 55, 48, 57, 53, 53, 49, 54, 49, 54, 32, 48]))), (16, (.c (.s [114, 111, 116, 97, 116, 101, 32, 49]))), (17, (.c (.s []))), (18, (.c (.s [102, 114, 101, 101, 32, 57, 57, 57, 57, 57, 57, 57, 57, 57, 57, 57, 57, 57, 57, 57, 57, 57, 57, 57, 57, 57, 57, 57]))), (19, (.c (.s [111, 112, 101, 110, 32, 45, 49])))], none⟩,
              ⟨(some 14), .mv (.t 58), none⟩] [14])
          (.seq (.seq (.reg [⟨(some 15), .mv (.c (.i .i64 0)), none⟩] [14, 15])
            (.blk 0 (.loop (.seq (.seq (.reg [⟨(some 59), .mv (.t 15), none⟩,
                    ⟨(some 60), .mv (.t 14), none⟩,
                    ⟨(some 61), .lenL (.t 60), none⟩,
                    ⟨(some 62), .bin .lss (.t 59) (.t 61), none⟩] [14, 15, 62])
                (.cond (.t 62)
                 .skip
                 (.exit 0)))
               (.seq (.blk 1 (.seq (.reg [⟨(some 66), .mv (.t 14), none⟩,
                      ⟨(some 67), .mv (.t 15), none⟩,
                      ⟨(some 68), .iaL 2 (.t 66) (.t 67), none⟩,
                      ⟨(some 69), .load 2 (.t 68), none⟩,
                      ⟨(some 70), .call (.f 22) [(.t 69)], none⟩,
                      ⟨(some 65), .mv (.t 70), none⟩,
                      ⟨(some 71), .ext (.t 65) 0, none⟩,
                      ⟨(some 72), .ext (.t 65) 1, none⟩,
                      ⟨(some 16), .box 16 (.c (.agg 16 [.i .i64 0, .i .i64 0, .i .i64 0, .i .i64 0, .i .i64 0, .agg 13 [.i .u64 0, .i .u64 0]])), none⟩,
                      ⟨none, .store 16 (.t 16) (.t 71), none⟩,
                      ⟨(some 17), .mv (.t 72), none⟩] [14, 15, 16, 17])
                  (.seq (.reg [⟨(some 74), .mv (.t 14), none⟩,
                       ⟨(some 75), .mv (.t 15), none⟩,
                       ⟨(some 76), .iaL 2 (.t 74) (.t 75), none⟩,
                       ⟨(some 77), .load 2 (.t 76), none⟩,
                       ⟨(some 78), .call (.f 25) [(.t 77)], none⟩,
                       ⟨(some 73), .mv (.t 78), none⟩,
                       ⟨(some 79), .ext (.t 73) 0, none⟩,
                       ⟨(some 80), .ext (.t 73) 1, none⟩,
                       ⟨(some 18), .box 16 (.c (.agg 16 [.i .i64 0, .i .i64 0, .i .i64 0, .i .i64 0, .i .i64 0, .agg 13 [.i .u64 0, .i .u64 0]])), none⟩,
                       ⟨none, .store 16 (.t 18) (.t 79), none⟩,
                       ⟨(some 19), .mv (.t 80), none⟩] [14, 15, 16, 17, 18, 19])
                   (.seq (.reg [⟨(some 81), .load 16 (.t 16), none⟩,
                        ⟨(some 82), .load 16 (.t 18), none⟩,
                        ⟨(some 83), .eqv 16 true (.t 81) (.t 82), none⟩,
                        ⟨(some 84), .mv (.t 83), none⟩,
                        ⟨(some 85), .mv (.t 17), some (84, false)⟩,
                        ⟨(some 86), .mv (.t 19), some (84, false)⟩,
                        ⟨(some 87), .eqb true (.t 85) (.t 86), some (84, false)⟩,
                        ⟨(some 88), .pick (.t 84) (.c (.b true)) (.t 87), none⟩] [14, 15, 88])
                    (.cond (.t 88)
                     (.seq (.reg [⟨(some 10), .mv (.c (.b false)), none⟩] [10])
                      .ret)
                     .skip)))))
                (.reg [⟨(some 63), .mv (.t 15), none⟩,
                    ⟨(some 64), .bin .add (.t 63) (.c (.i .i64 1)), none⟩,
                    ⟨(some 15), .mv (.t 64), none⟩] [14, 15]))))))
           (.seq (.reg [⟨(some 10), .mv (.c (.b true)), none⟩] [10])
            .ret)))))))))))⟩

/- roundhouse/roundhouselaw10.OrderFull -/
def F26 : IFn := ⟨3, [.t 6],
 (.seq (.reg [⟨(some 6), .mv (.c (.b false)), none⟩] [0, 1, 2])
  (.seq (.seq (.reg [⟨(some 14), .call (.f 1) [], none⟩,
        ⟨(some 15), .un .not (.t 14), none⟩] [0, 1, 2, 15])
    (.cond (.t 15)
     (.seq (.reg [⟨(some 6), .mv (.c (.b false)), none⟩] [6])
      .ret)
     .skip))
   (.seq (.reg [⟨(some 16), .call (.f 2) [(.c (.nilsl)), (.c (.i .i64 0))], none⟩,
        ⟨(some 7), .box 15 (.c (.agg 15 [.i .i64 0, .i .i64 0, .i .i64 0, .agg 12 (List.replicate 64 (.agg 11 [.i .i64 0, .i .i64 0, .i .i64 0, .i .i64 0, .i .i64 0])), .agg 14 [.i .i64 0, .agg 13 [.i .u64 0, .i .u64 0], .agg 13 [.i .u64 0, .i .u64 0], .agg 13 [.i .u64 0, .i .u64 0]]])), none⟩,
        ⟨none, .store 15 (.t 7) (.t 16), none⟩] [0, 1, 2, 7])
    (.seq (.reg [⟨(some 17), .mv (.t 0), none⟩,
         ⟨(some 18), .call (.f 3) [(.t 17), (.c (.i .i64 5))], none⟩,
         ⟨(some 19), .bin .add (.c (.i .i64 60)) (.t 18), none⟩,
         ⟨(some 20), .mv (.t 1), none⟩,
         ⟨(some 21), .call (.f 3) [(.t 20), (.c (.i .i64 70))], none⟩,
         ⟨(some 8), .mv (.t 19), none⟩,
         ⟨(some 9), .mv (.t 21), none⟩] [2, 7, 8, 9])
     (.seq (.seq (.reg [⟨(some 10), .mv (.c (.i .i64 0)), none⟩] [2, 7, 8, 9, 10])
       (.blk 0 (.loop (.seq (.seq (.reg [⟨(some 22), .mv (.t 10), none⟩,
               ⟨(some 23), .mv (.t 8), none⟩,
               ⟨(some 24), .bin .lss (.t 22) (.t 23), none⟩] [2, 7, 8, 9, 10, 24])
           (.cond (.t 24)
            .skip
            (.exit 0)))
          (.seq (.blk 1 (.seq (.reg [⟨(some 27), .mv (.t 10), none⟩,
                 ⟨(some 28), .mv (.t 9), none⟩,
                 ⟨(some 29), .bin .neq (.t 27) (.t 28), none⟩] [2, 7, 8, 9, 10, 29])
             (.cond (.t 29)
              (.reg [⟨(some 31), .load 15 (.t 7), none⟩,
                  ⟨(some 32), .mv (.t 10), none⟩,
                  ⟨(some 33), .mv (.t 10), none⟩,
                  ⟨(some 34), .bin .add (.c (.i .i64 100)) (.t 33), none⟩,
                  ⟨(some 35), .build 16 [.i .i64 0, .i .i64 0, .i .i64 0, .i .i64 0, .i .i64 0, .agg 13 [.i .u64 0, .i .u64 0]] [(0, (.c (.i .i64 1))), (1, (.t 32)), (2, (.t 34)), (3, (.c (.i .i64 1))), (4, (.c (.i .i64 1)))], none⟩,
                  ⟨(some 36), .call (.f 27) [(.t 31), (.t 35)], none⟩,
                  ⟨(some 30), .mv (.t 36), none⟩,
                  ⟨(some 37), .ext (.t 30) 0, none⟩,
                  ⟨(some 38), .ext (.t 30) 1, none⟩,
                  ⟨none, .store 15 (.t 7) (.t 37), none⟩] [2, 7, 8, 9, 10])
              .skip)))
           (.reg [⟨(some 25), .mv (.t 10), none⟩,
               ⟨(some 26), .bin .add (.t 25) (.c (.i .i64 1)), none⟩,
               ⟨(some 10), .mv (.t 26), none⟩] [2, 7, 8, 9, 10]))))))
      (.seq (.reg [⟨(some 39), .mv (.t 8), none⟩,
           ⟨(some 11), .mv (.t 39), none⟩] [2, 7, 8, 9, 11])
       (.seq (.seq (.reg [⟨(some 40), .mv (.t 9), none⟩,
             ⟨(some 41), .mv (.t 8), none⟩,
             ⟨(some 42), .bin .lss (.t 40) (.t 41), none⟩] [2, 7, 9, 11, 42])
         (.cond (.t 42)
          (.reg [⟨(some 43), .mv (.t 9), none⟩,
              ⟨(some 11), .mv (.t 43), none⟩] [2, 7, 11])
          .skip))
        (.seq (.drw [⟨(some 45), .load 15 (.t 7), none⟩,
             ⟨(some 46), .mv (.t 2), none⟩,
             ⟨(some 47), .call (.f 3) [(.t 46), (.c (.i .i64 90))], none⟩,
             ⟨(some 48), .call (.f 4) [(.t 45), (.t 47), (.c (.i .i64 9)), (.c (.i .i64 2))], none⟩,
             ⟨(some 44), .mv (.t 48), none⟩,
             ⟨(some 49), .ext (.t 44) 0, none⟩,
             ⟨(some 50), .ext (.t 44) 1, none⟩,
             ⟨(some 12), .mv (.t 49), none⟩,
             ⟨(some 13), .mv (.t 50), none⟩] [0, 0, 2, 7, 15, 31, 31, 63, 255] [11, 12, 13])
         (.seq (.seq (.reg [⟨(some 51), .mv (.t 11), none⟩,
               ⟨(some 52), .bin .geq (.t 51) (.c (.i .i64 64)), none⟩] [11, 12, 13, 52])
           (.cond (.t 52)
            (.seq (.reg [⟨(some 53), .mv (.t 13), none⟩,
                 ⟨(some 54), .bin .eql (.t 53) (.c (.i .i64 9)), none⟩,
                 ⟨(some 55), .mv (.t 54), none⟩,
                 ⟨(some 56), .mv (.t 12), some (55, true)⟩,
                 ⟨(some 57), .lenL (.t 56), some (55, true)⟩,
                 ⟨(some 58), .bin .eql (.t 57) (.c (.i .i64 0)), some (55, true)⟩,
                 ⟨(some 59), .pick (.t 55) (.t 58) (.c (.b false)), none⟩,
                 ⟨(some 6), .mv (.t 59), none⟩] [6])
             .ret)
            .skip))
          (.seq (.reg [⟨(some 60), .mv (.t 13), none⟩,
               ⟨(some 61), .bin .eql (.t 60) (.c (.i .i64 0)), none⟩,
               ⟨(some 62), .mv (.t 61), none⟩,
               ⟨(some 63), .mv (.t 12), some (62, true)⟩,
               ⟨(some 64), .lenL (.t 63), some (62, true)⟩,
               ⟨(some 65), .bin .eql (.t 64) (.c (.i .i64 2)), some (62, true)⟩,
               ⟨(some 66), .pick (.t 62) (.t 65) (.c (.b false)), none⟩,
               ⟨(some 67), .mv (.t 66), none⟩,
               ⟨(some 68), .mv (.t 12), some (67, true)⟩,
               ⟨(some 69), .iaL 16 (.t 68) (.c (.i .i64 0)), some (67, true)⟩,
               ⟨(some 70), .fa 16 1 6 (.t 69), some (67, true)⟩,
               ⟨(some 71), .load 6 (.t 70), some (67, true)⟩,
               ⟨(some 72), .mv (.t 11), some (67, true)⟩,
               ⟨(some 73), .bin .eql (.t 71) (.t 72), some (67, true)⟩,
               ⟨(some 74), .pick (.t 67) (.t 73) (.c (.b false)), none⟩,
               ⟨(some 75), .mv (.t 74), none⟩,
               ⟨(some 76), .mv (.t 12), some (75, true)⟩,
               ⟨(some 77), .iaL 16 (.t 76) (.c (.i .i64 1)), some (75, true)⟩,
               ⟨(some 78), .fa 16 1 6 (.t 77), some (75, true)⟩,
               ⟨(some 79), .load 6 (.t 78), some (75, true)⟩,
               ⟨(some 80), .mv (.t 11), some (75, true)⟩,
               ⟨(some 81), .bin .eql (.t 79) (.t 80), some (75, true)⟩,
               ⟨(some 82), .pick (.t 75) (.t 81) (.c (.b false)), none⟩,
               ⟨(some 83), .mv (.t 82), none⟩,
               ⟨(some 84), .mv (.t 12), some (83, true)⟩,
               ⟨(some 85), .iaL 16 (.t 84) (.c (.i .i64 0)), some (83, true)⟩,
               ⟨(some 86), .fa 16 4 6 (.t 85), some (83, true)⟩,
               ⟨(some 87), .load 6 (.t 86), some (83, true)⟩,
               ⟨(some 88), .bin .eql (.t 87) (.c (.i .i64 2)), some (83, true)⟩,
               ⟨(some 89), .pick (.t 83) (.t 88) (.c (.b false)), none⟩,
               ⟨(some 90), .mv (.t 89), none⟩,
               ⟨(some 91), .mv (.t 12), some (90, true)⟩,
               ⟨(some 92), .iaL 16 (.t 91) (.c (.i .i64 1)), some (90, true)⟩,
               ⟨(some 93), .fa 16 0 6 (.t 92), some (90, true)⟩,
               ⟨(some 94), .load 6 (.t 93), some (90, true)⟩,
               ⟨(some 95), .bin .eql (.t 94) (.c (.i .i64 2)), some (90, true)⟩,
               ⟨(some 96), .pick (.t 90) (.t 95) (.c (.b false)), none⟩,
               ⟨(some 6), .mv (.t 96), none⟩] [6])
           .ret))))))))))⟩

/- roundhouse/roundhouselaw10.OrderTwice -/
def F28 : IFn := ⟨3, [.t 6],
 (.seq (.reg [⟨(some 6), .mv (.c (.b false)), none⟩] [0, 1, 2])
  (.seq (.seq (.reg [⟨(some 26), .call (.f 1) [], none⟩,
        ⟨(some 27), .un .not (.t 26), none⟩] [0, 1, 2, 27])
    (.cond (.t 27)
     (.seq (.reg [⟨(some 6), .mv (.c (.b false)), none⟩] [6])
      .ret)
     .skip))
   (.seq (.reg [⟨(some 28), .mv (.t 0), none⟩,
        ⟨(some 29), .call (.f 2) [(.t 28), (.c (.i .i64 40))], none⟩,
        ⟨(some 7), .box 15 (.c (.agg 15 [.i .i64 0, .i .i64 0, .i .i64 0, .agg 12 (List.replicate 64 (.agg 11 [.i .i64 0, .i .i64 0, .i .i64 0, .i .i64 0, .i .i64 0])), .agg 14 [.i .i64 0, .agg 13 [.i .u64 0, .i .u64 0], .agg 13 [.i .u64 0, .i .u64 0], .agg 13 [.i .u64 0, .i .u64 0]]])), none⟩,
        ⟨none, .store 15 (.t 7) (.t 29), none⟩] [1, 2, 7])
    (.seq (.reg [⟨(some 30), .mv (.t 1), none⟩,
         ⟨(some 31), .call (.f 3) [(.t 30), (.c (.i .i64 6))], none⟩,
         ⟨(some 32), .mv (.t 2), none⟩,
         ⟨(some 33), .call (.f 3) [(.t 32), (.c (.i .i64 4))], none⟩,
         ⟨(some 8), .mv (.t 31), none⟩,
         ⟨(some 9), .mv (.t 33), none⟩] [7, 8, 9])
     (.seq (.reg [⟨(some 35), .load 15 (.t 7), none⟩,
          ⟨(some 36), .mv (.t 8), none⟩,
          ⟨(some 37), .mv (.t 9), none⟩,
          ⟨(some 38), .call (.f 4) [(.t 35), (.t 36), (.t 37), (.c (.i .i64 1))], none⟩,
          ⟨(some 34), .mv (.t 38), none⟩,
          ⟨(some 39), .ext (.t 34) 0, none⟩,
          ⟨(some 40), .ext (.t 34) 1, none⟩,
          ⟨(some 10), .mv (.t 39), none⟩,
          ⟨(some 11), .mv (.t 40), none⟩] [7, 8, 9, 10, 11])
      (.seq (.seq (.reg [⟨(some 41), .mv (.t 11), none⟩,
            ⟨(some 42), .bin .neq (.t 41) (.c (.i .i64 0)), none⟩] [7, 8, 9, 10, 11, 42])
        (.cond (.t 42)
         (.seq (.reg [⟨(some 43), .mv (.t 11), none⟩,
              ⟨(some 44), .bin .eql (.t 43) (.c (.i .i64 12)), none⟩,
              ⟨(some 6), .mv (.t 44), none⟩] [6])
          .ret)
         .skip))
       (.seq (.reg [⟨(some 46), .load 15 (.t 7), none⟩,
            ⟨(some 47), .mv (.t 10), none⟩,
            ⟨(some 48), .call (.f 15) [(.t 46), (.t 47)], none⟩,
            ⟨(some 45), .mv (.t 48), none⟩,
            ⟨(some 49), .ext (.t 45) 0, none⟩,
            ⟨(some 50), .ext (.t 45) 1, none⟩,
            ⟨(some 51), .ext (.t 45) 2, none⟩,
            ⟨(some 12), .box 15 (.c (.agg 15 [.i .i64 0, .i .i64 0, .i .i64 0, .agg 12 (List.replicate 64 (.agg 11 [.i .i64 0, .i .i64 0, .i .i64 0, .i .i64 0, .i .i64 0])), .agg 14 [.i .i64 0, .agg 13 [.i .u64 0, .i .u64 0], .agg 13 [.i .u64 0, .i .u64 0], .agg 13 [.i .u64 0, .i .u64 0]]])), none⟩,
            ⟨none, .store 15 (.t 12) (.t 49), none⟩,
            ⟨(some 13), .mv (.t 50), none⟩,
            ⟨(some 14), .mv (.t 51), none⟩] [8, 9, 12, 14])
        (.seq (.reg [⟨(some 53), .load 15 (.t 12), none⟩,
             ⟨(some 54), .mv (.t 8), none⟩,
             ⟨(some 55), .mv (.t 9), none⟩,
             ⟨(some 56), .call (.f 4) [(.t 53), (.t 54), (.t 55), (.c (.i .i64 1))], none⟩,
             ⟨(some 52), .mv (.t 56), none⟩,
             ⟨(some 57), .ext (.t 52) 0, none⟩,
             ⟨(some 58), .ext (.t 52) 1, none⟩,
             ⟨(some 15), .mv (.t 57), none⟩,
             ⟨(some 16), .mv (.t 58), none⟩] [8, 9, 12, 14, 16])
         (.seq (.reg [⟨(some 60), .load 15 (.t 12), none⟩,
              ⟨(some 61), .mv (.t 8), none⟩,
              ⟨(some 62), .mv (.t 9), none⟩,
              ⟨(some 63), .call (.f 6) [(.t 60), (.t 61), (.t 62)], none⟩,
              ⟨(some 59), .mv (.t 63), none⟩,
              ⟨(some 64), .ext (.t 59) 0, none⟩,
              ⟨(some 65), .ext (.t 59) 1, none⟩,
              ⟨(some 17), .mv (.t 64), none⟩,
              ⟨(some 18), .mv (.t 65), none⟩] [8, 9, 12, 14, 16, 17, 18])
          (.seq (.reg [⟨(some 67), .load 15 (.t 12), none⟩,
               ⟨(some 68), .mv (.t 17), none⟩,
               ⟨(some 69), .call (.f 15) [(.t 67), (.t 68)], none⟩,
               ⟨(some 66), .mv (.t 69), none⟩,
               ⟨(some 70), .ext (.t 66) 0, none⟩,
               ⟨(some 71), .ext (.t 66) 1, none⟩,
               ⟨(some 72), .ext (.t 66) 2, none⟩,
               ⟨(some 19), .box 15 (.c (.agg 15 [.i .i64 0, .i .i64 0, .i .i64 0, .agg 12 (List.replicate 64 (.agg 11 [.i .i64 0, .i .i64 0, .i .i64 0, .i .i64 0, .i .i64 0])), .agg 14 [.i .i64 0, .agg 13 [.i .u64 0, .i .u64 0], .agg 13 [.i .u64 0, .i .u64 0], .agg 13 [.i .u64 0, .i .u64 0]]])), none⟩,
               ⟨none, .store 15 (.t 19) (.t 70), none⟩,
               ⟨(some 20), .mv (.t 71), none⟩,
               ⟨(some 21), .mv (.t 72), none⟩] [8, 9, 14, 16, 17, 18, 19, 21])
           (.seq (.reg [⟨(some 74), .load 15 (.t 19), none⟩,
                ⟨(some 75), .mv (.t 8), none⟩,
                ⟨(some 76), .mv (.t 9), none⟩,
                ⟨(some 77), .call (.f 6) [(.t 74), (.t 75), (.t 76)], none⟩,
                ⟨(some 73), .mv (.t 77), none⟩,
                ⟨(some 78), .ext (.t 73) 0, none⟩,
                ⟨(some 79), .ext (.t 73) 1, none⟩,
                ⟨(some 22), .mv (.t 78), none⟩,
                ⟨(some 23), .mv (.t 79), none⟩] [8, 9, 14, 16, 17, 18, 19, 21, 23])
            (.seq (.reg [⟨(some 81), .load 15 (.t 19), none⟩,
                 ⟨(some 82), .mv (.t 8), none⟩,
                 ⟨(some 83), .mv (.t 9), none⟩,
                 ⟨(some 84), .call (.f 4) [(.t 81), (.t 82), (.t 83), (.c (.i .i64 1))], none⟩,
                 ⟨(some 80), .mv (.t 84), none⟩,
                 ⟨(some 85), .ext (.t 80) 0, none⟩,
                 ⟨(some 86), .ext (.t 80) 1, none⟩,
                 ⟨(some 24), .mv (.t 85), none⟩,
                 ⟨(some 25), .mv (.t 86), none⟩] [14, 16, 17, 18, 21, 23, 25])
             (.seq (.reg [⟨(some 87), .mv (.t 14), none⟩,
                  ⟨(some 88), .bin .eql (.t 87) (.c (.i .i64 0)), none⟩,
                  ⟨(some 89), .mv (.t 88), none⟩,
                  ⟨(some 90), .mv (.t 16), some (89, true)⟩,
                  ⟨(some 91), .bin .eql (.t 90) (.c (.i .i64 12)), some (89, true)⟩,
                  ⟨(some 92), .pick (.t 89) (.t 91) (.c (.b false)), none⟩,
                  ⟨(some 93), .mv (.t 92), none⟩,
                  ⟨(some 94), .mv (.t 18), some (93, true)⟩,
                  ⟨(some 95), .bin .eql (.t 94) (.c (.i .i64 0)), some (93, true)⟩,
                  ⟨(some 96), .pick (.t 93) (.t 95) (.c (.b false)), none⟩,
                  ⟨(some 97), .mv (.t 96), none⟩,
                  ⟨(some 98), .mv (.t 17), some (97, true)⟩,
                  ⟨(some 99), .lenL (.t 98), some (97, true)⟩,
                  ⟨(some 100), .bin .eql (.t 99) (.c (.i .i64 2)), some (97, true)⟩,
                  ⟨(some 101), .pick (.t 97) (.t 100) (.c (.b false)), none⟩,
                  ⟨(some 102), .mv (.t 101), none⟩,
                  ⟨(some 103), .mv (.t 21), some (102, true)⟩,
                  ⟨(some 104), .bin .eql (.t 103) (.c (.i .i64 0)), some (102, true)⟩,
                  ⟨(some 105), .pick (.t 102) (.t 104) (.c (.b false)), none⟩,
                  ⟨(some 106), .mv (.t 105), none⟩,
                  ⟨(some 107), .mv (.t 23), some (106, true)⟩,
                  ⟨(some 108), .bin .eql (.t 107) (.c (.i .i64 9)), some (106, true)⟩,
                  ⟨(some 109), .pick (.t 106) (.t 108) (.c (.b false)), none⟩,
                  ⟨(some 110), .mv (.t 109), none⟩,
                  ⟨(some 111), .mv (.t 25), some (110, true)⟩,
                  ⟨(some 112), .bin .eql (.t 111) (.c (.i .i64 12)), some (110, true)⟩,
                  ⟨(some 113), .pick (.t 110) (.t 112) (.c (.b false)), none⟩,
                  ⟨(some 6), .mv (.t 113), none⟩] [6])
              .ret)))))))))))))⟩

/- roundhouse/roundhouselaw10.OrderFrees -/
def F29 : IFn := ⟨2, [.t 4],
 (.seq (.reg [⟨(some 4), .mv (.c (.b false)), none⟩] [0, 1])
  (.seq (.seq (.reg [⟨(some 9), .call (.f 1) [], none⟩,
        ⟨(some 10), .un .not (.t 9), none⟩] [0, 1, 10])
    (.cond (.t 10)
     (.seq (.reg [⟨(some 4), .mv (.c (.b false)), none⟩] [4])
      .ret)
     .skip))
   (.seq (.reg [⟨(some 11), .mv (.t 0), none⟩,
        ⟨(some 12), .call (.f 2) [(.t 11), (.c (.i .i64 80))], none⟩,
        ⟨(some 5), .box 15 (.c (.agg 15 [.i .i64 0, .i .i64 0, .i .i64 0, .agg 12 (List.replicate 64 (.agg 11 [.i .i64 0, .i .i64 0, .i .i64 0, .i .i64 0, .i .i64 0])), .agg 14 [.i .i64 0, .agg 13 [.i .u64 0, .i .u64 0], .agg 13 [.i .u64 0, .i .u64 0], .agg 13 [.i .u64 0, .i .u64 0]]])), none⟩,
        ⟨none, .store 15 (.t 5) (.t 12), none⟩] [1, 5])
    (.seq (.drw [⟨(some 13), .load 15 (.t 5), none⟩,
         ⟨(some 14), .mv (.t 1), none⟩,
         ⟨(some 15), .call (.f 9) [(.t 14)], none⟩,
         ⟨(some 16), .call (.f 10) [(.t 13), (.t 15)], none⟩,
         ⟨(some 6), .mv (.t 16), none⟩] [0, 0, 2, 7, 15] [1, 5, 6])
     (.seq (.seq (.drw [⟨(some 17), .mv (.t 6), none⟩,
           ⟨(some 18), .lenL (.t 17), none⟩,
           ⟨(some 19), .bin .eql (.t 18) (.c (.i .i64 0)), none⟩,
           ⟨(some 20), .mv (.t 19), none⟩,
           ⟨(some 21), .mv (.t 6), some (20, false)⟩,
           ⟨(some 22), .iaL 16 (.t 21) (.c (.i .i64 0)), some (20, false)⟩,
           ⟨(some 23), .load 16 (.t 22), some (20, false)⟩,
           ⟨(some 24), .mv (.t 1), some (20, false)⟩,
           ⟨(some 25), .call (.f 9) [(.t 24)], some (20, false)⟩,
           ⟨(some 26), .build 16 [.i .i64 0, .i .i64 0, .i .i64 0, .i .i64 0, .i .i64 0, .agg 13 [.i .u64 0, .i .u64 0]] [(0, (.c (.i .i64 6))), (5, (.t 25))], some (20, false)⟩,
           ⟨(some 27), .eqv 16 true (.t 23) (.t 26), some (20, false)⟩,
           ⟨(some 28), .pick (.t 20) (.c (.b true)) (.t 27), none⟩] [0, 1, 3, 7, 15, 31, 63, 15, 143, 399, 1023, 2047] [5, 6, 28])
       (.cond (.t 28)
        (.seq (.reg [⟨(some 4), .mv (.c (.b false)), none⟩] [4])
         .ret)
        .skip))
      (.seq (.reg [⟨(some 7), .mv (.c (.i .i64 1)), none⟩] [5, 6, 7])
       (.seq (.seq (.reg [⟨(some 8), .mv (.c (.i .i64 0)), none⟩] [5, 6, 7, 8])
         (.blk 0 (.loop (.seq (.seq (.reg [⟨(some 29), .mv (.t 8), none⟩,
                 ⟨(some 30), .bin .lss (.t 29) (.c (.i .i64 64)), none⟩] [5, 6, 7, 8, 30])
             (.cond (.t 30)
              .skip
              (.exit 0)))
            (.seq (.blk 1 (.seq (.seq (.drw [⟨(some 33), .mv (.t 8), none⟩,
                    ⟨(some 34), .fa 15 3 12 (.t 5), none⟩,
                    ⟨(some 35), .iaA 12 11 64 (.t 34) (.t 33), none⟩,
                    ⟨(some 36), .fa 11 0 6 (.t 35), none⟩,
                    ⟨(some 37), .load 6 (.t 36), none⟩,
                    ⟨(some 38), .bin .neq (.t 37) (.c (.i .i64 4)), none⟩,
                    ⟨(some 39), .mv (.t 38), none⟩,
                    ⟨(some 40), .mv (.t 8), some (39, false)⟩,
                    ⟨(some 41), .fa 15 3 12 (.t 5), some (39, false)⟩,
                    ⟨(some 42), .iaA 12 11 64 (.t 41) (.t 40), some (39, false)⟩,
                    ⟨(some 43), .fa 11 4 6 (.t 42), some (39, false)⟩,
                    ⟨(some 44), .load 6 (.t 43), some (39, false)⟩,
                    ⟨(some 45), .bin .add (.t 44) (.c (.i .i64 3)), some (39, false)⟩,
                    ⟨(some 46), .fa 15 4 14 (.t 5), some (39, false)⟩,
                    ⟨(some 47), .fa 14 0 6 (.t 46), some (39, false)⟩,
                    ⟨(some 48), .load 6 (.t 47), some (39, false)⟩,
                    ⟨(some 49), .bin .add (.t 48) (.c (.i .i64 1)), some (39, false)⟩,
                    ⟨(some 50), .bin .gtr (.t 45) (.t 49), some (39, false)⟩,
                    ⟨(some 51), .pick (.t 39) (.c (.b true)) (.t 50), none⟩] [0, 0, 3, 7, 15, 31, 63, 127, 127, 511, 1023, 2047, 4095, 127, 8319, 24703, 57471, 131071, 262143] [5, 6, 7, 8, 51])
                (.cond (.t 51)
                 (.exit 1)
                 .skip))
               (.seq (.seq (.reg [⟨(some 52), .mv (.t 7), none⟩,
                     ⟨(some 53), .mv (.t 6), none⟩,
                     ⟨(some 54), .lenL (.t 53), none⟩,
                     ⟨(some 55), .bin .geq (.t 52) (.t 54), none⟩,
                     ⟨(some 56), .mv (.t 55), none⟩,
                     ⟨(some 57), .mv (.t 6), some (56, false)⟩,
                     ⟨(some 58), .mv (.t 7), some (56, false)⟩,
                     ⟨(some 59), .iaL 16 (.t 57) (.t 58), some (56, false)⟩,
                     ⟨(some 60), .load 16 (.t 59), some (56, false)⟩,
                     ⟨(some 61), .mv (.t 8), some (56, false)⟩,
                     ⟨(some 62), .build 16 [.i .i64 0, .i .i64 0, .i .i64 0, .i .i64 0, .i .i64 0, .agg 13 [.i .u64 0, .i .u64 0]] [(0, (.c (.i .i64 5))), (1, (.t 61))], some (56, false)⟩,
                     ⟨(some 63), .eqv 16 true (.t 60) (.t 62), some (56, false)⟩,
                     ⟨(some 64), .pick (.t 56) (.c (.b true)) (.t 63), none⟩] [5, 6, 7, 8, 64])
                 (.cond (.t 64)
                  (.seq (.reg [⟨(some 4), .mv (.c (.b false)), none⟩] [4])
                   .ret)
                  .skip))
                (.reg [⟨(some 65), .mv (.t 7), none⟩,
                    ⟨(some 66), .bin .add (.t 65) (.c (.i .i64 1)), none⟩,
                    ⟨(some 7), .mv (.t 66), none⟩] [5, 6, 7, 8]))))
             (.reg [⟨(some 31), .mv (.t 8), none⟩,
                 ⟨(some 32), .bin .add (.t 31) (.c (.i .i64 1)), none⟩,
                 ⟨(some 8), .mv (.t 32), none⟩] [5, 6, 7, 8]))))))
        (.seq (.reg [⟨(some 67), .mv (.t 7), none⟩,
             ⟨(some 68), .mv (.t 6), none⟩,
             ⟨(some 69), .lenL (.t 68), none⟩,
             ⟨(some 70), .bin .eql (.t 67) (.t 69), none⟩,
             ⟨(some 4), .mv (.t 70), none⟩] [4])
         .ret))))))))⟩

/- roundhouse/roundhouselaw10.OrderKnown -/
def F30 : IFn := ⟨1, [.t 2],
 (.seq (.reg [⟨(some 2), .mv (.c (.b false)), none⟩] [0])
  (.seq (.seq (.reg [⟨(some 8), .call (.f 1) [], none⟩,
        ⟨(some 9), .un .not (.t 8), none⟩] [0, 9])
    (.cond (.t 9)
     (.seq (.reg [⟨(some 2), .mv (.c (.b false)), none⟩] [2])
      .ret)
     .skip))
   (.seq (.reg [⟨(some 10), .build 16 [.i .i64 0, .i .i64 0, .i .i64 0, .i .i64 0, .i .i64 0, .agg 13 [.i .u64 0, .i .u64 0]] [(0, (.c (.i .i64 1))), (1, (.c (.i .i64 1))), (2, (.c (.i .i64 4294967295))), (3, (.c (.i .i64 65535))), (4, (.c (.i .i64 8)))], none⟩,
        ⟨(some 11), .build 16 [.i .i64 0, .i .i64 0, .i .i64 0, .i .i64 0, .i .i64 0, .agg 13 [.i .u64 0, .i .u64 0]] [(0, (.c (.i .i64 2))), (1, (.c (.i .i64 63)))], none⟩,
        ⟨(some 12), .build 16 [.i .i64 0, .i .i64 0, .i .i64 0, .i .i64 0, .i .i64 0, .agg 13 [.i .u64 0, .i .u64 0]] [(0, (.c (.i .i64 3)))], none⟩,
        ⟨(some 13), .build 16 [.i .i64 0, .i .i64 0, .i .i64 0, .i .i64 0, .i .i64 0, .agg 13 [.i .u64 0, .i .u64 0]] [(0, (.c (.i .i64 4))), (1, (.c (.i .i64 10)))], none⟩,
        ⟨(some 14), .build 16 [.i .i64 0, .i .i64 0, .i .i64 0, .i .i64 0, .i .i64 0, .agg 13 [.i .u64 0, .i .u64 0]] [(0, (.c (.i .i64 5))), (1, (.c (.i .i64 9)))], none⟩,
        ⟨(some 15), .build 13 [.i .u64 0, .i .u64 0] [(0, (.c (.i .u64 18446744073709551615))), (1, (.c (.i .u64 0)))], none⟩,
        ⟨(some 16), .build 16 [.i .i64 0, .i .i64 0, .i .i64 0, .i .i64 0, .i .i64 0, .agg 13 [.i .u64 0, .i .u64 0]] [(0, (.c (.i .i64 6))), (5, (.t 15))], none⟩,
        ⟨(some 17), .bsl 17 16 (.agg 16 [.i .i64 0, .i .i64 0, .i .i64 0, .i .i64 0, .i .i64 0, .agg 13 [.i .u64 0, .i .u64 0]]) 6 [(0, (.t 10)), (1, (.t 11)), (2, (.t 12)), (3, (.t 13)), (4, (.t 14)), (5, (.t 16))], none⟩,
        ⟨(some 3), .mv (.t 17), none⟩] [0, 3])
    (.seq (.reg [⟨(some 18), .bsl 19 2 (.s []) 6 [(0, (.c (.s [98, 105, 110, 100, 32, 49, 32, 52, 50, 57, 52, 57, 54, 55, 50, 57, 53, 32, 54, 53, 53, 51, 53, 32, 56]))), (1, (.c (.s [111, 112, 101, 110, 32, 54, 51]))), (2, (.c (.s [100, 114, 97, 105, 110, 32, 48]))), (3, (.c (.s [115, 104, 117, 116, 32, 49, 48]))), (4, (.c (.s [102, 114, 101, 101, 32, 57]))), (5, (.c (.s [114, 111, 116, 97, 116, 101, 32, 49, 56, 52, 52, 54, 55, 52, 52, 48, 55, 51, 55, 48, 57, 53, 53, 49, 54, 49, 53, 32, 48])))], none⟩,
         ⟨(some 4), .mv (.t 18), none⟩] [0, 3, 4])
     (.seq (.reg [⟨(some 19), .mv (.t 0), none⟩,
          ⟨(some 20), .call (.f 3) [(.t 19), (.c (.i .i64 6))], none⟩,
          ⟨(some 5), .mv (.t 20), none⟩] [3, 4, 5])
      (.seq (.reg [⟨(some 22), .mv (.t 4), none⟩,
           ⟨(some 23), .mv (.t 5), none⟩,
           ⟨(some 24), .iaL 2 (.t 22) (.t 23), none⟩,
           ⟨(some 25), .load 2 (.t 24), none⟩,
           ⟨(some 26), .call (.f 22) [(.t 25)], none⟩,
           ⟨(some 21), .mv (.t 26), none⟩,
           ⟨(some 27), .ext (.t 21) 0, none⟩,
           ⟨(some 28), .ext (.t 21) 1, none⟩,
           ⟨(some 6), .box 16 (.c (.agg 16 [.i .i64 0, .i .i64 0, .i .i64 0, .i .i64 0, .i .i64 0, .agg 13 [.i .u64 0, .i .u64 0]])), none⟩,
           ⟨none, .store 16 (.t 6) (.t 27), none⟩,
           ⟨(some 7), .mv (.t 28), none⟩] [3, 4, 5, 6, 7])
       (.seq (.drw [⟨(some 29), .mv (.t 3), none⟩,
            ⟨(some 30), .mv (.t 5), none⟩,
            ⟨(some 31), .iaL 16 (.t 29) (.t 30), none⟩,
            ⟨(some 32), .load 16 (.t 31), none⟩,
            ⟨(some 33), .call (.f 21) [(.t 32)], none⟩,
            ⟨(some 34), .mv (.t 4), none⟩,
            ⟨(some 35), .mv (.t 5), none⟩,
            ⟨(some 36), .iaL 2 (.t 34) (.t 35), none⟩,
            ⟨(some 37), .load 2 (.t 36), none⟩,
            ⟨(some 38), .bin .eql (.t 33) (.t 37), none⟩,
            ⟨(some 39), .mv (.t 38), none⟩,
            ⟨(some 40), .mv (.t 7), some (39, true)⟩,
            ⟨(some 41), .pick (.t 39) (.t 40) (.c (.b false)), none⟩,
            ⟨(some 42), .mv (.t 41), none⟩,
            ⟨(some 43), .load 16 (.t 6), some (42, true)⟩,
            ⟨(some 44), .mv (.t 3), some (42, true)⟩,
            ⟨(some 45), .mv (.t 5), some (42, true)⟩,
            ⟨(some 46), .iaL 16 (.t 44) (.t 45), some (42, true)⟩,
            ⟨(some 47), .load 16 (.t 46), some (42, true)⟩,
            ⟨(some 48), .eqv 16 false (.t 43) (.t 47), some (42, true)⟩,
            ⟨(some 49), .pick (.t 42) (.t 48) (.c (.b false)), none⟩,
            ⟨(some 2), .mv (.t 49), none⟩] [0, 0, 3, 7, 15, 0, 0, 96, 224, 511, 1023, 2047, 4095, 8191, 16383, 16383, 16383, 114687, 245759, 524287, 1048575, 2097151] [2])
        .ret)))))))⟩

/- roundhouse/roundhouselaw10.OrderNone -/
def F31 : IFn := ⟨3, [.t 6],
 (.seq (.reg [⟨(some 6), .mv (.c (.b false)), none⟩] [0, 1, 2])
  (.seq (.seq (.reg [⟨(some 11), .call (.f 1) [], none⟩,
        ⟨(some 12), .un .not (.t 11), none⟩] [0, 1, 2, 12])
    (.cond (.t 12)
     (.seq (.reg [⟨(some 6), .mv (.c (.b false)), none⟩] [6])
      .ret)
     .skip))
   (.seq (.reg [⟨(some 13), .mv (.t 0), none⟩,
        ⟨(some 14), .call (.f 2) [(.t 13), (.c (.i .i64 60))], none⟩,
        ⟨(some 7), .box 15 (.c (.agg 15 [.i .i64 0, .i .i64 0, .i .i64 0, .agg 12 (List.replicate 64 (.agg 11 [.i .i64 0, .i .i64 0, .i .i64 0, .i .i64 0, .i .i64 0])), .agg 14 [.i .i64 0, .agg 13 [.i .u64 0, .i .u64 0], .agg 13 [.i .u64 0, .i .u64 0], .agg 13 [.i .u64 0, .i .u64 0]]])), none⟩,
        ⟨none, .store 15 (.t 7) (.t 14), none⟩] [1, 2, 7])
    (.seq (.reg [⟨(some 15), .mv (.t 1), none⟩,
         ⟨(some 8), .mv (.t 15), none⟩] [2, 7, 8])
     (.seq (.seq (.reg [⟨(some 16), .mv (.t 8), none⟩,
           ⟨(some 17), .bin .geq (.t 16) (.c (.i .i64 0)), none⟩,
           ⟨(some 18), .mv (.t 17), none⟩,
           ⟨(some 19), .mv (.t 8), some (18, true)⟩,
           ⟨(some 20), .bin .lss (.t 19) (.c (.i .i64 64)), some (18, true)⟩,
           ⟨(some 21), .pick (.t 18) (.t 20) (.c (.b false)), none⟩] [2, 7, 8, 21])
       (.cond (.t 21)
        (.reg [⟨(some 22), .mv (.t 8), none⟩,
            ⟨(some 23), .bin .add (.t 22) (.c (.i .i64 64)), none⟩,
            ⟨(some 8), .mv (.t 23), none⟩] [2, 7, 8])
        .skip))
      (.seq (.reg [⟨(some 24), .mv (.t 2), none⟩,
           ⟨(some 9), .mv (.t 24), none⟩] [7, 8, 9])
       (.seq (.seq (.reg [⟨(some 25), .mv (.t 9), none⟩,
             ⟨(some 26), .bin .eql (.t 25) (.c (.i .i64 1)), none⟩,
             ⟨(some 27), .mv (.t 26), none⟩,
             ⟨(some 28), .mv (.t 9), some (27, false)⟩,
             ⟨(some 29), .bin .eql (.t 28) (.c (.i .i64 2)), some (27, false)⟩,
             ⟨(some 30), .pick (.t 27) (.c (.b true)) (.t 29), none⟩] [7, 8, 9, 30])
         (.cond (.t 30)
          (.reg [⟨(some 31), .mv (.t 9), none⟩,
              ⟨(some 32), .bin .add (.t 31) (.c (.i .i64 2)), none⟩,
              ⟨(some 9), .mv (.t 32), none⟩] [7, 8, 9])
          .skip))
        (.seq (.seq (.reg [⟨(some 10), .mv (.c (.i .i64 0)), none⟩] [7, 8, 9, 10])
          (.blk 0 (.loop (.seq (.seq (.reg [⟨(some 33), .mv (.t 10), none⟩,
                  ⟨(some 34), .bin .lss (.t 33) (.c (.i .i64 64)), none⟩] [7, 8, 9, 10, 34])
              (.cond (.t 34)
               .skip
               (.exit 0)))
             (.seq (.blk 1 (.seq (.reg [⟨(some 37), .load 15 (.t 7), none⟩,
                    ⟨(some 38), .mv (.t 10), none⟩,
                    ⟨(some 39), .mv (.t 9), none⟩,
                    ⟨(some 40), .call (.f 12) [(.t 37), (.t 38), (.t 39)], none⟩,
                    ⟨(some 41), .lenL (.t 40), none⟩,
                    ⟨(some 42), .bin .neq (.t 41) (.c (.i .i64 0)), none⟩] [7, 8, 9, 10, 42])
                (.cond (.t 42)
                 (.seq (.reg [⟨(some 6), .mv (.c (.b false)), none⟩] [6])
                  .ret)
                 .skip)))
              (.reg [⟨(some 35), .mv (.t 10), none⟩,
                  ⟨(some 36), .bin .add (.t 35) (.c (.i .i64 1)), none⟩,
                  ⟨(some 10), .mv (.t 36), none⟩] [7, 8, 9, 10]))))))
         (.seq (.reg [⟨(some 43), .load 15 (.t 7), none⟩,
              ⟨(some 44), .mv (.t 8), none⟩,
              ⟨(some 45), .call (.f 12) [(.t 43), (.t 44), (.c (.i .i64 1))], none⟩,
              ⟨(some 46), .lenL (.t 45), none⟩,
              ⟨(some 47), .bin .eql (.t 46) (.c (.i .i64 0)), none⟩,
              ⟨(some 48), .mv (.t 47), none⟩,
              ⟨(some 49), .load 15 (.t 7), some (48, true)⟩,
              ⟨(some 50), .mv (.t 8), some (48, true)⟩,
              ⟨(some 51), .call (.f 12) [(.t 49), (.t 50), (.c (.i .i64 2))], some (48, true)⟩,
              ⟨(some 52), .lenL (.t 51), some (48, true)⟩,
              ⟨(some 53), .bin .eql (.t 52) (.c (.i .i64 0)), some (48, true)⟩,
              ⟨(some 54), .pick (.t 48) (.t 53) (.c (.b false)), none⟩,
              ⟨(some 6), .mv (.t 54), none⟩] [6])
          .ret)))))))))⟩

/- roundhouse/roundhouselaw10.OrderOwn -/
def F32 : IFn := ⟨4, [.t 8],
 (.seq (.reg [⟨(some 8), .mv (.c (.b false)), none⟩] [0, 1, 2, 3])
  (.seq (.seq (.reg [⟨(some 22), .call (.f 1) [], none⟩,
        ⟨(some 23), .un .not (.t 22), none⟩] [0, 1, 2, 3, 23])
    (.cond (.t 23)
     (.seq (.reg [⟨(some 8), .mv (.c (.b false)), none⟩] [8])
      .ret)
     .skip))
   (.seq (.reg [⟨(some 24), .mv (.t 0), none⟩,
        ⟨(some 25), .call (.f 2) [(.t 24), (.c (.i .i64 40))], none⟩,
        ⟨(some 26), .mv (.t 0), none⟩,
        ⟨(some 27), .call (.f 2) [(.t 26), (.c (.i .i64 40))], none⟩,
        ⟨(some 9), .box 15 (.c (.agg 15 [.i .i64 0, .i .i64 0, .i .i64 0, .agg 12 (List.replicate 64 (.agg 11 [.i .i64 0, .i .i64 0, .i .i64 0, .i .i64 0, .i .i64 0])), .agg 14 [.i .i64 0, .agg 13 [.i .u64 0, .i .u64 0], .agg 13 [.i .u64 0, .i .u64 0], .agg 13 [.i .u64 0, .i .u64 0]]])), none⟩,
        ⟨(some 10), .box 15 (.c (.agg 15 [.i .i64 0, .i .i64 0, .i .i64 0, .agg 12 (List.replicate 64 (.agg 11 [.i .i64 0, .i .i64 0, .i .i64 0, .i .i64 0, .i .i64 0])), .agg 14 [.i .i64 0, .agg 13 [.i .u64 0, .i .u64 0], .agg 13 [.i .u64 0, .i .u64 0], .agg 13 [.i .u64 0, .i .u64 0]]])), none⟩,
        ⟨none, .store 15 (.t 9) (.t 25), none⟩,
        ⟨none, .store 15 (.t 10) (.t 27), none⟩] [1, 2, 3, 9, 10])
    (.seq (.reg [⟨(some 28), .mv (.t 1), none⟩,
         ⟨(some 29), .call (.f 3) [(.t 28), (.c (.i .i64 6))], none⟩,
         ⟨(some 30), .mv (.t 2), none⟩,
         ⟨(some 31), .call (.f 3) [(.t 30), (.c (.i .i64 4))], none⟩,
         ⟨(some 11), .mv (.t 29), none⟩,
         ⟨(some 12), .mv (.t 31), none⟩] [3, 9, 10, 11, 12])
     (.seq (.reg [⟨(some 33), .load 15 (.t 9), none⟩,
          ⟨(some 34), .mv (.t 11), none⟩,
          ⟨(some 35), .mv (.t 12), none⟩,
          ⟨(some 36), .call (.f 4) [(.t 33), (.t 34), (.t 35), (.c (.i .i64 1))], none⟩,
          ⟨(some 32), .mv (.t 36), none⟩,
          ⟨(some 37), .ext (.t 32) 0, none⟩,
          ⟨(some 38), .ext (.t 32) 1, none⟩,
          ⟨(some 13), .mv (.t 37), none⟩,
          ⟨(some 14), .mv (.t 38), none⟩] [3, 9, 10, 11, 12, 13])
      (.seq (.seq (.reg [⟨(some 15), .mv (.c (.i .i64 0)), none⟩] [3, 9, 10, 11, 12, 13, 15])
        (.blk 0 (.loop (.seq (.seq (.reg [⟨(some 39), .mv (.t 15), none⟩,
                ⟨(some 40), .mv (.t 13), none⟩,
                ⟨(some 41), .lenL (.t 40), none⟩,
                ⟨(some 42), .bin .lss (.t 39) (.t 41), none⟩] [3, 9, 10, 11, 12, 13, 15, 42])
            (.cond (.t 42)
             .skip
             (.exit 0)))
           (.seq (.blk 1 (.reg [⟨(some 45), .mv (.t 13), none⟩,
                 ⟨(some 46), .mv (.t 15), none⟩,
                 ⟨(some 47), .iaL 16 (.t 45) (.t 46), none⟩,
                 ⟨(some 48), .fa 16 1 6 (.t 47), none⟩,
                 ⟨none, .store 6 (.t 48) (.c (.i .i64 99)), none⟩] [3, 9, 10, 11, 12, 13, 15]))
            (.reg [⟨(some 43), .mv (.t 15), none⟩,
                ⟨(some 44), .bin .add (.t 43) (.c (.i .i64 1)), none⟩,
                ⟨(some 15), .mv (.t 44), none⟩] [3, 9, 10, 11, 12, 13, 15]))))))
       (.seq (.drw [⟨(some 49), .load 15 (.t 9), none⟩,
            ⟨(some 50), .mv (.t 3), none⟩,
            ⟨(some 51), .call (.f 9) [(.t 50)], none⟩,
            ⟨(some 52), .call (.f 10) [(.t 49), (.t 51)], none⟩,
            ⟨(some 16), .mv (.t 52), none⟩] [0, 0, 2, 7, 15] [3, 9, 10, 11, 12, 16])
        (.seq (.seq (.reg [⟨(some 17), .mv (.c (.i .i64 0)), none⟩] [3, 9, 10, 11, 12, 16, 17])
          (.blk 2 (.loop (.seq (.seq (.reg [⟨(some 53), .mv (.t 17), none⟩,
                  ⟨(some 54), .mv (.t 16), none⟩,
                  ⟨(some 55), .lenL (.t 54), none⟩,
                  ⟨(some 56), .bin .lss (.t 53) (.t 55), none⟩] [3, 9, 10, 11, 12, 16, 17, 56])
              (.cond (.t 56)
               .skip
               (.exit 2)))
             (.seq (.blk 3 (.reg [⟨(some 59), .mv (.t 16), none⟩,
                   ⟨(some 60), .mv (.t 17), none⟩,
                   ⟨(some 61), .iaL 16 (.t 59) (.t 60), none⟩,
                   ⟨(some 62), .fa 16 0 6 (.t 61), none⟩,
                   ⟨none, .store 6 (.t 62) (.c (.i .i64 99)), none⟩] [3, 9, 10, 11, 12, 16, 17]))
              (.reg [⟨(some 57), .mv (.t 17), none⟩,
                  ⟨(some 58), .bin .add (.t 57) (.c (.i .i64 1)), none⟩,
                  ⟨(some 17), .mv (.t 58), none⟩] [3, 9, 10, 11, 12, 16, 17]))))))
         (.seq (.reg [⟨(some 64), .load 15 (.t 9), none⟩,
              ⟨(some 65), .mv (.t 11), none⟩,
              ⟨(some 66), .mv (.t 12), none⟩,
              ⟨(some 67), .call (.f 4) [(.t 64), (.t 65), (.t 66), (.c (.i .i64 1))], none⟩,
              ⟨(some 63), .mv (.t 67), none⟩,
              ⟨(some 68), .ext (.t 63) 0, none⟩,
              ⟨(some 69), .ext (.t 63) 1, none⟩,
              ⟨(some 18), .mv (.t 68), none⟩,
              ⟨(some 19), .mv (.t 69), none⟩] [3, 9, 10, 11, 12, 18, 19])
          (.seq (.reg [⟨(some 71), .load 15 (.t 10), none⟩,
               ⟨(some 72), .mv (.t 11), none⟩,
               ⟨(some 73), .mv (.t 12), none⟩,
               ⟨(some 74), .call (.f 5) [(.t 71), (.t 72), (.t 73), (.c (.i .i64 1))], none⟩,
               ⟨(some 70), .mv (.t 74), none⟩,
               ⟨(some 75), .ext (.t 70) 0, none⟩,
               ⟨(some 76), .ext (.t 70) 1, none⟩,
               ⟨(some 20), .mv (.t 75), none⟩,
               ⟨(some 21), .mv (.t 76), none⟩] [3, 9, 10, 18, 19, 20, 21])
           (.seq (.drw [⟨(some 77), .load 15 (.t 9), none⟩,
                ⟨(some 78), .load 15 (.t 10), none⟩,
                ⟨(some 79), .eqv 15 false (.t 77) (.t 78), none⟩,
                ⟨(some 80), .mv (.t 79), none⟩,
                ⟨(some 81), .mv (.t 19), some (80, true)⟩,
                ⟨(some 82), .mv (.t 21), some (80, true)⟩,
                ⟨(some 83), .bin .eql (.t 81) (.t 82), some (80, true)⟩,
                ⟨(some 84), .pick (.t 80) (.t 83) (.c (.b false)), none⟩,
                ⟨(some 85), .mv (.t 84), none⟩,
                ⟨(some 86), .mv (.t 18), some (85, true)⟩,
                ⟨(some 87), .mv (.t 20), some (85, true)⟩,
                ⟨(some 88), .call (.f 8) [(.t 86), (.t 87)], some (85, true)⟩,
                ⟨(some 89), .pick (.t 85) (.t 88) (.c (.b false)), none⟩,
                ⟨(some 90), .mv (.t 89), none⟩,
                ⟨(some 91), .load 15 (.t 9), some (90, true)⟩,
                ⟨(some 92), .mv (.t 3), some (90, true)⟩,
                ⟨(some 93), .call (.f 9) [(.t 92)], some (90, true)⟩,
                ⟨(some 94), .call (.f 10) [(.t 91), (.t 93)], some (90, true)⟩,
                ⟨(some 95), .load 15 (.t 10), some (90, true)⟩,
                ⟨(some 96), .mv (.t 3), some (90, true)⟩,
                ⟨(some 97), .call (.f 9) [(.t 96)], some (90, true)⟩,
                ⟨(some 98), .call (.f 11) [(.t 95), (.t 97)], some (90, true)⟩,
                ⟨(some 99), .call (.f 8) [(.t 94), (.t 98)], some (90, true)⟩,
                ⟨(some 100), .pick (.t 90) (.t 99) (.c (.b false)), none⟩,
                ⟨(some 8), .mv (.t 100), none⟩] [0, 0, 3, 7, 15, 15, 63, 127, 255, 511, 511, 2047, 4095, 8191, 16383, 16383, 49151, 131071, 16383, 16383, 786431, 2097151, 4194303, 8388607, 16777215] [8])
            .ret)))))))))))⟩

/- roundhouse/roundhouselaw10.known -/
def F1 : IFn := ⟨0, [.t 0],
 (.seq (.reg [⟨(some 0), .mv (.c (.b false)), none⟩] [])
  (.seq (.reg [⟨(some 10), .build 13 [.i .u64 0, .i .u64 0] [], none⟩,
       ⟨(some 11), .build 13 [.i .u64 0, .i .u64 0] [], none⟩,
       ⟨(some 12), .call (.f 33) [(.c (.i .i64 10)), (.c (.i .i64 80)), (.t 10), (.t 11)], none⟩,
       ⟨(some 9), .mv (.t 12), none⟩,
       ⟨(some 13), .ext (.t 9) 0, none⟩,
       ⟨(some 14), .ext (.t 9) 1, none⟩,
       ⟨(some 1), .box 15 (.c (.agg 15 [.i .i64 0, .i .i64 0, .i .i64 0, .agg 12 (List.replicate 64 (.agg 11 [.i .i64 0, .i .i64 0, .i .i64 0, .i .i64 0, .i .i64 0])), .agg 14 [.i .i64 0, .agg 13 [.i .u64 0, .i .u64 0], .agg 13 [.i .u64 0, .i .u64 0], .agg 13 [.i .u64 0, .i .u64 0]]])), none⟩,
       ⟨none, .store 15 (.t 1) (.t 13), none⟩,
       ⟨(some 2), .mv (.t 14), none⟩] [1])
   (.seq (.reg [⟨(some 16), .load 15 (.t 1), none⟩,
        ⟨(some 17), .call (.f 4) [(.t 16), (.c (.i .i64 3)), (.c (.i .i64 4)), (.c (.i .i64 1))], none⟩,
        ⟨(some 15), .mv (.t 17), none⟩,
        ⟨(some 18), .ext (.t 15) 0, none⟩,
        ⟨(some 19), .ext (.t 15) 1, none⟩,
        ⟨(some 3), .mv (.t 18), none⟩,
        ⟨(some 4), .mv (.t 19), none⟩] [1, 3, 4])
    (.seq (.reg [⟨(some 21), .load 15 (.t 1), none⟩,
         ⟨(some 22), .call (.f 6) [(.t 21), (.c (.i .i64 3)), (.c (.i .i64 4))], none⟩,
         ⟨(some 20), .mv (.t 22), none⟩,
         ⟨(some 23), .ext (.t 20) 0, none⟩,
         ⟨(some 24), .ext (.t 20) 1, none⟩,
         ⟨(some 5), .mv (.t 23), none⟩,
         ⟨(some 6), .mv (.t 24), none⟩] [1, 3, 4, 6])
     (.seq (.reg [⟨(some 26), .call (.f 22) [(.c (.s [111, 112, 101, 110, 32, 51]))], none⟩,
          ⟨(some 25), .mv (.t 26), none⟩,
          ⟨(some 27), .ext (.t 25) 0, none⟩,
          ⟨(some 28), .ext (.t 25) 1, none⟩,
          ⟨(some 7), .box 16 (.c (.agg 16 [.i .i64 0, .i .i64 0, .i .i64 0, .i .i64 0, .i .i64 0, .agg 13 [.i .u64 0, .i .u64 0]])), none⟩,
          ⟨none, .store 16 (.t 7) (.t 27), none⟩,
          ⟨(some 8), .mv (.t 28), none⟩] [1, 3, 4, 6, 7, 8])
      (.seq (.reg [⟨(some 29), .mv (.t 4), none⟩,
           ⟨(some 30), .bin .eql (.t 29) (.c (.i .i64 0)), none⟩,
           ⟨(some 31), .mv (.t 30), none⟩,
           ⟨(some 32), .mv (.t 3), some (31, true)⟩,
           ⟨(some 33), .lenL (.t 32), some (31, true)⟩,
           ⟨(some 34), .bin .eql (.t 33) (.c (.i .i64 2)), some (31, true)⟩,
           ⟨(some 35), .pick (.t 31) (.t 34) (.c (.b false)), none⟩,
           ⟨(some 36), .mv (.t 35), none⟩,
           ⟨(some 37), .mv (.t 3), some (36, true)⟩,
           ⟨(some 38), .iaL 16 (.t 37) (.c (.i .i64 1)), some (36, true)⟩,
           ⟨(some 39), .fa 16 0 6 (.t 38), some (36, true)⟩,
           ⟨(some 40), .load 6 (.t 39), some (36, true)⟩,
           ⟨(some 41), .bin .eql (.t 40) (.c (.i .i64 2)), some (36, true)⟩,
           ⟨(some 42), .pick (.t 36) (.t 41) (.c (.b false)), none⟩,
           ⟨(some 43), .mv (.t 42), none⟩,
           ⟨(some 44), .mv (.t 6), some (43, true)⟩,
           ⟨(some 45), .bin .eql (.t 44) (.c (.i .i64 9)), some (43, true)⟩,
           ⟨(some 46), .pick (.t 43) (.t 45) (.c (.b false)), none⟩,
           ⟨(some 47), .mv (.t 46), none⟩,
           ⟨(some 48), .build 16 [.i .i64 0, .i .i64 0, .i .i64 0, .i .i64 0, .i .i64 0, .agg 13 [.i .u64 0, .i .u64 0]] [(0, (.c (.i .i64 2))), (1, (.c (.i .i64 3)))], some (47, true)⟩,
           ⟨(some 49), .call (.f 21) [(.t 48)], some (47, true)⟩,
           ⟨(some 50), .bin .eql (.t 49) (.c (.s [111, 112, 101, 110, 32, 51])), some (47, true)⟩,
           ⟨(some 51), .pick (.t 47) (.t 50) (.c (.b false)), none⟩,
           ⟨(some 52), .mv (.t 51), none⟩,
           ⟨(some 53), .mv (.t 8), some (52, true)⟩,
           ⟨(some 54), .pick (.t 52) (.t 53) (.c (.b false)), none⟩,
           ⟨(some 55), .mv (.t 54), none⟩,
           ⟨(some 56), .fa 16 1 6 (.t 7), some (55, true)⟩,
           ⟨(some 57), .load 6 (.t 56), some (55, true)⟩,
           ⟨(some 58), .bin .eql (.t 57) (.c (.i .i64 3)), some (55, true)⟩,
           ⟨(some 59), .pick (.t 55) (.t 58) (.c (.b false)), none⟩,
           ⟨(some 60), .mv (.t 59), none⟩,
           ⟨(some 61), .load 15 (.t 1), some (60, true)⟩,
           ⟨(some 62), .build 13 [.i .u64 0, .i .u64 0] [(0, (.c (.i .u64 1)))], some (60, true)⟩,
           ⟨(some 63), .call (.f 10) [(.t 61), (.t 62)], some (60, true)⟩,
           ⟨(some 64), .lenL (.t 63), some (60, true)⟩,
           ⟨(some 65), .bin .eql (.t 64) (.c (.i .i64 1)), some (60, true)⟩,
           ⟨(some 66), .pick (.t 60) (.t 65) (.c (.b false)), none⟩,
           ⟨(some 67), .mv (.t 66), none⟩,
           ⟨(some 68), .load 15 (.t 1), some (67, true)⟩,
           ⟨(some 69), .call (.f 12) [(.t 68), (.c (.i .i64 0)), (.c (.i .i64 1))], some (67, true)⟩,
           ⟨(some 70), .lenL (.t 69), some (67, true)⟩,
           ⟨(some 71), .bin .eql (.t 70) (.c (.i .i64 0)), some (67, true)⟩,
           ⟨(some 72), .pick (.t 67) (.t 71) (.c (.b false)), none⟩,
           ⟨(some 0), .mv (.t 72), none⟩] [0])
       .ret))))))⟩

/- roundhouse/roundhouselaw6.Make -/
def F2 : IFn := ⟨2, [.c 4 15],
 (.seq (.reg [⟨(some 4), .box 15 (.c (.agg 15 [.i .i64 0, .i .i64 0, .i .i64 0, .agg 12 (List.replicate 64 (.agg 11 [.i .i64 0, .i .i64 0, .i .i64 0, .i .i64 0, .i .i64 0])), .agg 14 [.i .i64 0, .agg 13 [.i .u64 0, .i .u64 0], .agg 13 [.i .u64 0, .i .u64 0], .agg 13 [.i .u64 0, .i .u64 0]]])), none⟩] [0, 1, 4])
  (.seq (.reg [⟨(some 11), .call (.f 9) [(.c (.i .i64 1))], none⟩,
       ⟨(some 12), .call (.f 9) [(.c (.i .i64 2))], none⟩,
       ⟨(some 13), .call (.f 33) [(.c (.i .i64 10)), (.c (.i .i64 80)), (.t 11), (.t 12)], none⟩,
       ⟨(some 10), .mv (.t 13), none⟩,
       ⟨(some 14), .ext (.t 10) 0, none⟩,
       ⟨(some 15), .ext (.t 10) 1, none⟩,
       ⟨(some 5), .box 15 (.c (.agg 15 [.i .i64 0, .i .i64 0, .i .i64 0, .agg 12 (List.replicate 64 (.agg 11 [.i .i64 0, .i .i64 0, .i .i64 0, .i .i64 0, .i .i64 0])), .agg 14 [.i .i64 0, .agg 13 [.i .u64 0, .i .u64 0], .agg 13 [.i .u64 0, .i .u64 0], .agg 13 [.i .u64 0, .i .u64 0]]])), none⟩,
       ⟨none, .store 15 (.t 5) (.t 14), none⟩,
       ⟨(some 6), .mv (.t 15), none⟩] [0, 1, 4, 5])
   (.seq (.seq (.reg [⟨(some 7), .mv (.c (.i .i64 0)), none⟩] [0, 1, 4, 5, 7])
     (.blk 0 (.loop (.seq (.seq (.reg [⟨(some 16), .mv (.t 7), none⟩,
             ⟨(some 17), .mv (.t 0), none⟩,
             ⟨(some 18), .lenL (.t 17), none⟩,
             ⟨(some 19), .bin .lss (.t 16) (.t 18), none⟩,
             ⟨(some 20), .mv (.t 19), none⟩,
             ⟨(some 21), .mv (.t 7), some (20, true)⟩,
             ⟨(some 22), .mv (.t 1), some (20, true)⟩,
             ⟨(some 23), .bin .lss (.t 21) (.t 22), some (20, true)⟩,
             ⟨(some 24), .pick (.t 20) (.t 23) (.c (.b false)), none⟩] [0, 1, 4, 5, 7, 24])
         (.cond (.t 24)
          .skip
          (.exit 0)))
        (.seq (.blk 1 (.seq (.drw [⟨(some 28), .load 15 (.t 5), none⟩,
               ⟨(some 29), .mv (.t 0), none⟩,
               ⟨(some 30), .mv (.t 7), none⟩,
               ⟨(some 31), .iaL 6 (.t 29) (.t 30), none⟩,
               ⟨(some 32), .load 6 (.t 31), none⟩,
               ⟨(some 33), .call (.f 19) [(.t 32)], none⟩,
               ⟨(some 34), .call (.f 27) [(.t 28), (.t 33)], none⟩,
               ⟨(some 27), .mv (.t 34), none⟩,
               ⟨(some 35), .ext (.t 27) 0, none⟩,
               ⟨(some 36), .ext (.t 27) 1, none⟩,
               ⟨(some 8), .box 15 (.c (.agg 15 [.i .i64 0, .i .i64 0, .i .i64 0, .agg 12 (List.replicate 64 (.agg 11 [.i .i64 0, .i .i64 0, .i .i64 0, .i .i64 0, .i .i64 0])), .agg 14 [.i .i64 0, .agg 13 [.i .u64 0, .i .u64 0], .agg 13 [.i .u64 0, .i .u64 0], .agg 13 [.i .u64 0, .i .u64 0]]])), none⟩,
               ⟨none, .store 15 (.t 8) (.t 35), none⟩,
               ⟨(some 9), .mv (.t 36), none⟩] [0, 0, 0, 6, 14, 30, 63, 127, 255, 255, 0, 1535, 4095] [0, 1, 4, 5, 7, 8, 9])
           (.seq (.reg [⟨(some 37), .mv (.t 9), none⟩,
                ⟨(some 38), .bin .eql (.t 37) (.c (.i .i64 0)), none⟩] [0, 1, 4, 5, 7, 8, 38])
            (.cond (.t 38)
             (.reg [⟨(some 39), .load 15 (.t 8), none⟩,
                 ⟨none, .store 15 (.t 5) (.t 39), none⟩] [0, 1, 4, 5, 7])
             .skip))))
         (.reg [⟨(some 25), .mv (.t 7), none⟩,
             ⟨(some 26), .bin .add (.t 25) (.c (.i .i64 1)), none⟩,
             ⟨(some 7), .mv (.t 26), none⟩] [0, 1, 4, 5, 7]))))))
    (.seq (.reg [⟨(some 40), .load 15 (.t 5), none⟩,
         ⟨none, .store 15 (.t 4) (.t 40), none⟩] [4])
     .ret))))⟩

/- roundhouse/roundhouselaw10.within -/
def F3 : IFn := ⟨2, [.t 4],
 (.seq (.reg [⟨(some 4), .mv (.c (.i .i64 0)), none⟩] [0, 1])
  (.seq (.reg [⟨(some 6), .mv (.t 0), none⟩,
       ⟨(some 7), .mv (.t 1), none⟩,
       ⟨(some 8), .bin .rem (.t 6) (.t 7), none⟩,
       ⟨(some 5), .mv (.t 8), none⟩] [1, 5])
   (.seq (.seq (.reg [⟨(some 9), .mv (.t 5), none⟩,
         ⟨(some 10), .bin .lss (.t 9) (.c (.i .i64 0)), none⟩] [1, 5, 10])
     (.cond (.t 10)
      (.reg [⟨(some 11), .mv (.t 5), none⟩,
          ⟨(some 12), .mv (.t 1), none⟩,
          ⟨(some 13), .bin .add (.t 11) (.t 12), none⟩,
          ⟨(some 5), .mv (.t 13), none⟩] [5])
      .skip))
    (.seq (.reg [⟨(some 14), .mv (.t 5), none⟩,
         ⟨(some 4), .mv (.t 14), none⟩] [4])
     .ret))))⟩

/- roundhouse/order.Add -/
def F4 : IFn := ⟨4, [.t 8, .t 9],
 (.seq (.reg [⟨(some 4), .box 15 (.t 0), none⟩,
      ⟨(some 5), .box 6 (.t 1), none⟩,
      ⟨(some 6), .box 6 (.t 2), none⟩,
      ⟨(some 8), .mv (.c (.nilsl)), none⟩,
      ⟨(some 9), .mv (.c (.i .i64 0)), none⟩] [3, 4, 5, 6])
  (.seq (.reg [⟨(some 12), .load 6 (.t 5), none⟩,
       ⟨(some 13), .load 6 (.t 6), none⟩,
       ⟨(some 14), .mv (.t 3), none⟩,
       ⟨(some 15), .build 16 [.i .i64 0, .i .i64 0, .i .i64 0, .i .i64 0, .i .i64 0, .agg 13 [.i .u64 0, .i .u64 0]] [(0, (.c (.i .i64 1))), (2, (.t 12)), (3, (.t 13)), (4, (.t 14))], none⟩,
       ⟨(some 10), .box 16 (.c (.agg 16 [.i .i64 0, .i .i64 0, .i .i64 0, .i .i64 0, .i .i64 0, .agg 13 [.i .u64 0, .i .u64 0]])), none⟩,
       ⟨none, .store 16 (.t 10) (.t 15), none⟩] [4, 5, 6, 10])
   (.seq (.seq (.reg [⟨(some 16), .load 16 (.t 10), none⟩,
         ⟨(some 17), .call (.f 34) [(.t 16)], none⟩,
         ⟨(some 11), .mv (.t 17), none⟩] [4, 5, 6, 10, 11])
     (.seq (.reg [⟨(some 18), .mv (.t 11), none⟩,
          ⟨(some 19), .bin .neq (.t 18) (.c (.i .i64 0)), none⟩] [4, 5, 6, 10, 11, 19])
      (.cond (.t 19)
       (.seq (.reg [⟨(some 20), .mv (.t 11), none⟩,
            ⟨(some 8), .mv (.c (.nilsl)), none⟩,
            ⟨(some 9), .mv (.t 20), none⟩] [8, 9])
        .ret)
       .skip)))
    (.seq (.seq (.reg [⟨(some 21), .fa 15 1 6 (.t 4), none⟩,
          ⟨(some 22), .load 6 (.t 21), none⟩,
          ⟨(some 23), .load 6 (.t 5), none⟩,
          ⟨(some 24), .bin .eql (.t 22) (.t 23), none⟩,
          ⟨(some 25), .mv (.t 24), none⟩,
          ⟨(some 26), .fa 15 2 6 (.t 4), some (25, true)⟩,
          ⟨(some 27), .load 6 (.t 26), some (25, true)⟩,
          ⟨(some 28), .load 6 (.t 6), some (25, true)⟩,
          ⟨(some 29), .bin .eql (.t 27) (.t 28), some (25, true)⟩,
          ⟨(some 30), .pick (.t 25) (.t 29) (.c (.b false)), none⟩,
          ⟨(some 31), .mv (.t 30), none⟩,
          ⟨(some 32), .fa 15 3 12 (.t 4), some (31, false)⟩,
          ⟨(some 33), .slA 12 11 64 (.t 32) none none none, some (31, false)⟩,
          ⟨(some 34), .mkf 35 [(.t 5), (.t 6)], some (31, false)⟩,
          ⟨(some 35), .call (.f 36) [(.t 33), (.t 34)], some (31, false)⟩,
          ⟨(some 36), .pick (.t 31) (.c (.b true)) (.t 35), none⟩] [4, 10, 36])
      (.cond (.t 36)
       (.seq (.reg [⟨(some 8), .mv (.c (.nilsl)), none⟩,
            ⟨(some 9), .mv (.c (.i .i64 12)), none⟩] [8, 9])
        .ret)
       .skip))
     (.seq (.reg [⟨(some 37), .fa 15 3 12 (.t 4), none⟩,
          ⟨(some 38), .slA 12 11 64 (.t 37) none none none, none⟩,
          ⟨(some 39), .call (.f 37) [(.t 38), (.f 38)], none⟩,
          ⟨(some 40), .fa 16 1 6 (.t 10), none⟩,
          ⟨none, .store 6 (.t 40) (.t 39), none⟩] [10])
      (.seq (.seq (.reg [⟨(some 41), .fa 16 1 6 (.t 10), none⟩,
            ⟨(some 42), .load 6 (.t 41), none⟩,
            ⟨(some 43), .bin .lss (.t 42) (.c (.i .i64 0)), none⟩] [10, 43])
        (.cond (.t 43)
         (.seq (.reg [⟨(some 8), .mv (.c (.nilsl)), none⟩,
              ⟨(some 9), .mv (.c (.i .i64 9)), none⟩] [8, 9])
          .ret)
         .skip))
       (.seq (.reg [⟨(some 44), .load 16 (.t 10), none⟩,
            ⟨(some 45), .fa 16 1 6 (.t 10), none⟩,
            ⟨(some 46), .load 6 (.t 45), none⟩,
            ⟨(some 47), .build 16 [.i .i64 0, .i .i64 0, .i .i64 0, .i .i64 0, .i .i64 0, .agg 13 [.i .u64 0, .i .u64 0]] [(0, (.c (.i .i64 2))), (1, (.t 46))], none⟩,
            ⟨(some 48), .bsl 17 16 (.agg 16 [.i .i64 0, .i .i64 0, .i .i64 0, .i .i64 0, .i .i64 0, .agg 13 [.i .u64 0, .i .u64 0]]) 2 [(0, (.t 44)), (1, (.t 47))], none⟩,
            ⟨(some 8), .mv (.t 48), none⟩,
            ⟨(some 9), .mv (.c (.i .i64 0)), none⟩] [8, 9])
        .ret)))))))⟩

/- roundhouse/roundhouseref10.Add -/
def F5 : IFn := ⟨4, [.t 8, .t 9],
 (.seq (.reg [⟨(some 4), .box 15 (.t 0), none⟩,
      ⟨(some 8), .mv (.c (.nilsl)), none⟩,
      ⟨(some 9), .mv (.c (.i .i64 0)), none⟩] [1, 2, 3, 4])
  (.seq (.reg [⟨(some 12), .mv (.t 1), none⟩,
       ⟨(some 13), .mv (.t 2), none⟩,
       ⟨(some 14), .mv (.t 3), none⟩,
       ⟨(some 15), .build 16 [.i .i64 0, .i .i64 0, .i .i64 0, .i .i64 0, .i .i64 0, .agg 13 [.i .u64 0, .i .u64 0]] [(0, (.c (.i .i64 1))), (2, (.t 12)), (3, (.t 13)), (4, (.t 14))], none⟩,
       ⟨(some 10), .box 16 (.c (.agg 16 [.i .i64 0, .i .i64 0, .i .i64 0, .i .i64 0, .i .i64 0, .agg 13 [.i .u64 0, .i .u64 0]])), none⟩,
       ⟨none, .store 16 (.t 10) (.t 15), none⟩] [1, 2, 4, 10])
   (.seq (.seq (.reg [⟨(some 16), .load 16 (.t 10), none⟩,
         ⟨(some 17), .call (.f 20) [(.t 16)], none⟩,
         ⟨(some 18), .bin .neq (.t 17) (.c (.i .i64 0)), none⟩] [1, 2, 4, 10, 18])
     (.cond (.t 18)
      (.seq (.reg [⟨(some 8), .mv (.c (.nilsl)), none⟩,
           ⟨(some 9), .mv (.c (.i .i64 14)), none⟩] [8, 9])
       .ret)
      .skip))
    (.seq (.seq (.reg [⟨(some 19), .load 15 (.t 4), none⟩,
          ⟨(some 20), .mv (.t 1), none⟩,
          ⟨(some 21), .mv (.t 2), none⟩,
          ⟨(some 22), .call (.f 39) [(.t 19), (.t 20), (.t 21)], none⟩] [4, 10, 22])
      (.cond (.t 22)
       (.seq (.reg [⟨(some 8), .mv (.c (.nilsl)), none⟩,
            ⟨(some 9), .mv (.c (.i .i64 12)), none⟩] [8, 9])
        .ret)
       .skip))
     (.seq (.seq (.reg [⟨(some 11), .mv (.c (.i .i64 0)), none⟩] [4, 10, 11])
       (.blk 0 (.loop (.seq (.seq (.reg [⟨(some 23), .mv (.t 11), none⟩,
               ⟨(some 24), .bin .lss (.t 23) (.c (.i .i64 64)), none⟩] [4, 10, 11, 24])
           (.cond (.t 24)
            .skip
            (.exit 0)))
          (.seq (.blk 1 (.seq (.reg [⟨(some 27), .mv (.t 11), none⟩,
                 ⟨(some 28), .fa 15 3 12 (.t 4), none⟩,
                 ⟨(some 29), .iaA 12 11 64 (.t 28) (.t 27), none⟩,
                 ⟨(some 30), .fa 11 0 6 (.t 29), none⟩,
                 ⟨(some 31), .load 6 (.t 30), none⟩,
                 ⟨(some 32), .bin .eql (.t 31) (.c (.i .i64 0)), none⟩] [4, 10, 11, 32])
             (.cond (.t 32)
              (.seq (.reg [⟨(some 33), .mv (.t 11), none⟩,
                   ⟨(some 34), .fa 16 1 6 (.t 10), none⟩,
                   ⟨none, .store 6 (.t 34) (.t 33), none⟩] [10, 11])
               (.seq (.reg [⟨(some 35), .load 16 (.t 10), none⟩,
                    ⟨(some 36), .mv (.t 11), none⟩,
                    ⟨(some 37), .build 16 [.i .i64 0, .i .i64 0, .i .i64 0, .i .i64 0, .i .i64 0, .agg 13 [.i .u64 0, .i .u64 0]] [(0, (.c (.i .i64 2))), (1, (.t 36))], none⟩,
                    ⟨(some 38), .bsl 17 16 (.agg 16 [.i .i64 0, .i .i64 0, .i .i64 0, .i .i64 0, .i .i64 0, .agg 13 [.i .u64 0, .i .u64 0]]) 2 [(0, (.t 35)), (1, (.t 37))], none⟩,
                    ⟨(some 8), .mv (.t 38), none⟩,
                    ⟨(some 9), .mv (.c (.i .i64 0)), none⟩] [8, 9])
                .ret))
              .skip)))
           (.reg [⟨(some 25), .mv (.t 11), none⟩,
               ⟨(some 26), .bin .add (.t 25) (.c (.i .i64 1)), none⟩,
               ⟨(some 11), .mv (.t 26), none⟩] [4, 10, 11]))))))
      (.seq (.reg [⟨(some 8), .mv (.c (.nilsl)), none⟩,
           ⟨(some 9), .mv (.c (.i .i64 9)), none⟩] [8, 9])
       .ret))))))⟩

/- roundhouse/order.Remove -/
def F6 : IFn := ⟨3, [.t 6, .t 7],
 (.seq (.reg [⟨(some 3), .box 15 (.t 0), none⟩,
      ⟨(some 6), .mv (.c (.nilsl)), none⟩,
      ⟨(some 7), .mv (.c (.i .i64 0)), none⟩] [1, 2, 3])
  (.seq (.reg [⟨(some 12), .load 15 (.t 3), none⟩,
       ⟨(some 13), .mv (.t 1), none⟩,
       ⟨(some 14), .mv (.t 2), none⟩,
       ⟨(some 15), .call (.f 40) [(.t 12), (.t 13), (.t 14)], none⟩,
       ⟨(some 11), .mv (.t 15), none⟩,
       ⟨(some 16), .ext (.t 11) 0, none⟩,
       ⟨(some 17), .ext (.t 11) 1, none⟩,
       ⟨(some 8), .mv (.t 16), none⟩,
       ⟨(some 9), .mv (.t 17), none⟩] [3, 8, 9])
   (.seq (.seq (.reg [⟨(some 18), .mv (.t 9), none⟩,
         ⟨(some 19), .un .not (.t 18), none⟩] [3, 8, 19])
     (.cond (.t 19)
      (.seq (.reg [⟨(some 6), .mv (.c (.nilsl)), none⟩,
           ⟨(some 7), .mv (.c (.i .i64 9)), none⟩] [6, 7])
       .ret)
      .skip))
    (.seq (.reg [⟨(some 10), .mv (.c (.nilsl)), none⟩] [3, 8, 10])
     (.seq (.seq (.reg [⟨(some 20), .mv (.t 8), none⟩,
           ⟨(some 21), .fa 15 3 12 (.t 3), none⟩,
           ⟨(some 22), .iaA 12 11 64 (.t 21) (.t 20), none⟩,
           ⟨(some 23), .fa 11 0 6 (.t 22), none⟩,
           ⟨(some 24), .load 6 (.t 23), none⟩,
           ⟨(some 25), .bin .eql (.t 24) (.c (.i .i64 2)), none⟩] [8, 10, 25])
       (.cond (.t 25)
        (.reg [⟨(some 26), .mv (.t 10), none⟩,
            ⟨(some 27), .mv (.t 8), none⟩,
            ⟨(some 28), .build 16 [.i .i64 0, .i .i64 0, .i .i64 0, .i .i64 0, .i .i64 0, .agg 13 [.i .u64 0, .i .u64 0]] [(0, (.c (.i .i64 3))), (1, (.t 27))], none⟩,
            ⟨(some 29), .bsl 17 16 (.agg 16 [.i .i64 0, .i .i64 0, .i .i64 0, .i .i64 0, .i .i64 0, .agg 13 [.i .u64 0, .i .u64 0]]) 1 [(0, (.t 28))], none⟩,
            ⟨(some 30), .app 17 16 56 (.t 26) (.t 29), none⟩,
            ⟨(some 10), .mv (.t 30), none⟩] [8, 10])
        .skip))
      (.seq (.reg [⟨(some 31), .mv (.t 10), none⟩,
           ⟨(some 32), .mv (.t 8), none⟩,
           ⟨(some 33), .build 16 [.i .i64 0, .i .i64 0, .i .i64 0, .i .i64 0, .i .i64 0, .agg 13 [.i .u64 0, .i .u64 0]] [(0, (.c (.i .i64 4))), (1, (.t 32))], none⟩,
           ⟨(some 34), .bsl 17 16 (.agg 16 [.i .i64 0, .i .i64 0, .i .i64 0, .i .i64 0, .i .i64 0, .agg 13 [.i .u64 0, .i .u64 0]]) 1 [(0, (.t 33))], none⟩,
           ⟨(some 35), .app 17 16 56 (.t 31) (.t 34), none⟩,
           ⟨(some 36), .call (.f 41) [(.t 35)], none⟩,
           ⟨(some 6), .mv (.t 36), none⟩,
           ⟨(some 7), .mv (.c (.i .i64 0)), none⟩] [6, 7])
       .ret))))))⟩

/- roundhouse/roundhouseref10.Remove -/
def F7 : IFn := ⟨3, [.t 6, .t 7],
 (.seq (.reg [⟨(some 3), .box 15 (.t 0), none⟩,
      ⟨(some 6), .mv (.c (.nilsl)), none⟩,
      ⟨(some 7), .mv (.c (.i .i64 0)), none⟩] [1, 2, 3])
  (.seq (.reg [⟨(some 12), .load 15 (.t 3), none⟩,
       ⟨(some 13), .mv (.t 1), none⟩,
       ⟨(some 14), .mv (.t 2), none⟩,
       ⟨(some 15), .call (.f 16) [(.t 12), (.t 13), (.t 14)], none⟩,
       ⟨(some 11), .mv (.t 15), none⟩,
       ⟨(some 16), .ext (.t 11) 0, none⟩,
       ⟨(some 17), .ext (.t 11) 1, none⟩,
       ⟨(some 8), .mv (.t 16), none⟩,
       ⟨(some 9), .mv (.t 17), none⟩] [3, 8, 9])
   (.seq (.seq (.reg [⟨(some 18), .mv (.t 9), none⟩,
         ⟨(some 19), .un .not (.t 18), none⟩] [3, 8, 19])
     (.cond (.t 19)
      (.seq (.reg [⟨(some 6), .mv (.c (.nilsl)), none⟩,
           ⟨(some 7), .mv (.c (.i .i64 9)), none⟩] [6, 7])
       .ret)
      .skip))
    (.seq (.reg [⟨(some 10), .mv (.c (.nilsl)), none⟩] [3, 8, 10])
     (.seq (.seq (.reg [⟨(some 20), .mv (.t 8), none⟩,
           ⟨(some 21), .fa 15 3 12 (.t 3), none⟩,
           ⟨(some 22), .iaA 12 11 64 (.t 21) (.t 20), none⟩,
           ⟨(some 23), .fa 11 0 6 (.t 22), none⟩,
           ⟨(some 24), .load 6 (.t 23), none⟩,
           ⟨(some 25), .bin .eql (.t 24) (.c (.i .i64 2)), none⟩] [8, 10, 25])
       (.cond (.t 25)
        (.reg [⟨(some 26), .mv (.t 10), none⟩,
            ⟨(some 27), .mv (.t 8), none⟩,
            ⟨(some 28), .build 16 [.i .i64 0, .i .i64 0, .i .i64 0, .i .i64 0, .i .i64 0, .agg 13 [.i .u64 0, .i .u64 0]] [(0, (.c (.i .i64 3))), (1, (.t 27))], none⟩,
            ⟨(some 29), .bsl 17 16 (.agg 16 [.i .i64 0, .i .i64 0, .i .i64 0, .i .i64 0, .i .i64 0, .agg 13 [.i .u64 0, .i .u64 0]]) 1 [(0, (.t 28))], none⟩,
            ⟨(some 30), .app 17 16 56 (.t 26) (.t 29), none⟩,
            ⟨(some 10), .mv (.t 30), none⟩] [8, 10])
        .skip))
      (.seq (.reg [⟨(some 31), .mv (.t 10), none⟩,
           ⟨(some 32), .mv (.t 8), none⟩,
           ⟨(some 33), .build 16 [.i .i64 0, .i .i64 0, .i .i64 0, .i .i64 0, .i .i64 0, .agg 13 [.i .u64 0, .i .u64 0]] [(0, (.c (.i .i64 4))), (1, (.t 32))], none⟩,
           ⟨(some 34), .bsl 17 16 (.agg 16 [.i .i64 0, .i .i64 0, .i .i64 0, .i .i64 0, .i .i64 0, .agg 13 [.i .u64 0, .i .u64 0]]) 1 [(0, (.t 33))], none⟩,
           ⟨(some 35), .app 17 16 56 (.t 31) (.t 34), none⟩,
           ⟨(some 6), .mv (.t 35), none⟩,
           ⟨(some 7), .mv (.c (.i .i64 0)), none⟩] [6, 7])
       .ret))))))⟩

/- roundhouse/roundhouseref10.Same -/
def F8 : IFn := ⟨2, [.t 4],
 (.seq (.reg [⟨(some 4), .mv (.c (.b false)), none⟩] [0, 1])
  (.seq (.seq (.reg [⟨(some 6), .mv (.t 0), none⟩,
        ⟨(some 7), .lenL (.t 6), none⟩,
        ⟨(some 8), .mv (.t 1), none⟩,
        ⟨(some 9), .lenL (.t 8), none⟩,
        ⟨(some 10), .bin .neq (.t 7) (.t 9), none⟩] [0, 1, 10])
    (.cond (.t 10)
     (.seq (.reg [⟨(some 4), .mv (.c (.b false)), none⟩] [4])
      .ret)
     .skip))
   (.seq (.seq (.reg [⟨(some 5), .mv (.c (.i .i64 0)), none⟩] [0, 1, 5])
     (.blk 0 (.loop (.seq (.seq (.reg [⟨(some 11), .mv (.t 5), none⟩,
             ⟨(some 12), .mv (.t 0), none⟩,
             ⟨(some 13), .lenL (.t 12), none⟩,
             ⟨(some 14), .bin .lss (.t 11) (.t 13), none⟩] [0, 1, 5, 14])
         (.cond (.t 14)
          .skip
          (.exit 0)))
        (.seq (.blk 1 (.seq (.drw [⟨(some 17), .mv (.t 0), none⟩,
               ⟨(some 18), .mv (.t 5), none⟩,
               ⟨(some 19), .iaL 16 (.t 17) (.t 18), none⟩,
               ⟨(some 20), .load 16 (.t 19), none⟩,
               ⟨(some 21), .mv (.t 1), none⟩,
               ⟨(some 22), .mv (.t 5), none⟩,
               ⟨(some 23), .iaL 16 (.t 21) (.t 22), none⟩,
               ⟨(some 24), .load 16 (.t 23), none⟩,
               ⟨(some 25), .eqv 16 true (.t 20) (.t 24), none⟩] [0, 0, 3, 7, 0, 0, 48, 112, 255] [0, 1, 5, 25])
           (.cond (.t 25)
            (.seq (.reg [⟨(some 4), .mv (.c (.b false)), none⟩] [4])
             .ret)
            .skip)))
         (.reg [⟨(some 15), .mv (.t 5), none⟩,
             ⟨(some 16), .bin .add (.t 15) (.c (.i .i64 1)), none⟩,
             ⟨(some 5), .mv (.t 16), none⟩] [0, 1, 5]))))))
    (.seq (.reg [⟨(some 4), .mv (.c (.b true)), none⟩] [4])
     .ret))))⟩

/- roundhouse/order.Rotate -/
def F10 : IFn := ⟨2, [.t 4],
 (.seq (.reg [⟨(some 2), .box 15 (.t 0), none⟩,
      ⟨(some 3), .box 13 (.t 1), none⟩,
      ⟨(some 4), .mv (.c (.nilsl)), none⟩] [2, 3])
  (.seq (.reg [⟨(some 8), .load 13 (.t 3), none⟩,
       ⟨(some 9), .build 16 [.i .i64 0, .i .i64 0, .i .i64 0, .i .i64 0, .i .i64 0, .agg 13 [.i .u64 0, .i .u64 0]] [(0, (.c (.i .i64 6))), (5, (.t 8))], none⟩,
       ⟨(some 10), .bsl 17 16 (.agg 16 [.i .i64 0, .i .i64 0, .i .i64 0, .i .i64 0, .i .i64 0, .agg 13 [.i .u64 0, .i .u64 0]]) 1 [(0, (.t 9))], none⟩,
       ⟨(some 5), .mv (.t 10), none⟩] [2, 5])
   (.seq (.seq (.reg [⟨(some 11), .fa 15 3 12 (.t 2), none⟩,
         ⟨(some 12), .load 12 (.t 11), none⟩,
         ⟨(some 13), .mv (.c (.i .i64 0)), none⟩] [2, 5, 12, 13])
     (.blk 0 (.loop (.seq (.reg [⟨(some 14), .bin .lss (.t 13) (.c (.i .i64 64)), none⟩] [2, 5, 12, 13, 14])
        (.seq (.cond (.t 14)
          .skip
          (.exit 0))
         (.seq (.blk 1 (.seq (.reg [⟨(some 15), .mv (.t 13), none⟩,
                ⟨(some 16), .ixA 12 64 (.t 12) (.t 13), none⟩,
                ⟨(some 7), .box 11 (.c (.agg 11 [.i .i64 0, .i .i64 0, .i .i64 0, .i .i64 0, .i .i64 0])), none⟩,
                ⟨(some 6), .mv (.t 15), none⟩,
                ⟨none, .store 11 (.t 7) (.t 16), none⟩] [2, 5, 6, 7, 12, 13])
            (.seq (.reg [⟨(some 17), .fa 11 0 6 (.t 7), none⟩,
                 ⟨(some 18), .load 6 (.t 17), none⟩,
                 ⟨(some 19), .bin .eql (.t 18) (.c (.i .i64 4)), none⟩,
                 ⟨(some 20), .mv (.t 19), none⟩,
                 ⟨(some 21), .fa 11 4 6 (.t 7), some (20, true)⟩,
                 ⟨(some 22), .load 6 (.t 21), some (20, true)⟩,
                 ⟨(some 23), .bin .add (.t 22) (.c (.i .i64 3)), some (20, true)⟩,
                 ⟨(some 24), .fa 15 4 14 (.t 2), some (20, true)⟩,
                 ⟨(some 25), .fa 14 0 6 (.t 24), some (20, true)⟩,
                 ⟨(some 26), .load 6 (.t 25), some (20, true)⟩,
                 ⟨(some 27), .bin .add (.t 26) (.c (.i .i64 1)), some (20, true)⟩,
                 ⟨(some 28), .bin .leq (.t 23) (.t 27), some (20, true)⟩,
                 ⟨(some 29), .pick (.t 20) (.t 28) (.c (.b false)), none⟩] [2, 5, 6, 12, 13, 29])
             (.cond (.t 29)
              (.reg [⟨(some 30), .mv (.t 5), none⟩,
                  ⟨(some 31), .mv (.t 6), none⟩,
                  ⟨(some 32), .build 16 [.i .i64 0, .i .i64 0, .i .i64 0, .i .i64 0, .i .i64 0, .agg 13 [.i .u64 0, .i .u64 0]] [(0, (.c (.i .i64 5))), (1, (.t 31))], none⟩,
                  ⟨(some 33), .bsl 17 16 (.agg 16 [.i .i64 0, .i .i64 0, .i .i64 0, .i .i64 0, .i .i64 0, .agg 13 [.i .u64 0, .i .u64 0]]) 1 [(0, (.t 32))], none⟩,
                  ⟨(some 34), .app 17 16 56 (.t 30) (.t 33), none⟩,
                  ⟨(some 5), .mv (.t 34), none⟩] [2, 5, 12, 13])
              .skip))))
          (.reg [⟨(some 35), .bin .add (.t 13) (.c (.i .i64 1)), none⟩,
              ⟨(some 13), .mv (.t 35), none⟩] [2, 5, 12, 13])))))))
    (.seq (.reg [⟨(some 36), .mv (.t 5), none⟩,
         ⟨(some 37), .call (.f 41) [(.t 36)], none⟩,
         ⟨(some 4), .mv (.t 37), none⟩] [4])
     .ret))))⟩

/- roundhouse/roundhouselaw5.Key -/
def F9 : IFn := ⟨1, [.c 2 13],
 (.seq (.reg [⟨(some 2), .box 13 (.c (.agg 13 [.i .u64 0, .i .u64 0])), none⟩] [0, 2])
  (.seq (.reg [⟨(some 3), .mv (.t 0), none⟩,
       ⟨(some 4), .cint .u64 (.t 3), none⟩,
       ⟨(some 5), .bin .mul (.t 4) (.c (.i .u64 11400714819323198485)), none⟩,
       ⟨(some 6), .mv (.t 0), none⟩,
       ⟨(some 7), .cint .u64 (.t 6), none⟩,
       ⟨(some 8), .bin .xor (.t 7) (.c (.i .u64 19088743)), none⟩,
       ⟨(some 9), .build 13 [.i .u64 0, .i .u64 0] [(0, (.t 5)), (1, (.t 8))], none⟩,
       ⟨none, .store 13 (.t 2) (.t 9), none⟩] [2])
   .ret))⟩

/- roundhouse/roundhouseref10.Rotate -/
def F11 : IFn := ⟨2, [.t 4],
 (.seq (.reg [⟨(some 2), .box 15 (.t 0), none⟩,
      ⟨(some 3), .box 13 (.t 1), none⟩,
      ⟨(some 4), .mv (.c (.nilsl)), none⟩] [2, 3])
  (.seq (.reg [⟨(some 7), .load 13 (.t 3), none⟩,
       ⟨(some 8), .build 16 [.i .i64 0, .i .i64 0, .i .i64 0, .i .i64 0, .i .i64 0, .agg 13 [.i .u64 0, .i .u64 0]] [(0, (.c (.i .i64 6))), (5, (.t 7))], none⟩,
       ⟨(some 9), .bsl 17 16 (.agg 16 [.i .i64 0, .i .i64 0, .i .i64 0, .i .i64 0, .i .i64 0, .agg 13 [.i .u64 0, .i .u64 0]]) 1 [(0, (.t 8))], none⟩,
       ⟨(some 5), .mv (.t 9), none⟩] [2, 5])
   (.seq (.seq (.reg [⟨(some 6), .mv (.c (.i .i64 0)), none⟩] [2, 5, 6])
     (.blk 0 (.loop (.seq (.seq (.reg [⟨(some 10), .mv (.t 6), none⟩,
             ⟨(some 11), .bin .lss (.t 10) (.c (.i .i64 64)), none⟩] [2, 5, 6, 11])
         (.cond (.t 11)
          .skip
          (.exit 0)))
        (.seq (.blk 1 (.seq (.drw [⟨(some 14), .mv (.t 6), none⟩,
               ⟨(some 15), .fa 15 3 12 (.t 2), none⟩,
               ⟨(some 16), .iaA 12 11 64 (.t 15) (.t 14), none⟩,
               ⟨(some 17), .fa 11 0 6 (.t 16), none⟩,
               ⟨(some 18), .load 6 (.t 17), none⟩,
               ⟨(some 19), .bin .eql (.t 18) (.c (.i .i64 4)), none⟩,
               ⟨(some 20), .mv (.t 19), none⟩,
               ⟨(some 21), .mv (.t 6), some (20, true)⟩,
               ⟨(some 22), .fa 15 3 12 (.t 2), some (20, true)⟩,
               ⟨(some 23), .iaA 12 11 64 (.t 22) (.t 21), some (20, true)⟩,
               ⟨(some 24), .fa 11 4 6 (.t 23), some (20, true)⟩,
               ⟨(some 25), .load 6 (.t 24), some (20, true)⟩,
               ⟨(some 26), .bin .add (.t 25) (.c (.i .i64 3)), some (20, true)⟩,
               ⟨(some 27), .fa 15 4 14 (.t 2), some (20, true)⟩,
               ⟨(some 28), .fa 14 0 6 (.t 27), some (20, true)⟩,
               ⟨(some 29), .load 6 (.t 28), some (20, true)⟩,
               ⟨(some 30), .bin .add (.t 29) (.c (.i .i64 1)), some (20, true)⟩,
               ⟨(some 31), .bin .leq (.t 26) (.t 30), some (20, true)⟩,
               ⟨(some 32), .pick (.t 20) (.t 31) (.c (.b false)), none⟩] [0, 0, 3, 7, 15, 31, 63, 127, 127, 511, 1023, 2047, 4095, 127, 8319, 24703, 57471, 131071, 262143] [2, 5, 6, 32])
           (.cond (.t 32)
            (.reg [⟨(some 33), .mv (.t 5), none⟩,
                ⟨(some 34), .mv (.t 6), none⟩,
                ⟨(some 35), .build 16 [.i .i64 0, .i .i64 0, .i .i64 0, .i .i64 0, .i .i64 0, .agg 13 [.i .u64 0, .i .u64 0]] [(0, (.c (.i .i64 5))), (1, (.t 34))], none⟩,
                ⟨(some 36), .bsl 17 16 (.agg 16 [.i .i64 0, .i .i64 0, .i .i64 0, .i .i64 0, .i .i64 0, .agg 13 [.i .u64 0, .i .u64 0]]) 1 [(0, (.t 35))], none⟩,
                ⟨(some 37), .app 17 16 56 (.t 33) (.t 36), none⟩,
                ⟨(some 5), .mv (.t 37), none⟩] [2, 5, 6])
            .skip)))
         (.reg [⟨(some 12), .mv (.t 6), none⟩,
             ⟨(some 13), .bin .add (.t 12) (.c (.i .i64 1)), none⟩,
             ⟨(some 6), .mv (.t 13), none⟩] [2, 5, 6]))))))
    (.seq (.reg [⟨(some 38), .mv (.t 5), none⟩,
         ⟨(some 4), .mv (.t 38), none⟩] [4])
     .ret))))⟩

/- roundhouse/order.Mark -/
def F12 : IFn := ⟨3, [.t 6],
 (.seq (.reg [⟨(some 3), .box 15 (.t 0), none⟩,
      ⟨(some 6), .mv (.c (.nilsl)), none⟩] [1, 2, 3])
  (.seq (.seq (.reg [⟨(some 8), .mv (.t 1), none⟩,
        ⟨(some 9), .bin .lss (.t 8) (.c (.i .i64 0)), none⟩,
        ⟨(some 10), .mv (.t 9), none⟩,
        ⟨(some 11), .mv (.t 1), some (10, false)⟩,
        ⟨(some 12), .bin .geq (.t 11) (.c (.i .i64 64)), some (10, false)⟩,
        ⟨(some 13), .pick (.t 10) (.c (.b true)) (.t 12), none⟩] [1, 2, 3, 13])
    (.cond (.t 13)
     (.seq (.reg [⟨(some 6), .mv (.c (.nilsl)), none⟩] [6])
      .ret)
     .skip))
   (.seq (.reg [⟨(some 14), .mv (.t 1), none⟩,
        ⟨(some 15), .fa 15 3 12 (.t 3), none⟩,
        ⟨(some 16), .iaA 12 11 64 (.t 15) (.t 14), none⟩,
        ⟨(some 17), .fa 11 0 6 (.t 16), none⟩,
        ⟨(some 18), .load 6 (.t 17), none⟩,
        ⟨(some 7), .mv (.t 18), none⟩] [1, 2, 7])
    (.seq (.blk 0 (.seq (.reg [⟨(some 20), .mv (.t 2), none⟩,
           ⟨(some 21), .bin .eql (.t 20) (.c (.i .i64 1)), none⟩,
           ⟨(some 22), .mv (.t 21), none⟩,
           ⟨(some 23), .mv (.t 7), some (22, true)⟩,
           ⟨(some 24), .bin .eql (.t 23) (.c (.i .i64 1)), some (22, true)⟩,
           ⟨(some 25), .mv (.t 24), some (22, true)⟩,
           ⟨(some 26), .mv (.t 7), some (25, false)⟩,
           ⟨(some 27), .bin .eql (.t 26) (.c (.i .i64 3)), some (25, false)⟩,
           ⟨(some 28), .pick (.t 25) (.c (.b true)) (.t 27), some (22, true)⟩,
           ⟨(some 29), .pick (.t 22) (.t 28) (.c (.b false)), none⟩,
           ⟨(some 19), .mv (.t 29), none⟩] [1, 2, 7, 19])
       (.cond (.t 19)
        (.seq (.reg [⟨(some 30), .mv (.t 1), none⟩,
             ⟨(some 31), .build 16 [.i .i64 0, .i .i64 0, .i .i64 0, .i .i64 0, .i .i64 0, .agg 13 [.i .u64 0, .i .u64 0]] [(0, (.c (.i .i64 2))), (1, (.t 30))], none⟩,
             ⟨(some 32), .bsl 17 16 (.agg 16 [.i .i64 0, .i .i64 0, .i .i64 0, .i .i64 0, .i .i64 0, .agg 13 [.i .u64 0, .i .u64 0]]) 1 [(0, (.t 31))], none⟩,
             ⟨(some 6), .mv (.t 32), none⟩] [6])
         .ret)
        (.seq (.reg [⟨(some 34), .mv (.t 2), none⟩,
             ⟨(some 35), .bin .eql (.t 34) (.c (.i .i64 2)), none⟩,
             ⟨(some 36), .mv (.t 35), none⟩,
             ⟨(some 37), .mv (.t 7), some (36, true)⟩,
             ⟨(some 38), .bin .eql (.t 37) (.c (.i .i64 2)), some (36, true)⟩,
             ⟨(some 39), .pick (.t 36) (.t 38) (.c (.b false)), none⟩,
             ⟨(some 33), .mv (.t 39), none⟩] [1, 33])
         (.cond (.t 33)
          (.seq (.reg [⟨(some 40), .mv (.t 1), none⟩,
               ⟨(some 41), .build 16 [.i .i64 0, .i .i64 0, .i .i64 0, .i .i64 0, .i .i64 0, .agg 13 [.i .u64 0, .i .u64 0]] [(0, (.c (.i .i64 3))), (1, (.t 40))], none⟩,
               ⟨(some 42), .bsl 17 16 (.agg 16 [.i .i64 0, .i .i64 0, .i .i64 0, .i .i64 0, .i .i64 0, .agg 13 [.i .u64 0, .i .u64 0]]) 1 [(0, (.t 41))], none⟩,
               ⟨(some 6), .mv (.t 42), none⟩] [6])
           .ret)
          .skip)))))
     (.seq (.reg [⟨(some 6), .mv (.c (.nilsl)), none⟩] [6])
      .ret)))))⟩

/- roundhouse/roundhouseref10.Mark -/
def F13 : IFn := ⟨3, [.t 6],
 (.seq (.reg [⟨(some 3), .box 15 (.t 0), none⟩,
      ⟨(some 6), .mv (.c (.nilsl)), none⟩] [1, 2, 3])
  (.seq (.seq (.reg [⟨(some 8), .mv (.t 1), none⟩,
        ⟨(some 9), .bin .lss (.t 8) (.c (.i .i64 0)), none⟩,
        ⟨(some 10), .mv (.t 9), none⟩,
        ⟨(some 11), .mv (.t 1), some (10, false)⟩,
        ⟨(some 12), .bin .geq (.t 11) (.c (.i .i64 64)), some (10, false)⟩,
        ⟨(some 13), .pick (.t 10) (.c (.b true)) (.t 12), none⟩] [1, 2, 3, 13])
    (.cond (.t 13)
     (.seq (.reg [⟨(some 6), .mv (.c (.nilsl)), none⟩] [6])
      .ret)
     .skip))
   (.seq (.reg [⟨(some 14), .mv (.t 1), none⟩,
        ⟨(some 15), .fa 15 3 12 (.t 3), none⟩,
        ⟨(some 16), .iaA 12 11 64 (.t 15) (.t 14), none⟩,
        ⟨(some 17), .fa 11 0 6 (.t 16), none⟩,
        ⟨(some 18), .load 6 (.t 17), none⟩,
        ⟨(some 7), .mv (.t 18), none⟩] [1, 2, 7])
    (.seq (.blk 0 (.seq (.reg [⟨(some 20), .mv (.t 2), none⟩,
           ⟨(some 21), .bin .eql (.t 20) (.c (.i .i64 1)), none⟩,
           ⟨(some 22), .mv (.t 21), none⟩,
           ⟨(some 23), .mv (.t 7), some (22, true)⟩,
           ⟨(some 24), .bin .eql (.t 23) (.c (.i .i64 1)), some (22, true)⟩,
           ⟨(some 25), .mv (.t 24), some (22, true)⟩,
           ⟨(some 26), .mv (.t 7), some (25, false)⟩,
           ⟨(some 27), .bin .eql (.t 26) (.c (.i .i64 3)), some (25, false)⟩,
           ⟨(some 28), .pick (.t 25) (.c (.b true)) (.t 27), some (22, true)⟩,
           ⟨(some 29), .pick (.t 22) (.t 28) (.c (.b false)), none⟩,
           ⟨(some 19), .mv (.t 29), none⟩] [1, 2, 7, 19])
       (.cond (.t 19)
        (.seq (.reg [⟨(some 30), .mv (.t 1), none⟩,
             ⟨(some 31), .build 16 [.i .i64 0, .i .i64 0, .i .i64 0, .i .i64 0, .i .i64 0, .agg 13 [.i .u64 0, .i .u64 0]] [(0, (.c (.i .i64 2))), (1, (.t 30))], none⟩,
             ⟨(some 32), .bsl 17 16 (.agg 16 [.i .i64 0, .i .i64 0, .i .i64 0, .i .i64 0, .i .i64 0, .agg 13 [.i .u64 0, .i .u64 0]]) 1 [(0, (.t 31))], none⟩,
             ⟨(some 6), .mv (.t 32), none⟩] [6])
         .ret)
        (.seq (.reg [⟨(some 34), .mv (.t 2), none⟩,
             ⟨(some 35), .bin .eql (.t 34) (.c (.i .i64 2)), none⟩,
             ⟨(some 36), .mv (.t 35), none⟩,
             ⟨(some 37), .mv (.t 7), some (36, true)⟩,
             ⟨(some 38), .bin .eql (.t 37) (.c (.i .i64 2)), some (36, true)⟩,
             ⟨(some 39), .pick (.t 36) (.t 38) (.c (.b false)), none⟩,
             ⟨(some 33), .mv (.t 39), none⟩] [1, 33])
         (.cond (.t 33)
          (.seq (.reg [⟨(some 40), .mv (.t 1), none⟩,
               ⟨(some 41), .build 16 [.i .i64 0, .i .i64 0, .i .i64 0, .i .i64 0, .i .i64 0, .agg 13 [.i .u64 0, .i .u64 0]] [(0, (.c (.i .i64 3))), (1, (.t 40))], none⟩,
               ⟨(some 42), .bsl 17 16 (.agg 16 [.i .i64 0, .i .i64 0, .i .i64 0, .i .i64 0, .i .i64 0, .agg 13 [.i .u64 0, .i .u64 0]]) 1 [(0, (.t 41))], none⟩,
               ⟨(some 6), .mv (.t 42), none⟩] [6])
           .ret)
          .skip)))))
     (.seq (.reg [⟨(some 6), .mv (.c (.nilsl)), none⟩] [6])
      .ret)))))⟩

/- roundhouse/roundhouseref6.All -/
def F15 : IFn := ⟨2, [.c 4 15, .t 5, .t 6],
 (.seq (.reg [⟨(some 2), .box 15 (.t 0), none⟩,
      ⟨(some 4), .box 15 (.c (.agg 15 [.i .i64 0, .i .i64 0, .i .i64 0, .agg 12 (List.replicate 64 (.agg 11 [.i .i64 0, .i .i64 0, .i .i64 0, .i .i64 0, .i .i64 0])), .agg 14 [.i .i64 0, .agg 13 [.i .u64 0, .i .u64 0], .agg 13 [.i .u64 0, .i .u64 0], .agg 13 [.i .u64 0, .i .u64 0]]])), none⟩,
      ⟨(some 5), .mv (.c (.i .i64 0)), none⟩,
      ⟨(some 6), .mv (.c (.i .i64 0)), none⟩] [1, 2, 4])
  (.seq (.seq (.reg [⟨(some 7), .mv (.c (.i .i64 0)), none⟩] [1, 2, 4, 7])
    (.blk 0 (.loop (.seq (.seq (.reg [⟨(some 10), .mv (.t 7), none⟩,
            ⟨(some 11), .mv (.t 1), none⟩,
            ⟨(some 12), .lenL (.t 11), none⟩,
            ⟨(some 13), .bin .lss (.t 10) (.t 12), none⟩] [1, 2, 4, 7, 13])
        (.cond (.t 13)
         .skip
         (.exit 0)))
       (.seq (.blk 1 (.seq (.drw [⟨(some 17), .load 15 (.t 2), none⟩,
              ⟨(some 18), .mv (.t 1), none⟩,
              ⟨(some 19), .mv (.t 7), none⟩,
              ⟨(some 20), .iaL 16 (.t 18) (.t 19), none⟩,
              ⟨(some 21), .load 16 (.t 20), none⟩,
              ⟨(some 22), .call (.f 27) [(.t 17), (.t 21)], none⟩,
              ⟨(some 16), .mv (.t 22), none⟩,
              ⟨(some 23), .ext (.t 16) 0, none⟩,
              ⟨(some 24), .ext (.t 16) 1, none⟩,
              ⟨(some 8), .box 15 (.c (.agg 15 [.i .i64 0, .i .i64 0, .i .i64 0, .agg 12 (List.replicate 64 (.agg 11 [.i .i64 0, .i .i64 0, .i .i64 0, .i .i64 0, .i .i64 0])), .agg 14 [.i .i64 0, .agg 13 [.i .u64 0, .i .u64 0], .agg 13 [.i .u64 0, .i .u64 0], .agg 13 [.i .u64 0, .i .u64 0]]])), none⟩,
              ⟨none, .store 15 (.t 8) (.t 23), none⟩,
              ⟨(some 9), .mv (.t 24), none⟩] [0, 0, 0, 6, 14, 31, 63, 127, 127, 0, 767, 2047] [1, 2, 4, 7, 8, 9])
          (.seq (.seq (.reg [⟨(some 25), .mv (.t 9), none⟩,
                ⟨(some 26), .bin .neq (.t 25) (.c (.i .i64 0)), none⟩] [1, 2, 4, 7, 8, 9, 26])
            (.cond (.t 26)
             (.seq (.reg [⟨(some 27), .load 15 (.t 2), none⟩,
                  ⟨(some 28), .mv (.t 7), none⟩,
                  ⟨(some 29), .mv (.t 9), none⟩,
                  ⟨none, .store 15 (.t 4) (.t 27), none⟩,
                  ⟨(some 5), .mv (.t 28), none⟩,
                  ⟨(some 6), .mv (.t 29), none⟩] [4, 5, 6])
              .ret)
             .skip))
           (.reg [⟨(some 30), .load 15 (.t 8), none⟩,
               ⟨none, .store 15 (.t 2) (.t 30), none⟩] [1, 2, 4, 7]))))
        (.reg [⟨(some 14), .mv (.t 7), none⟩,
            ⟨(some 15), .bin .add (.t 14) (.c (.i .i64 1)), none⟩,
            ⟨(some 7), .mv (.t 15), none⟩] [1, 2, 4, 7]))))))
   (.seq (.reg [⟨(some 31), .load 15 (.t 2), none⟩,
        ⟨(some 32), .mv (.t 1), none⟩,
        ⟨(some 33), .lenL (.t 32), none⟩,
        ⟨none, .store 15 (.t 4) (.t 31), none⟩,
        ⟨(some 5), .mv (.t 33), none⟩,
        ⟨(some 6), .mv (.c (.i .i64 0)), none⟩] [4, 5, 6])
    .ret)))⟩

/- roundhouse/roundhouseref6.Find -/
def F16 : IFn := ⟨3, [.t 6, .t 7],
 (.seq (.reg [⟨(some 3), .box 15 (.t 0), none⟩,
      ⟨(some 6), .mv (.c (.i .i64 0)), none⟩,
      ⟨(some 7), .mv (.c (.b false)), none⟩] [1, 2, 3])
  (.seq (.seq (.reg [⟨(some 8), .mv (.c (.i .i64 0)), none⟩] [1, 2, 3, 8])
    (.blk 0 (.loop (.seq (.seq (.reg [⟨(some 10), .mv (.t 8), none⟩,
            ⟨(some 11), .bin .lss (.t 10) (.c (.i .i64 64)), none⟩] [1, 2, 3, 8, 11])
        (.cond (.t 11)
         .skip
         (.exit 0)))
       (.seq (.blk 1 (.seq (.reg [⟨(some 14), .mv (.t 8), none⟩,
              ⟨(some 15), .fa 15 3 12 (.t 3), none⟩,
              ⟨(some 16), .iaA 12 11 64 (.t 15) (.t 14), none⟩,
              ⟨(some 17), .load 11 (.t 16), none⟩,
              ⟨(some 9), .box 11 (.c (.agg 11 [.i .i64 0, .i .i64 0, .i .i64 0, .i .i64 0, .i .i64 0])), none⟩,
              ⟨none, .store 11 (.t 9) (.t 17), none⟩] [1, 2, 3, 8, 9])
          (.seq (.reg [⟨(some 18), .load 11 (.t 9), none⟩,
               ⟨(some 19), .call (.f 42) [(.t 18)], none⟩,
               ⟨(some 20), .mv (.t 19), none⟩,
               ⟨(some 21), .fa 11 1 6 (.t 9), some (20, true)⟩,
               ⟨(some 22), .load 6 (.t 21), some (20, true)⟩,
               ⟨(some 23), .mv (.t 1), some (20, true)⟩,
               ⟨(some 24), .bin .eql (.t 22) (.t 23), some (20, true)⟩,
               ⟨(some 25), .pick (.t 20) (.t 24) (.c (.b false)), none⟩,
               ⟨(some 26), .mv (.t 25), none⟩,
               ⟨(some 27), .fa 11 2 6 (.t 9), some (26, true)⟩,
               ⟨(some 28), .load 6 (.t 27), some (26, true)⟩,
               ⟨(some 29), .mv (.t 2), some (26, true)⟩,
               ⟨(some 30), .bin .eql (.t 28) (.t 29), some (26, true)⟩,
               ⟨(some 31), .pick (.t 26) (.t 30) (.c (.b false)), none⟩] [1, 2, 3, 8, 31])
           (.cond (.t 31)
            (.seq (.reg [⟨(some 32), .mv (.t 8), none⟩,
                 ⟨(some 6), .mv (.t 32), none⟩,
                 ⟨(some 7), .mv (.c (.b true)), none⟩] [6, 7])
             .ret)
            .skip))))
        (.reg [⟨(some 12), .mv (.t 8), none⟩,
            ⟨(some 13), .bin .add (.t 12) (.c (.i .i64 1)), none⟩,
            ⟨(some 8), .mv (.t 13), none⟩] [1, 2, 3, 8]))))))
   (.seq (.reg [⟨(some 6), .mv (.c (.i .i64 0)), none⟩,
        ⟨(some 7), .mv (.c (.b false)), none⟩] [6, 7])
    .ret)))⟩

/- roundhouse/roundhouselaw6.Entry -/
def F19 : IFn := ⟨1, [.c 2 16],
 (.seq (.reg [⟨(some 2), .box 16 (.c (.agg 16 [.i .i64 0, .i .i64 0, .i .i64 0, .i .i64 0, .i .i64 0, .agg 13 [.i .u64 0, .i .u64 0]])), none⟩] [0, 2])
  (.seq (.reg [⟨(some 5), .mv (.t 0), none⟩,
       ⟨(some 6), .call (.f 43) [(.t 5), (.c (.i .i64 1125899906842624))], none⟩,
       ⟨(some 3), .mv (.t 6), none⟩] [2, 3])
   (.seq (.reg [⟨(some 7), .mv (.t 3), none⟩,
        ⟨(some 8), .bin .quo (.t 7) (.c (.i .i64 8)), none⟩,
        ⟨(some 9), .bin .rem (.t 8) (.c (.i .i64 6)), none⟩,
        ⟨(some 4), .mv (.t 9), none⟩] [2, 3, 4])
    (.seq (.seq (.reg [⟨(some 10), .mv (.t 3), none⟩,
          ⟨(some 11), .bin .quo (.t 10) (.c (.i .i64 48)), none⟩,
          ⟨(some 12), .bin .rem (.t 11) (.c (.i .i64 29)), none⟩,
          ⟨(some 13), .bin .eql (.t 12) (.c (.i .i64 0)), none⟩] [2, 3, 4, 13])
      (.cond (.t 13)
       (.reg [⟨(some 14), .mv (.t 3), none⟩,
           ⟨(some 15), .bin .quo (.t 14) (.c (.i .i64 48)), none⟩,
           ⟨(some 16), .bin .rem (.t 15) (.c (.i .i64 66)), none⟩,
           ⟨(some 4), .mv (.t 16), none⟩] [2, 3, 4])
       .skip))
     (.seq (.seq (.reg [⟨(some 17), .mv (.t 3), none⟩,
           ⟨(some 18), .bin .rem (.t 17) (.c (.i .i64 8)), none⟩] [2, 3, 4, 18])
       (.blk 0 (.seq (.seq (.reg [⟨(some 20), .bin .eql (.t 18) (.c (.i .i64 0)), none⟩,
              ⟨(some 19), .mv (.t 20), none⟩] [2, 3, 4, 18, 19])
          (.cond (.t 19)
           .skip
           (.reg [⟨(some 21), .bin .eql (.t 18) (.c (.i .i64 1)), none⟩,
               ⟨(some 19), .mv (.t 21), none⟩] [2, 3, 4, 18, 19])))
         (.cond (.t 19)
          (.seq (.reg [⟨(some 22), .mv (.t 4), none⟩,
               ⟨(some 23), .mv (.t 3), none⟩,
               ⟨(some 24), .bin .quo (.t 23) (.c (.i .i64 400)), none⟩,
               ⟨(some 25), .bin .rem (.t 24) (.c (.i .i64 5)), none⟩,
               ⟨(some 26), .mv (.t 3), none⟩,
               ⟨(some 27), .bin .quo (.t 26) (.c (.i .i64 2000)), none⟩,
               ⟨(some 28), .bin .rem (.t 27) (.c (.i .i64 3)), none⟩,
               ⟨(some 29), .mv (.t 3), none⟩,
               ⟨(some 30), .bin .quo (.t 29) (.c (.i .i64 6000)), none⟩,
               ⟨(some 31), .bin .rem (.t 30) (.c (.i .i64 8)), none⟩,
               ⟨(some 32), .bin .add (.c (.i .i64 1)) (.t 31), none⟩,
               ⟨(some 33), .build 16 [.i .i64 0, .i .i64 0, .i .i64 0, .i .i64 0, .i .i64 0, .agg 13 [.i .u64 0, .i .u64 0]] [(0, (.c (.i .i64 1))), (1, (.t 22)), (2, (.t 25)), (3, (.t 28)), (4, (.t 32))], none⟩,
               ⟨none, .store 16 (.t 2) (.t 33), none⟩] [2])
           .ret)
          (.seq (.reg [⟨(some 35), .bin .eql (.t 18) (.c (.i .i64 2)), none⟩,
               ⟨(some 34), .mv (.t 35), none⟩] [2, 3, 4, 18, 34])
           (.cond (.t 34)
            (.seq (.reg [⟨(some 36), .mv (.t 4), none⟩,
                 ⟨(some 37), .build 16 [.i .i64 0, .i .i64 0, .i .i64 0, .i .i64 0, .i .i64 0, .agg 13 [.i .u64 0, .i .u64 0]] [(0, (.c (.i .i64 2))), (1, (.t 36))], none⟩,
                 ⟨none, .store 16 (.t 2) (.t 37), none⟩] [2])
             .ret)
            (.seq (.reg [⟨(some 39), .bin .eql (.t 18) (.c (.i .i64 3)), none⟩,
                 ⟨(some 38), .mv (.t 39), none⟩] [2, 3, 4, 18, 38])
             (.cond (.t 38)
              (.seq (.reg [⟨(some 40), .mv (.t 4), none⟩,
                   ⟨(some 41), .build 16 [.i .i64 0, .i .i64 0, .i .i64 0, .i .i64 0, .i .i64 0, .agg 13 [.i .u64 0, .i .u64 0]] [(0, (.c (.i .i64 3))), (1, (.t 40))], none⟩,
                   ⟨none, .store 16 (.t 2) (.t 41), none⟩] [2])
               .ret)
              (.seq (.reg [⟨(some 43), .bin .eql (.t 18) (.c (.i .i64 4)), none⟩,
                   ⟨(some 42), .mv (.t 43), none⟩] [2, 3, 4, 18, 42])
               (.cond (.t 42)
                (.seq (.reg [⟨(some 44), .mv (.t 4), none⟩,
                     ⟨(some 45), .build 16 [.i .i64 0, .i .i64 0, .i .i64 0, .i .i64 0, .i .i64 0, .agg 13 [.i .u64 0, .i .u64 0]] [(0, (.c (.i .i64 4))), (1, (.t 44))], none⟩,
                     ⟨none, .store 16 (.t 2) (.t 45), none⟩] [2])
                 .ret)
                (.seq (.reg [⟨(some 47), .bin .eql (.t 18) (.c (.i .i64 5)), none⟩,
                     ⟨(some 46), .mv (.t 47), none⟩] [2, 3, 4, 46])
                 (.cond (.t 46)
                  (.seq (.reg [⟨(some 48), .mv (.t 4), none⟩,
                       ⟨(some 49), .build 16 [.i .i64 0, .i .i64 0, .i .i64 0, .i .i64 0, .i .i64 0, .agg 13 [.i .u64 0, .i .u64 0]] [(0, (.c (.i .i64 5))), (1, (.t 48))], none⟩,
                       ⟨none, .store 16 (.t 2) (.t 49), none⟩] [2])
                   .ret)
                  .skip))))))))))))
      (.seq (.reg [⟨(some 50), .mv (.t 3), none⟩,
           ⟨(some 51), .call (.f 9) [(.t 50)], none⟩,
           ⟨(some 52), .build 16 [.i .i64 0, .i .i64 0, .i .i64 0, .i .i64 0, .i .i64 0, .agg 13 [.i .u64 0, .i .u64 0]] [(0, (.c (.i .i64 6))), (5, (.t 51))], none⟩,
           ⟨none, .store 16 (.t 2) (.t 52), none⟩] [2])
       .ret))))))⟩

/- roundhouse/roundhouseref6.Check -/
def F20 : IFn := ⟨1, [.t 2],
 (.seq (.reg [⟨(some 1), .box 16 (.t 0), none⟩,
      ⟨(some 2), .mv (.c (.i .i64 0)), none⟩] [1])
  (.seq (.drw [⟨(some 5), .fa 16 0 6 (.t 1), none⟩,
       ⟨(some 6), .load 6 (.t 5), none⟩,
       ⟨(some 7), .bin .eql (.t 6) (.c (.i .i64 1)), none⟩,
       ⟨(some 8), .fa 16 0 6 (.t 1), none⟩,
       ⟨(some 9), .load 6 (.t 8), none⟩,
       ⟨(some 10), .bin .eql (.t 9) (.c (.i .i64 6)), none⟩,
       ⟨(some 3), .mv (.t 7), none⟩,
       ⟨(some 4), .mv (.t 10), none⟩] [0, 1, 3, 0, 8, 24, 7, 127] [1, 3, 4])
   (.seq (.blk 0 (.seq (.reg [⟨(some 12), .fa 16 0 6 (.t 1), none⟩,
          ⟨(some 13), .load 6 (.t 12), none⟩,
          ⟨(some 14), .call (.f 44) [(.t 13), (.c (.i .i64 1)), (.c (.i .i64 6))], none⟩,
          ⟨(some 11), .mv (.t 14), none⟩] [1, 3, 4, 11])
      (.cond (.t 11)
       (.seq (.reg [⟨(some 2), .mv (.c (.i .i64 2)), none⟩] [2])
        .ret)
       (.seq (.reg [⟨(some 16), .fa 16 1 6 (.t 1), none⟩,
            ⟨(some 17), .load 6 (.t 16), none⟩,
            ⟨(some 18), .call (.f 44) [(.t 17), (.c (.i .i64 0)), (.c (.i .i64 63))], none⟩,
            ⟨(some 19), .mv (.t 18), none⟩,
            ⟨(some 20), .mv (.t 4), some (19, false)⟩,
            ⟨(some 21), .mv (.t 20), some (19, false)⟩,
            ⟨(some 22), .fa 16 1 6 (.t 1), some (21, true)⟩,
            ⟨(some 23), .load 6 (.t 22), some (21, true)⟩,
            ⟨(some 24), .bin .neq (.t 23) (.c (.i .i64 0)), some (21, true)⟩,
            ⟨(some 25), .pick (.t 21) (.t 24) (.c (.b false)), some (19, false)⟩,
            ⟨(some 26), .pick (.t 19) (.c (.b true)) (.t 25), none⟩,
            ⟨(some 15), .mv (.t 26), none⟩] [1, 3, 4, 15])
        (.cond (.t 15)
         (.seq (.reg [⟨(some 2), .mv (.c (.i .i64 11)), none⟩] [2])
          .ret)
         (.seq (.reg [⟨(some 28), .mv (.t 3), none⟩,
              ⟨(some 29), .mv (.t 28), none⟩,
              ⟨(some 30), .fa 16 2 6 (.t 1), some (29, true)⟩,
              ⟨(some 31), .load 6 (.t 30), some (29, true)⟩,
              ⟨(some 32), .call (.f 44) [(.t 31), (.c (.i .i64 0)), (.c (.i .i64 4294967295))], some (29, true)⟩,
              ⟨(some 33), .mv (.t 32), some (29, true)⟩,
              ⟨(some 34), .fa 16 3 6 (.t 1), some (33, false)⟩,
              ⟨(some 35), .load 6 (.t 34), some (33, false)⟩,
              ⟨(some 36), .call (.f 44) [(.t 35), (.c (.i .i64 0)), (.c (.i .i64 65535))], some (33, false)⟩,
              ⟨(some 37), .pick (.t 33) (.c (.b true)) (.t 36), some (29, true)⟩,
              ⟨(some 38), .mv (.t 37), some (29, true)⟩,
              ⟨(some 39), .fa 16 4 6 (.t 1), some (38, false)⟩,
              ⟨(some 40), .load 6 (.t 39), some (38, false)⟩,
              ⟨(some 41), .call (.f 44) [(.t 40), (.c (.i .i64 1)), (.c (.i .i64 8))], some (38, false)⟩,
              ⟨(some 42), .pick (.t 38) (.c (.b true)) (.t 41), some (29, true)⟩,
              ⟨(some 43), .pick (.t 29) (.t 42) (.c (.b false)), none⟩,
              ⟨(some 27), .mv (.t 43), none⟩] [1, 3, 4, 27])
          (.cond (.t 27)
           (.seq (.reg [⟨(some 2), .mv (.c (.i .i64 14)), none⟩] [2])
            .ret)
           (.seq (.reg [⟨(some 45), .mv (.t 3), none⟩,
                ⟨(some 46), .un .not (.t 45), none⟩,
                ⟨(some 47), .mv (.t 46), none⟩,
                ⟨(some 48), .fa 16 2 6 (.t 1), some (47, true)⟩,
                ⟨(some 49), .load 6 (.t 48), some (47, true)⟩,
                ⟨(some 50), .bin .neq (.t 49) (.c (.i .i64 0)), some (47, true)⟩,
                ⟨(some 51), .mv (.t 50), some (47, true)⟩,
                ⟨(some 52), .fa 16 3 6 (.t 1), some (51, false)⟩,
                ⟨(some 53), .load 6 (.t 52), some (51, false)⟩,
                ⟨(some 54), .bin .neq (.t 53) (.c (.i .i64 0)), some (51, false)⟩,
                ⟨(some 55), .pick (.t 51) (.c (.b true)) (.t 54), some (47, true)⟩,
                ⟨(some 56), .mv (.t 55), some (47, true)⟩,
                ⟨(some 57), .fa 16 4 6 (.t 1), some (56, false)⟩,
                ⟨(some 58), .load 6 (.t 57), some (56, false)⟩,
                ⟨(some 59), .bin .neq (.t 58) (.c (.i .i64 0)), some (56, false)⟩,
                ⟨(some 60), .pick (.t 56) (.c (.b true)) (.t 59), some (47, true)⟩,
                ⟨(some 61), .pick (.t 47) (.t 60) (.c (.b false)), none⟩,
                ⟨(some 62), .mv (.t 61), none⟩,
                ⟨(some 63), .mv (.t 4), some (62, false)⟩,
                ⟨(some 64), .un .not (.t 63), some (62, false)⟩,
                ⟨(some 65), .mv (.t 64), some (62, false)⟩,
                ⟨(some 66), .fa 16 5 13 (.t 1), some (65, true)⟩,
                ⟨(some 67), .load 13 (.t 66), some (65, true)⟩,
                ⟨(some 68), .build 13 [.i .u64 0, .i .u64 0] [], some (65, true)⟩,
                ⟨(some 69), .eqv 13 true (.t 67) (.t 68), some (65, true)⟩,
                ⟨(some 70), .pick (.t 65) (.t 69) (.c (.b false)), some (62, false)⟩,
                ⟨(some 71), .pick (.t 62) (.c (.b true)) (.t 70), none⟩,
                ⟨(some 44), .mv (.t 71), none⟩] [44])
            (.cond (.t 44)
             (.seq (.reg [⟨(some 2), .mv (.c (.i .i64 14)), none⟩] [2])
              .ret)
             .skip)))))))))
    (.seq (.reg [⟨(some 2), .mv (.c (.i .i64 0)), none⟩] [2])
     .ret))))⟩

/- roundhouse/order.Text -/
def F21 : IFn := ⟨1, [.t 2],
 (.seq (.reg [⟨(some 1), .box 16 (.t 0), none⟩,
      ⟨(some 2), .mv (.c (.s [])), none⟩] [1])
  (.seq (.seq (.reg [⟨(some 4), .load 16 (.t 1), none⟩,
        ⟨(some 5), .call (.f 34) [(.t 4)], none⟩,
        ⟨(some 6), .bin .neq (.t 5) (.c (.i .i64 0)), none⟩] [1, 6])
    (.cond (.t 6)
     (.seq (.reg [⟨(some 2), .mv (.c (.s [])), none⟩] [2])
      .ret)
     .skip))
   (.seq (.drw [⟨(some 7), .call (.f 45) [], none⟩,
        ⟨(some 8), .fa 16 0 6 (.t 1), none⟩,
        ⟨(some 9), .load 6 (.t 8), none⟩,
        ⟨(some 10), .iaL 2 (.t 7) (.t 9), none⟩,
        ⟨(some 11), .load 2 (.t 10), none⟩,
        ⟨(some 12), .bsl 19 2 (.s []) 1 [(0, (.t 11))], none⟩,
        ⟨(some 3), .mv (.t 12), none⟩] [0, 0, 2, 7, 15, 31, 63] [1, 3])
    (.seq (.seq (.reg [⟨(some 13), .fa 16 0 6 (.t 1), none⟩,
          ⟨(some 14), .load 6 (.t 13), none⟩] [1, 3, 14])
      (.blk 0 (.seq (.reg [⟨(some 22), .bin .eql (.t 14) (.c (.i .i64 6)), none⟩,
            ⟨(some 21), .mv (.t 22), none⟩] [1, 3, 14, 21])
        (.cond (.t 21)
         (.drw [⟨(some 23), .mv (.t 3), none⟩,
             ⟨(some 24), .fa 16 5 13 (.t 1), none⟩,
             ⟨(some 25), .fa 13 0 10 (.t 24), none⟩,
             ⟨(some 26), .load 10 (.t 25), none⟩,
             ⟨(some 27), .call (.f 46) [(.t 26), (.c (.i .i64 10))], none⟩,
             ⟨(some 28), .fa 16 5 13 (.t 1), none⟩,
             ⟨(some 29), .fa 13 1 10 (.t 28), none⟩,
             ⟨(some 30), .load 10 (.t 29), none⟩,
             ⟨(some 31), .call (.f 46) [(.t 30), (.c (.i .i64 10))], none⟩,
             ⟨(some 32), .bsl 19 2 (.s []) 2 [(0, (.t 27)), (1, (.t 31))], none⟩,
             ⟨(some 33), .app 19 2 16 (.t 23) (.t 32), none⟩,
             ⟨(some 3), .mv (.t 33), none⟩] [0, 0, 2, 6, 14, 0, 32, 96, 254, 510, 1023, 2047] [3])
         (.seq (.reg [⟨(some 35), .bin .eql (.t 14) (.c (.i .i64 1)), none⟩,
              ⟨(some 34), .mv (.t 35), none⟩] [1, 3, 34])
          (.cond (.t 34)
           (.drw [⟨(some 36), .mv (.t 3), none⟩,
               ⟨(some 37), .fa 16 1 6 (.t 1), none⟩,
               ⟨(some 38), .load 6 (.t 37), none⟩,
               ⟨(some 39), .call (.f 47) [(.t 38)], none⟩,
               ⟨(some 40), .fa 16 2 6 (.t 1), none⟩,
               ⟨(some 41), .load 6 (.t 40), none⟩,
               ⟨(some 42), .call (.f 47) [(.t 41)], none⟩,
               ⟨(some 43), .fa 16 3 6 (.t 1), none⟩,
               ⟨(some 44), .load 6 (.t 43), none⟩,
               ⟨(some 45), .call (.f 47) [(.t 44)], none⟩,
               ⟨(some 46), .fa 16 4 6 (.t 1), none⟩,
               ⟨(some 47), .load 6 (.t 46), none⟩,
               ⟨(some 48), .call (.f 47) [(.t 47)], none⟩,
               ⟨(some 49), .bsl 19 2 (.s []) 4 [(0, (.t 39)), (1, (.t 42)), (2, (.t 45)), (3, (.t 48))], none⟩,
               ⟨(some 50), .app 19 2 16 (.t 36) (.t 49), none⟩,
               ⟨(some 3), .mv (.t 50), none⟩] [0, 0, 2, 6, 0, 16, 62, 0, 128, 510, 0, 1024, 4094, 8190, 16383, 32767] [3])
           (.reg [⟨(some 15), .mv (.t 3), none⟩,
               ⟨(some 16), .fa 16 1 6 (.t 1), none⟩,
               ⟨(some 17), .load 6 (.t 16), none⟩,
               ⟨(some 18), .call (.f 47) [(.t 17)], none⟩,
               ⟨(some 19), .bsl 19 2 (.s []) 1 [(0, (.t 18))], none⟩,
               ⟨(some 20), .app 19 2 16 (.t 15) (.t 19), none⟩,
               ⟨(some 3), .mv (.t 20), none⟩] [3])))))))
     (.seq (.reg [⟨(some 51), .mv (.t 3), none⟩,
          ⟨(some 52), .call (.f 48) [(.t 51), (.c (.s [32]))], none⟩,
          ⟨(some 2), .mv (.t 52), none⟩] [2])
      .ret)))))⟩

/- roundhouse/order.Parse -/
def F22 : IFn := ⟨1, [.c 2 16, .t 3],
 (.seq (.reg [⟨(some 2), .box 16 (.c (.agg 16 [.i .i64 0, .i .i64 0, .i .i64 0, .i .i64 0, .i .i64 0, .agg 13 [.i .u64 0, .i .u64 0]])), none⟩,
      ⟨(some 3), .mv (.c (.b false)), none⟩] [0, 2])
  (.scope (.seq (.reg [⟨(some 13), .mv (.t 0), none⟩,
        ⟨(some 14), .call (.f 49) [(.t 13), (.c (.s [32]))], none⟩,
        ⟨(some 12), .mv (.t 14), none⟩,
        ⟨(some 15), .ext (.t 12) 0, none⟩,
        ⟨(some 16), .ext (.t 12) 1, none⟩,
        ⟨(some 17), .ext (.t 12) 2, none⟩,
        ⟨(some 4), .mv (.t 15), none⟩,
        ⟨(some 5), .mv (.t 16), none⟩,
        ⟨(some 6), .mv (.t 17), none⟩] [2, 4, 5, 6])
    (.seq (.reg [⟨(some 18), .call (.f 45) [], none⟩,
         ⟨(some 19), .mv (.t 4), none⟩,
         ⟨(some 20), .call (.f 50) [(.t 18), (.t 19)], none⟩,
         ⟨(some 21), .build 16 [.i .i64 0, .i .i64 0, .i .i64 0, .i .i64 0, .i .i64 0, .agg 13 [.i .u64 0, .i .u64 0]] [(0, (.t 20))], none⟩,
         ⟨(some 7), .box 16 (.c (.agg 16 [.i .i64 0, .i .i64 0, .i .i64 0, .i .i64 0, .i .i64 0, .agg 13 [.i .u64 0, .i .u64 0]])), none⟩,
         ⟨none, .store 16 (.t 7) (.t 21), none⟩] [2, 5, 6, 7])
     (.seq (.reg [⟨(some 8), .mv (.c (.nilsl)), none⟩] [2, 5, 6, 7, 8])
      (.seq (.blk 0 (.loop (.seq (.seq (.reg [⟨(some 22), .mv (.t 6), none⟩] [2, 5, 7, 8, 22])
           (.cond (.t 22)
            .skip
            (.exit 0)))
          (.blk 1 (.seq (.reg [⟨(some 9), .mv (.c (.s [])), none⟩] [2, 5, 7, 8])
            (.seq (.reg [⟨(some 24), .mv (.t 5), none⟩,
                 ⟨(some 25), .call (.f 49) [(.t 24), (.c (.s [32]))], none⟩,
                 ⟨(some 23), .mv (.t 25), none⟩,
                 ⟨(some 26), .ext (.t 23) 0, none⟩,
                 ⟨(some 27), .ext (.t 23) 1, none⟩,
                 ⟨(some 28), .ext (.t 23) 2, none⟩,
                 ⟨(some 9), .mv (.t 26), none⟩,
                 ⟨(some 5), .mv (.t 27), none⟩,
                 ⟨(some 6), .mv (.t 28), none⟩] [2, 5, 6, 7, 8, 9])
             (.seq (.reg [⟨(some 30), .mv (.t 9), none⟩,
                  ⟨(some 31), .call (.f 51) [(.t 30)], none⟩,
                  ⟨(some 29), .mv (.t 31), none⟩,
                  ⟨(some 32), .ext (.t 29) 0, none⟩,
                  ⟨(some 33), .ext (.t 29) 1, none⟩,
                  ⟨(some 10), .mv (.t 32), none⟩,
                  ⟨(some 11), .mv (.t 33), none⟩] [2, 5, 6, 7, 8, 10, 11])
              (.seq (.seq (.reg [⟨(some 34), .mv (.t 11), none⟩,
                    ⟨(some 35), .un .not (.t 34), none⟩] [2, 5, 6, 7, 8, 10, 35])
                (.cond (.t 35)
                 (.goto 0)
                 .skip))
               (.reg [⟨(some 36), .mv (.t 8), none⟩,
                   ⟨(some 37), .mv (.t 10), none⟩,
                   ⟨(some 38), .bsl 20 10 (.i .u64 0) 1 [(0, (.t 37))], none⟩,
                   ⟨(some 39), .app 20 10 8 (.t 36) (.t 38), none⟩,
                   ⟨(some 8), .mv (.t 39), none⟩] [2, 5, 6, 7, 8])))))))))
       (.seq (.blk 2 (.seq (.reg [⟨(some 41), .fa 16 0 6 (.t 7), none⟩,
              ⟨(some 42), .load 6 (.t 41), none⟩,
              ⟨(some 43), .bin .eql (.t 42) (.c (.i .i64 6)), none⟩,
              ⟨(some 44), .mv (.t 43), none⟩,
              ⟨(some 45), .mv (.t 8), some (44, true)⟩,
              ⟨(some 46), .lenL (.t 45), some (44, true)⟩,
              ⟨(some 47), .bin .eql (.t 46) (.c (.i .i64 2)), some (44, true)⟩,
              ⟨(some 48), .pick (.t 44) (.t 47) (.c (.b false)), none⟩,
              ⟨(some 40), .mv (.t 48), none⟩] [2, 7, 8, 40])
          (.cond (.t 40)
           (.drw [⟨(some 49), .mv (.t 8), none⟩,
               ⟨(some 50), .iaL 10 (.t 49) (.c (.i .i64 0)), none⟩,
               ⟨(some 51), .load 10 (.t 50), none⟩,
               ⟨(some 52), .mv (.t 8), none⟩,
               ⟨(some 53), .iaL 10 (.t 52) (.c (.i .i64 1)), none⟩,
               ⟨(some 54), .load 10 (.t 53), none⟩,
               ⟨(some 55), .build 13 [.i .u64 0, .i .u64 0] [(0, (.t 51)), (1, (.t 54))], none⟩,
               ⟨(some 56), .fa 16 5 13 (.t 7), none⟩,
               ⟨none, .store 13 (.t 56) (.t 55), none⟩] [0, 1, 3, 0, 8, 24, 63, 127, 255] [2, 7])
           (.seq (.drw [⟨(some 58), .fa 16 0 6 (.t 7), none⟩,
                ⟨(some 59), .load 6 (.t 58), none⟩,
                ⟨(some 60), .bin .eql (.t 59) (.c (.i .i64 1)), none⟩,
                ⟨(some 61), .mv (.t 60), none⟩,
                ⟨(some 62), .mv (.t 8), some (61, true)⟩,
                ⟨(some 63), .lenL (.t 62), some (61, true)⟩,
                ⟨(some 64), .bin .eql (.t 63) (.c (.i .i64 4)), some (61, true)⟩,
                ⟨(some 65), .pick (.t 61) (.t 64) (.c (.b false)), none⟩,
                ⟨(some 66), .mv (.t 65), none⟩,
                ⟨(some 67), .mv (.t 8), some (66, true)⟩,
                ⟨(some 68), .iaL 10 (.t 67) (.c (.i .i64 0)), some (66, true)⟩,
                ⟨(some 69), .load 10 (.t 68), some (66, true)⟩,
                ⟨(some 70), .mv (.t 8), some (66, true)⟩,
                ⟨(some 71), .iaL 10 (.t 70) (.c (.i .i64 1)), some (66, true)⟩,
                ⟨(some 72), .load 10 (.t 71), some (66, true)⟩,
                ⟨(some 73), .mv (.t 8), some (66, true)⟩,
                ⟨(some 74), .iaL 10 (.t 73) (.c (.i .i64 2)), some (66, true)⟩,
                ⟨(some 75), .load 10 (.t 74), some (66, true)⟩,
                ⟨(some 76), .mv (.t 8), some (66, true)⟩,
                ⟨(some 77), .iaL 10 (.t 76) (.c (.i .i64 3)), some (66, true)⟩,
                ⟨(some 78), .load 10 (.t 77), some (66, true)⟩,
                ⟨(some 79), .mx [(.t 69), (.t 72), (.t 75), (.t 78)], some (66, true)⟩,
                ⟨(some 80), .bin .lss (.t 79) (.c (.i .u64 4611686018427387904)), some (66, true)⟩,
                ⟨(some 81), .pick (.t 66) (.t 80) (.c (.b false)), none⟩,
                ⟨(some 57), .mv (.t 81), none⟩] [0, 1, 3, 7, 15, 31, 63, 127, 255, 511, 1023, 2047, 511, 4607, 12799, 511, 33279, 98815, 511, 262655, 786943, 2097151, 4194303, 8388607, 16777215] [2, 7, 8, 57])
            (.cond (.t 57)
             (.drw [⟨(some 82), .mv (.t 8), none⟩,
                 ⟨(some 83), .iaL 10 (.t 82) (.c (.i .i64 0)), none⟩,
                 ⟨(some 84), .load 10 (.t 83), none⟩,
                 ⟨(some 85), .cint .i64 (.t 84), none⟩,
                 ⟨(some 86), .mv (.t 8), none⟩,
                 ⟨(some 87), .iaL 10 (.t 86) (.c (.i .i64 1)), none⟩,
                 ⟨(some 88), .load 10 (.t 87), none⟩,
                 ⟨(some 89), .cint .i64 (.t 88), none⟩,
                 ⟨(some 90), .mv (.t 8), none⟩,
                 ⟨(some 91), .iaL 10 (.t 90) (.c (.i .i64 2)), none⟩,
                 ⟨(some 92), .load 10 (.t 91), none⟩,
                 ⟨(some 93), .cint .i64 (.t 92), none⟩,
                 ⟨(some 94), .mv (.t 8), none⟩,
                 ⟨(some 95), .iaL 10 (.t 94) (.c (.i .i64 3)), none⟩,
                 ⟨(some 96), .load 10 (.t 95), none⟩,
                 ⟨(some 97), .cint .i64 (.t 96), none⟩,
                 ⟨(some 98), .fa 16 1 6 (.t 7), none⟩,
                 ⟨none, .store 6 (.t 98) (.t 85), none⟩,
                 ⟨(some 99), .fa 16 2 6 (.t 7), none⟩,
                 ⟨none, .store 6 (.t 99) (.t 89), none⟩,
                 ⟨(some 100), .fa 16 3 6 (.t 7), none⟩,
                 ⟨none, .store 6 (.t 100) (.t 93), none⟩,
                 ⟨(some 101), .fa 16 4 6 (.t 7), none⟩,
                 ⟨none, .store 6 (.t 101) (.t 97), none⟩] [0, 1, 3, 7, 0, 16, 48, 112, 0, 256, 768, 1792, 0, 4096, 12288, 28672, 15, 65551, 196863, 459007, 987135, 2035711, 4194303, 8388607] [2, 7])
             (.seq (.reg [⟨(some 103), .fa 16 0 6 (.t 7), none⟩,
                  ⟨(some 104), .load 6 (.t 103), none⟩,
                  ⟨(some 105), .bin .gtr (.t 104) (.c (.i .i64 1)), none⟩,
                  ⟨(some 106), .mv (.t 105), none⟩,
                  ⟨(some 107), .fa 16 0 6 (.t 7), some (106, true)⟩,
                  ⟨(some 108), .load 6 (.t 107), some (106, true)⟩,
                  ⟨(some 109), .bin .lss (.t 108) (.c (.i .i64 6)), some (106, true)⟩,
                  ⟨(some 110), .pick (.t 106) (.t 109) (.c (.b false)), none⟩,
                  ⟨(some 111), .mv (.t 110), none⟩,
                  ⟨(some 112), .mv (.t 8), some (111, true)⟩,
                  ⟨(some 113), .lenL (.t 112), some (111, true)⟩,
                  ⟨(some 114), .bin .eql (.t 113) (.c (.i .i64 1)), some (111, true)⟩,
                  ⟨(some 115), .pick (.t 111) (.t 114) (.c (.b false)), none⟩,
                  ⟨(some 116), .mv (.t 115), none⟩,
                  ⟨(some 117), .mv (.t 8), some (116, true)⟩,
                  ⟨(some 118), .iaL 10 (.t 117) (.c (.i .i64 0)), some (116, true)⟩,
                  ⟨(some 119), .load 10 (.t 118), some (116, true)⟩,
                  ⟨(some 120), .bin .lss (.t 119) (.c (.i .u64 4611686018427387904)), some (116, true)⟩,
                  ⟨(some 121), .pick (.t 116) (.t 120) (.c (.b false)), none⟩,
                  ⟨(some 102), .mv (.t 121), none⟩] [2, 7, 8, 102])
              (.cond (.t 102)
               (.reg [⟨(some 122), .mv (.t 8), none⟩,
                   ⟨(some 123), .iaL 10 (.t 122) (.c (.i .i64 0)), none⟩,
                   ⟨(some 124), .load 10 (.t 123), none⟩,
                   ⟨(some 125), .cint .i64 (.t 124), none⟩,
                   ⟨(some 126), .fa 16 1 6 (.t 7), none⟩,
                   ⟨none, .store 6 (.t 126) (.t 125), none⟩] [2, 7])
               (.goto 0))))))))
        (.seq (.seq (.reg [⟨(some 127), .load 16 (.t 7), none⟩,
              ⟨(some 128), .call (.f 34) [(.t 127)], none⟩,
              ⟨(some 129), .bin .eql (.t 128) (.c (.i .i64 0)), none⟩] [2, 7, 129])
          (.cond (.t 129)
           (.seq (.reg [⟨(some 130), .load 16 (.t 7), none⟩,
                ⟨none, .store 16 (.t 2) (.t 130), none⟩,
                ⟨(some 3), .mv (.c (.b true)), none⟩] [2, 3])
            .ret)
           .skip))
         (.seq (.label 0)
          (.seq (.reg [⟨(some 131), .build 16 [.i .i64 0, .i .i64 0, .i .i64 0, .i .i64 0, .i .i64 0, .agg 13 [.i .u64 0, .i .u64 0]] [], none⟩,
               ⟨none, .store 16 (.t 2) (.t 131), none⟩,
               ⟨(some 3), .mv (.c (.b false)), none⟩] [2, 3])
           .ret))))))))))⟩

/- roundhouse/roundhouseref10.Text -/
def F23 : IFn := ⟨1, [.t 2],
 (.seq (.reg [⟨(some 1), .box 16 (.t 0), none⟩,
      ⟨(some 2), .mv (.c (.s [])), none⟩] [1])
  (.seq (.reg [⟨(some 6), .fa 16 0 6 (.t 1), none⟩,
       ⟨(some 7), .load 6 (.t 6), none⟩,
       ⟨(some 8), .call (.f 52) [(.t 7)], none⟩,
       ⟨(some 3), .mv (.t 8), none⟩] [1, 3])
   (.seq (.reg [⟨(some 9), .load 16 (.t 1), none⟩,
        ⟨(some 10), .call (.f 53) [(.t 9)], none⟩,
        ⟨(some 4), .mv (.t 10), none⟩] [3, 4])
    (.seq (.seq (.reg [⟨(some 5), .mv (.c (.i .i64 0)), none⟩] [3, 4, 5])
      (.blk 0 (.loop (.seq (.seq (.reg [⟨(some 11), .mv (.t 5), none⟩,
              ⟨(some 12), .mv (.t 4), none⟩,
              ⟨(some 13), .lenL (.t 12), none⟩,
              ⟨(some 14), .bin .lss (.t 11) (.t 13), none⟩] [3, 4, 5, 14])
          (.cond (.t 14)
           .skip
           (.exit 0)))
         (.seq (.blk 1 (.reg [⟨(some 17), .mv (.t 3), none⟩,
               ⟨(some 18), .bin .add (.t 17) (.c (.s [32])), none⟩,
               ⟨(some 19), .mv (.t 4), none⟩,
               ⟨(some 20), .mv (.t 5), none⟩,
               ⟨(some 21), .iaL 10 (.t 19) (.t 20), none⟩,
               ⟨(some 22), .load 10 (.t 21), none⟩,
               ⟨(some 23), .call (.f 54) [(.t 22)], none⟩,
               ⟨(some 24), .bin .add (.t 18) (.t 23), none⟩,
               ⟨(some 3), .mv (.t 24), none⟩] [3, 4, 5]))
          (.reg [⟨(some 15), .mv (.t 5), none⟩,
              ⟨(some 16), .bin .add (.t 15) (.c (.i .i64 1)), none⟩,
              ⟨(some 5), .mv (.t 16), none⟩] [3, 4, 5]))))))
     (.seq (.reg [⟨(some 25), .mv (.t 3), none⟩,
          ⟨(some 2), .mv (.t 25), none⟩] [2])
      .ret)))))⟩

/- roundhouse/roundhouseref10.Parse -/
def F25 : IFn := ⟨1, [.c 2 16, .t 3],
 (.seq (.reg [⟨(some 2), .box 16 (.c (.agg 16 [.i .i64 0, .i .i64 0, .i .i64 0, .i .i64 0, .i .i64 0, .agg 13 [.i .u64 0, .i .u64 0]])), none⟩,
      ⟨(some 3), .mv (.c (.b false)), none⟩] [0, 2])
  (.seq (.reg [⟨(some 11), .mv (.t 0), none⟩,
       ⟨(some 12), .call (.f 55) [(.t 11)], none⟩,
       ⟨(some 4), .mv (.t 12), none⟩] [2, 4])
   (.seq (.reg [⟨(some 5), .box 16 (.c (.agg 16 [.i .i64 0, .i .i64 0, .i .i64 0, .i .i64 0, .i .i64 0, .agg 13 [.i .u64 0, .i .u64 0]])), none⟩] [2, 4, 5])
    (.seq (.seq (.reg [⟨(some 6), .mv (.c (.i .i64 1)), none⟩] [2, 4, 5, 6])
      (.blk 0 (.loop (.seq (.seq (.reg [⟨(some 13), .mv (.t 6), none⟩,
              ⟨(some 14), .bin .leq (.t 13) (.c (.i .i64 6)), none⟩] [2, 4, 5, 6, 14])
          (.cond (.t 14)
           .skip
           (.exit 0)))
         (.seq (.blk 1 (.seq (.drw [⟨(some 17), .mv (.t 6), none⟩,
                ⟨(some 18), .call (.f 52) [(.t 17)], none⟩,
                ⟨(some 19), .mv (.t 4), none⟩,
                ⟨(some 20), .iaL 2 (.t 19) (.c (.i .i64 0)), none⟩,
                ⟨(some 21), .load 2 (.t 20), none⟩,
                ⟨(some 22), .bin .eql (.t 18) (.t 21), none⟩] [0, 1, 0, 4, 12, 31] [2, 4, 5, 6, 22])
            (.cond (.t 22)
             (.reg [⟨(some 23), .mv (.t 6), none⟩,
                 ⟨(some 24), .fa 16 0 6 (.t 5), none⟩,
                 ⟨none, .store 6 (.t 24) (.t 23), none⟩] [2, 4, 5, 6])
             .skip)))
          (.reg [⟨(some 15), .mv (.t 6), none⟩,
              ⟨(some 16), .bin .add (.t 15) (.c (.i .i64 1)), none⟩,
              ⟨(some 6), .mv (.t 16), none⟩] [2, 4, 5, 6]))))))
     (.seq (.seq (.reg [⟨(some 25), .fa 16 0 6 (.t 5), none⟩,
           ⟨(some 26), .load 6 (.t 25), none⟩,
           ⟨(some 27), .bin .eql (.t 26) (.c (.i .i64 0)), none⟩,
           ⟨(some 28), .mv (.t 27), none⟩,
           ⟨(some 29), .load 16 (.t 5), some (28, false)⟩,
           ⟨(some 30), .call (.f 53) [(.t 29)], some (28, false)⟩,
           ⟨(some 31), .lenL (.t 30), some (28, false)⟩,
           ⟨(some 32), .mv (.t 4), some (28, false)⟩,
           ⟨(some 33), .lenL (.t 32), some (28, false)⟩,
           ⟨(some 34), .bin .sub (.t 33) (.c (.i .i64 1)), some (28, false)⟩,
           ⟨(some 35), .bin .neq (.t 31) (.t 34), some (28, false)⟩,
           ⟨(some 36), .pick (.t 28) (.c (.b true)) (.t 35), none⟩] [2, 4, 5, 36])
       (.cond (.t 36)
        (.seq (.reg [⟨(some 37), .build 16 [.i .i64 0, .i .i64 0, .i .i64 0, .i .i64 0, .i .i64 0, .agg 13 [.i .u64 0, .i .u64 0]] [], none⟩,
             ⟨none, .store 16 (.t 2) (.t 37), none⟩,
             ⟨(some 3), .mv (.c (.b false)), none⟩] [2, 3])
         .ret)
        .skip))
      (.seq (.reg [⟨(some 7), .box 21 (.c (.agg 21 (List.replicate 4 (.i .u64 0)))), none⟩] [2, 4, 5, 7])
       (.seq (.seq (.reg [⟨(some 8), .mv (.c (.i .i64 1)), none⟩] [2, 4, 5, 7, 8])
         (.blk 2 (.loop (.seq (.seq (.reg [⟨(some 38), .mv (.t 8), none⟩,
                 ⟨(some 39), .mv (.t 4), none⟩,
                 ⟨(some 40), .lenL (.t 39), none⟩,
                 ⟨(some 41), .bin .lss (.t 38) (.t 40), none⟩] [2, 4, 5, 7, 8, 41])
             (.cond (.t 41)
              .skip
              (.exit 2)))
            (.seq (.blk 3 (.seq (.reg [⟨(some 45), .mv (.t 4), none⟩,
                   ⟨(some 46), .mv (.t 8), none⟩,
                   ⟨(some 47), .iaL 2 (.t 45) (.t 46), none⟩,
                   ⟨(some 48), .load 2 (.t 47), none⟩,
                   ⟨(some 49), .call (.f 56) [(.t 48)], none⟩,
                   ⟨(some 44), .mv (.t 49), none⟩,
                   ⟨(some 50), .ext (.t 44) 0, none⟩,
                   ⟨(some 51), .ext (.t 44) 1, none⟩,
                   ⟨(some 9), .mv (.t 50), none⟩,
                   ⟨(some 10), .mv (.t 51), none⟩] [2, 4, 5, 7, 8, 9, 10])
               (.seq (.seq (.reg [⟨(some 52), .mv (.t 10), none⟩,
                     ⟨(some 53), .un .not (.t 52), none⟩,
                     ⟨(some 54), .mv (.t 53), none⟩,
                     ⟨(some 55), .fa 16 0 6 (.t 5), some (54, false)⟩,
                     ⟨(some 56), .load 6 (.t 55), some (54, false)⟩,
                     ⟨(some 57), .bin .neq (.t 56) (.c (.i .i64 6)), some (54, false)⟩,
                     ⟨(some 58), .mv (.t 57), some (54, false)⟩,
                     ⟨(some 59), .mv (.t 9), some (58, true)⟩,
                     ⟨(some 60), .bin .geq (.t 59) (.c (.i .u64 1099511627776)), some (58, true)⟩,
                     ⟨(some 61), .pick (.t 58) (.t 60) (.c (.b false)), some (54, false)⟩,
                     ⟨(some 62), .pick (.t 54) (.c (.b true)) (.t 61), none⟩] [2, 4, 5, 7, 8, 9, 62])
                 (.cond (.t 62)
                  (.seq (.reg [⟨(some 63), .build 16 [.i .i64 0, .i .i64 0, .i .i64 0, .i .i64 0, .i .i64 0, .agg 13 [.i .u64 0, .i .u64 0]] [], none⟩,
                       ⟨none, .store 16 (.t 2) (.t 63), none⟩,
                       ⟨(some 3), .mv (.c (.b false)), none⟩] [2, 3])
                   .ret)
                  .skip))
                (.reg [⟨(some 64), .mv (.t 8), none⟩,
                    ⟨(some 65), .bin .sub (.t 64) (.c (.i .i64 1)), none⟩,
                    ⟨(some 66), .mv (.t 9), none⟩,
                    ⟨(some 67), .iaA 21 10 4 (.t 7) (.t 65), none⟩,
                    ⟨none, .store 10 (.t 67) (.t 66), none⟩] [2, 4, 5, 7, 8]))))
             (.reg [⟨(some 42), .mv (.t 8), none⟩,
                 ⟨(some 43), .bin .add (.t 42) (.c (.i .i64 1)), none⟩,
                 ⟨(some 8), .mv (.t 43), none⟩] [2, 4, 5, 7, 8]))))))
        (.seq (.seq (.reg [⟨(some 68), .fa 16 0 6 (.t 5), none⟩,
              ⟨(some 69), .load 6 (.t 68), none⟩,
              ⟨(some 70), .bin .eql (.t 69) (.c (.i .i64 6)), none⟩] [2, 5, 7, 70])
          (.cond (.t 70)
           (.reg [⟨(some 71), .iaA 21 10 4 (.t 7) (.c (.i .i64 0)), none⟩,
               ⟨(some 72), .load 10 (.t 71), none⟩,
               ⟨(some 73), .iaA 21 10 4 (.t 7) (.c (.i .i64 1)), none⟩,
               ⟨(some 74), .load 10 (.t 73), none⟩,
               ⟨(some 75), .build 13 [.i .u64 0, .i .u64 0] [(0, (.t 72)), (1, (.t 74))], none⟩,
               ⟨(some 76), .fa 16 5 13 (.t 5), none⟩,
               ⟨none, .store 13 (.t 76) (.t 75), none⟩] [2, 5])
           (.drw [⟨(some 77), .iaA 21 10 4 (.t 7) (.c (.i .i64 0)), none⟩,
               ⟨(some 78), .load 10 (.t 77), none⟩,
               ⟨(some 79), .cint .i64 (.t 78), none⟩,
               ⟨(some 80), .iaA 21 10 4 (.t 7) (.c (.i .i64 1)), none⟩,
               ⟨(some 81), .load 10 (.t 80), none⟩,
               ⟨(some 82), .cint .i64 (.t 81), none⟩,
               ⟨(some 83), .iaA 21 10 4 (.t 7) (.c (.i .i64 2)), none⟩,
               ⟨(some 84), .load 10 (.t 83), none⟩,
               ⟨(some 85), .cint .i64 (.t 84), none⟩,
               ⟨(some 86), .iaA 21 10 4 (.t 7) (.c (.i .i64 3)), none⟩,
               ⟨(some 87), .load 10 (.t 86), none⟩,
               ⟨(some 88), .cint .i64 (.t 87), none⟩,
               ⟨(some 89), .fa 16 1 6 (.t 5), none⟩,
               ⟨none, .store 6 (.t 89) (.t 79), none⟩,
               ⟨(some 90), .fa 16 2 6 (.t 5), none⟩,
               ⟨none, .store 6 (.t 90) (.t 82), none⟩,
               ⟨(some 91), .fa 16 3 6 (.t 5), none⟩,
               ⟨none, .store 6 (.t 91) (.t 85), none⟩,
               ⟨(some 92), .fa 16 4 6 (.t 5), none⟩,
               ⟨none, .store 6 (.t 92) (.t 88), none⟩] [0, 1, 3, 0, 8, 24, 0, 64, 192, 0, 512, 1536, 7, 4103, 12351, 28735, 61951, 127487, 262143, 524287] [2, 5])))
         (.seq (.seq (.reg [⟨(some 93), .load 16 (.t 5), none⟩,
               ⟨(some 94), .call (.f 20) [(.t 93)], none⟩,
               ⟨(some 95), .bin .neq (.t 94) (.c (.i .i64 0)), none⟩] [2, 5, 95])
           (.cond (.t 95)
            (.seq (.reg [⟨(some 96), .build 16 [.i .i64 0, .i .i64 0, .i .i64 0, .i .i64 0, .i .i64 0, .agg 13 [.i .u64 0, .i .u64 0]] [], none⟩,
                 ⟨none, .store 16 (.t 2) (.t 96), none⟩,
                 ⟨(some 3), .mv (.c (.b false)), none⟩] [2, 3])
             .ret)
            .skip))
          (.seq (.reg [⟨(some 97), .load 16 (.t 5), none⟩,
               ⟨none, .store 16 (.t 2) (.t 97), none⟩,
               ⟨(some 3), .mv (.c (.b true)), none⟩] [2, 3])
           .ret))))))))))⟩

/- roundhouse/roundhouseref6.Apply -/
def F27 : IFn := ⟨2, [.c 4 15, .t 5],
 (.seq (.reg [⟨(some 2), .box 15 (.t 0), none⟩,
      ⟨(some 3), .box 16 (.t 1), none⟩,
      ⟨(some 4), .box 15 (.c (.agg 15 [.i .i64 0, .i .i64 0, .i .i64 0, .agg 12 (List.replicate 64 (.agg 11 [.i .i64 0, .i .i64 0, .i .i64 0, .i .i64 0, .i .i64 0])), .agg 14 [.i .i64 0, .agg 13 [.i .u64 0, .i .u64 0], .agg 13 [.i .u64 0, .i .u64 0], .agg 13 [.i .u64 0, .i .u64 0]]])), none⟩,
      ⟨(some 5), .mv (.c (.i .i64 0)), none⟩] [2, 3, 4])
  (.seq (.seq (.reg [⟨(some 8), .load 16 (.t 3), none⟩,
        ⟨(some 9), .call (.f 20) [(.t 8)], none⟩,
        ⟨(some 6), .mv (.t 9), none⟩] [2, 3, 4, 6])
    (.seq (.reg [⟨(some 10), .mv (.t 6), none⟩,
         ⟨(some 11), .bin .neq (.t 10) (.c (.i .i64 0)), none⟩] [2, 3, 4, 6, 11])
     (.cond (.t 11)
      (.seq (.reg [⟨(some 12), .build 15 [.i .i64 0, .i .i64 0, .i .i64 0, .agg 12 (List.replicate 64 (.agg 11 [.i .i64 0, .i .i64 0, .i .i64 0, .i .i64 0, .i .i64 0])), .agg 14 [.i .i64 0, .agg 13 [.i .u64 0, .i .u64 0], .agg 13 [.i .u64 0, .i .u64 0], .agg 13 [.i .u64 0, .i .u64 0]]] [], none⟩,
           ⟨(some 13), .mv (.t 6), none⟩,
           ⟨none, .store 15 (.t 4) (.t 12), none⟩,
           ⟨(some 5), .mv (.t 13), none⟩] [4, 5])
       .ret)
      .skip)))
   (.seq (.seq (.reg [⟨(some 14), .load 15 (.t 2), none⟩,
         ⟨(some 15), .load 16 (.t 3), none⟩,
         ⟨(some 16), .call (.f 57) [(.t 14), (.t 15)], none⟩] [2, 3, 4, 16])
     (.cond (.t 16)
      (.seq (.reg [⟨(some 17), .build 15 [.i .i64 0, .i .i64 0, .i .i64 0, .agg 12 (List.replicate 64 (.agg 11 [.i .i64 0, .i .i64 0, .i .i64 0, .i .i64 0, .i .i64 0])), .agg 14 [.i .i64 0, .agg 13 [.i .u64 0, .i .u64 0], .agg 13 [.i .u64 0, .i .u64 0], .agg 13 [.i .u64 0, .i .u64 0]]] [], none⟩,
           ⟨none, .store 15 (.t 4) (.t 17), none⟩,
           ⟨(some 5), .mv (.c (.i .i64 12)), none⟩] [4, 5])
       .ret)
      .skip))
    (.seq (.seq (.drw [⟨(some 18), .fa 16 0 6 (.t 3), none⟩,
          ⟨(some 19), .load 6 (.t 18), none⟩,
          ⟨(some 20), .bin .eql (.t 19) (.c (.i .i64 5)), none⟩,
          ⟨(some 21), .mv (.t 20), none⟩,
          ⟨(some 22), .fa 15 4 14 (.t 2), some (21, true)⟩,
          ⟨(some 23), .fa 14 0 6 (.t 22), some (21, true)⟩,
          ⟨(some 24), .load 6 (.t 23), some (21, true)⟩,
          ⟨(some 25), .fa 16 1 6 (.t 3), some (21, true)⟩,
          ⟨(some 26), .load 6 (.t 25), some (21, true)⟩,
          ⟨(some 27), .fa 15 3 12 (.t 2), some (21, true)⟩,
          ⟨(some 28), .iaA 12 11 64 (.t 27) (.t 26), some (21, true)⟩,
          ⟨(some 29), .fa 11 4 6 (.t 28), some (21, true)⟩,
          ⟨(some 30), .load 6 (.t 29), some (21, true)⟩,
          ⟨(some 31), .bin .add (.t 30) (.c (.i .i64 3)), some (21, true)⟩,
          ⟨(some 32), .bin .lss (.t 24) (.t 31), some (21, true)⟩,
          ⟨(some 33), .pick (.t 21) (.t 32) (.c (.b false)), none⟩] [0, 1, 3, 7, 15, 31, 63, 15, 143, 15, 911, 1935, 3983, 8079, 16383, 32767] [2, 3, 4, 33])
      (.cond (.t 33)
       (.seq (.reg [⟨(some 34), .build 15 [.i .i64 0, .i .i64 0, .i .i64 0, .agg 12 (List.replicate 64 (.agg 11 [.i .i64 0, .i .i64 0, .i .i64 0, .i .i64 0, .i .i64 0])), .agg 14 [.i .i64 0, .agg 13 [.i .u64 0, .i .u64 0], .agg 13 [.i .u64 0, .i .u64 0], .agg 13 [.i .u64 0, .i .u64 0]]] [], none⟩,
            ⟨none, .store 15 (.t 4) (.t 34), none⟩,
            ⟨(some 5), .mv (.c (.i .i64 13)), none⟩] [4, 5])
        .ret)
       .skip))
     (.seq (.reg [⟨(some 35), .fa 15 0 6 (.t 2), none⟩,
          ⟨(some 36), .load 6 (.t 35), none⟩,
          ⟨(some 37), .bin .add (.t 36) (.c (.i .i64 1)), none⟩,
          ⟨(some 38), .fa 15 0 6 (.t 2), none⟩,
          ⟨none, .store 6 (.t 38) (.t 37), none⟩] [2, 3, 4])
      (.seq (.reg [⟨(some 39), .fa 16 1 6 (.t 3), none⟩,
           ⟨(some 40), .load 6 (.t 39), none⟩,
           ⟨(some 41), .fa 15 3 12 (.t 2), none⟩,
           ⟨(some 42), .iaA 12 11 64 (.t 41) (.t 40), none⟩,
           ⟨(some 43), .load 11 (.t 42), none⟩,
           ⟨(some 7), .box 11 (.c (.agg 11 [.i .i64 0, .i .i64 0, .i .i64 0, .i .i64 0, .i .i64 0])), none⟩,
           ⟨none, .store 11 (.t 7) (.t 43), none⟩] [2, 3, 4, 7])
       (.seq (.seq (.reg [⟨(some 44), .fa 16 0 6 (.t 3), none⟩,
             ⟨(some 45), .load 6 (.t 44), none⟩] [2, 3, 4, 7, 45])
         (.blk 0 (.seq (.reg [⟨(some 47), .bin .eql (.t 45) (.c (.i .i64 1)), none⟩,
               ⟨(some 46), .mv (.t 47), none⟩] [2, 3, 4, 7, 45, 46])
           (.cond (.t 46)
            (.reg [⟨(some 48), .fa 16 2 6 (.t 3), none⟩,
                ⟨(some 49), .load 6 (.t 48), none⟩,
                ⟨(some 50), .fa 16 3 6 (.t 3), none⟩,
                ⟨(some 51), .load 6 (.t 50), none⟩,
                ⟨(some 52), .fa 16 4 6 (.t 3), none⟩,
                ⟨(some 53), .load 6 (.t 52), none⟩,
                ⟨(some 54), .build 11 [.i .i64 0, .i .i64 0, .i .i64 0, .i .i64 0, .i .i64 0] [(0, (.c (.i .i64 1))), (1, (.t 49)), (2, (.t 51)), (3, (.t 53))], none⟩,
                ⟨none, .store 11 (.t 7) (.t 54), none⟩] [2, 3, 4, 7])
            (.seq (.reg [⟨(some 56), .bin .eql (.t 45) (.c (.i .i64 2)), none⟩,
                 ⟨(some 55), .mv (.t 56), none⟩] [2, 3, 4, 7, 45, 55])
             (.cond (.t 55)
              (.reg [⟨(some 57), .fa 11 0 6 (.t 7), none⟩,
                  ⟨none, .store 6 (.t 57) (.c (.i .i64 2)), none⟩] [2, 3, 4, 7])
              (.seq (.reg [⟨(some 59), .bin .eql (.t 45) (.c (.i .i64 3)), none⟩,
                   ⟨(some 58), .mv (.t 59), none⟩] [2, 3, 4, 7, 45, 58])
               (.cond (.t 58)
                (.reg [⟨(some 60), .fa 11 0 6 (.t 7), none⟩,
                    ⟨none, .store 6 (.t 60) (.c (.i .i64 3)), none⟩] [2, 3, 4, 7])
                (.seq (.reg [⟨(some 62), .bin .eql (.t 45) (.c (.i .i64 4)), none⟩,
                     ⟨(some 61), .mv (.t 62), none⟩] [2, 3, 4, 7, 45, 61])
                 (.cond (.t 61)
                  (.drw [⟨(some 63), .fa 15 4 14 (.t 2), none⟩,
                      ⟨(some 64), .fa 14 0 6 (.t 63), none⟩,
                      ⟨(some 65), .load 6 (.t 64), none⟩,
                      ⟨(some 66), .fa 11 0 6 (.t 7), none⟩,
                      ⟨none, .store 6 (.t 66) (.c (.i .i64 4)), none⟩,
                      ⟨(some 67), .fa 11 4 6 (.t 7), none⟩,
                      ⟨none, .store 6 (.t 67) (.t 65), none⟩] [0, 1, 3, 0, 8, 31, 63] [2, 3, 4, 7])
                  (.seq (.reg [⟨(some 69), .bin .eql (.t 45) (.c (.i .i64 5)), none⟩,
                       ⟨(some 68), .mv (.t 69), none⟩] [2, 3, 4, 7, 45, 68])
                   (.cond (.t 68)
                    (.reg [⟨(some 70), .build 11 [.i .i64 0, .i .i64 0, .i .i64 0, .i .i64 0, .i .i64 0] [], none⟩,
                        ⟨none, .store 11 (.t 7) (.t 70), none⟩] [2, 3, 4, 7])
                    (.seq (.reg [⟨(some 72), .bin .eql (.t 45) (.c (.i .i64 6)), none⟩,
                         ⟨(some 71), .mv (.t 72), none⟩] [2, 3, 4, 7, 71])
                     (.cond (.t 71)
                      (.reg [⟨(some 73), .fa 15 4 14 (.t 2), none⟩,
                          ⟨(some 74), .load 14 (.t 73), none⟩,
                          ⟨(some 75), .fa 16 5 13 (.t 3), none⟩,
                          ⟨(some 76), .load 13 (.t 75), none⟩,
                          ⟨(some 77), .call (.f 58) [(.t 74), (.t 76)], none⟩,
                          ⟨(some 78), .fa 15 4 14 (.t 2), none⟩,
                          ⟨none, .store 14 (.t 78) (.t 77), none⟩] [2, 3, 4, 7])
                      .skip))))))))))))))
        (.seq (.reg [⟨(some 79), .fa 16 1 6 (.t 3), none⟩,
             ⟨(some 80), .load 6 (.t 79), none⟩,
             ⟨(some 81), .load 11 (.t 7), none⟩,
             ⟨(some 82), .fa 15 3 12 (.t 2), none⟩,
             ⟨(some 83), .iaA 12 11 64 (.t 82) (.t 80), none⟩,
             ⟨none, .store 11 (.t 83) (.t 81), none⟩] [2, 4])
         (.seq (.reg [⟨(some 84), .load 15 (.t 2), none⟩,
              ⟨none, .store 15 (.t 4) (.t 84), none⟩,
              ⟨(some 5), .mv (.c (.i .i64 0)), none⟩] [4, 5])
          .ret)))))))))⟩

/- roundhouse/roundhouseref6.New -/
def F33 : IFn := ⟨4, [.c 8 15, .t 9],
 (.seq (.reg [⟨(some 6), .box 13 (.t 2), none⟩,
      ⟨(some 7), .box 13 (.t 3), none⟩,
      ⟨(some 8), .box 15 (.c (.agg 15 [.i .i64 0, .i .i64 0, .i .i64 0, .agg 12 (List.replicate 64 (.agg 11 [.i .i64 0, .i .i64 0, .i .i64 0, .i .i64 0, .i .i64 0])), .agg 14 [.i .i64 0, .agg 13 [.i .u64 0, .i .u64 0], .agg 13 [.i .u64 0, .i .u64 0], .agg 13 [.i .u64 0, .i .u64 0]]])), none⟩,
      ⟨(some 9), .mv (.c (.i .i64 0)), none⟩] [0, 1, 6, 7, 8])
  (.seq (.seq (.reg [⟨(some 10), .mv (.t 0), none⟩,
        ⟨(some 11), .call (.f 44) [(.t 10), (.c (.i .i64 0)), (.c (.i .i64 4294967295))], none⟩,
        ⟨(some 12), .mv (.t 11), none⟩,
        ⟨(some 13), .mv (.t 1), some (12, false)⟩,
        ⟨(some 14), .call (.f 44) [(.t 13), (.c (.i .i64 0)), (.c (.i .i64 65535))], some (12, false)⟩,
        ⟨(some 15), .pick (.t 12) (.c (.b true)) (.t 14), none⟩] [0, 1, 6, 7, 8, 15])
    (.cond (.t 15)
     (.seq (.reg [⟨(some 16), .build 15 [.i .i64 0, .i .i64 0, .i .i64 0, .agg 12 (List.replicate 64 (.agg 11 [.i .i64 0, .i .i64 0, .i .i64 0, .i .i64 0, .i .i64 0])), .agg 14 [.i .i64 0, .agg 13 [.i .u64 0, .i .u64 0], .agg 13 [.i .u64 0, .i .u64 0], .agg 13 [.i .u64 0, .i .u64 0]]] [], none⟩,
          ⟨none, .store 15 (.t 8) (.t 16), none⟩,
          ⟨(some 9), .mv (.c (.i .i64 14)), none⟩] [8, 9])
      .ret)
     .skip))
   (.seq (.reg [⟨(some 17), .mv (.t 0), none⟩,
        ⟨(some 18), .mv (.t 1), none⟩,
        ⟨(some 19), .build 13 [.i .u64 0, .i .u64 0] [], none⟩,
        ⟨(some 20), .load 13 (.t 6), none⟩,
        ⟨(some 21), .load 13 (.t 7), none⟩,
        ⟨(some 22), .bsl 22 13 (.agg 13 [.i .u64 0, .i .u64 0]) 3 [(0, (.t 19)), (1, (.t 20)), (2, (.t 21))], none⟩,
        ⟨(some 23), .call (.f 59) [(.c (.i .i64 1)), (.t 22)], none⟩,
        ⟨(some 24), .build 15 [.i .i64 0, .i .i64 0, .i .i64 0, .agg 12 (List.replicate 64 (.agg 11 [.i .i64 0, .i .i64 0, .i .i64 0, .i .i64 0, .i .i64 0])), .agg 14 [.i .i64 0, .agg 13 [.i .u64 0, .i .u64 0], .agg 13 [.i .u64 0, .i .u64 0], .agg 13 [.i .u64 0, .i .u64 0]]] [(1, (.t 17)), (2, (.t 18)), (4, (.t 23))], none⟩,
        ⟨none, .store 15 (.t 8) (.t 24), none⟩,
        ⟨(some 9), .mv (.c (.i .i64 0)), none⟩] [8, 9])
    .ret)))⟩

/- roundhouse/pool.Check -/
def F34 : IFn := ⟨1, [.t 2],
 (.seq (.reg [⟨(some 1), .box 16 (.t 0), none⟩,
      ⟨(some 2), .mv (.c (.i .i64 0)), none⟩] [1])
  (.seq (.blk 0 (.seq (.reg [⟨(some 5), .fa 16 0 6 (.t 1), none⟩,
         ⟨(some 6), .load 6 (.t 5), none⟩,
         ⟨(some 7), .bin .lss (.t 6) (.c (.i .i64 1)), none⟩,
         ⟨(some 8), .mv (.t 7), none⟩,
         ⟨(some 9), .fa 16 0 6 (.t 1), some (8, false)⟩,
         ⟨(some 10), .load 6 (.t 9), some (8, false)⟩,
         ⟨(some 11), .bin .gtr (.t 10) (.c (.i .i64 6)), some (8, false)⟩,
         ⟨(some 12), .pick (.t 8) (.c (.b true)) (.t 11), none⟩,
         ⟨(some 4), .mv (.t 12), none⟩] [1, 4])
     (.cond (.t 4)
      (.seq (.reg [⟨(some 2), .mv (.c (.i .i64 2)), none⟩] [2])
       .ret)
      (.seq (.reg [⟨(some 14), .fa 16 1 6 (.t 1), none⟩,
           ⟨(some 15), .load 6 (.t 14), none⟩,
           ⟨(some 16), .bin .lss (.t 15) (.c (.i .i64 0)), none⟩,
           ⟨(some 17), .mv (.t 16), none⟩,
           ⟨(some 18), .fa 16 1 6 (.t 1), some (17, false)⟩,
           ⟨(some 19), .load 6 (.t 18), some (17, false)⟩,
           ⟨(some 20), .bin .geq (.t 19) (.c (.i .i64 64)), some (17, false)⟩,
           ⟨(some 21), .pick (.t 17) (.c (.b true)) (.t 20), none⟩,
           ⟨(some 22), .mv (.t 21), none⟩,
           ⟨(some 23), .fa 16 0 6 (.t 1), some (22, false)⟩,
           ⟨(some 24), .load 6 (.t 23), some (22, false)⟩,
           ⟨(some 25), .bin .eql (.t 24) (.c (.i .i64 6)), some (22, false)⟩,
           ⟨(some 26), .mv (.t 25), some (22, false)⟩,
           ⟨(some 27), .fa 16 1 6 (.t 1), some (26, true)⟩,
           ⟨(some 28), .load 6 (.t 27), some (26, true)⟩,
           ⟨(some 29), .bin .neq (.t 28) (.c (.i .i64 0)), some (26, true)⟩,
           ⟨(some 30), .pick (.t 26) (.t 29) (.c (.b false)), some (22, false)⟩,
           ⟨(some 31), .pick (.t 22) (.c (.b true)) (.t 30), none⟩,
           ⟨(some 13), .mv (.t 31), none⟩] [1, 13])
       (.cond (.t 13)
        (.seq (.reg [⟨(some 2), .mv (.c (.i .i64 11)), none⟩] [2])
         .ret)
        .skip)))))
   (.seq (.reg [⟨(some 32), .load 16 (.t 1), none⟩,
        ⟨(some 3), .box 16 (.c (.agg 16 [.i .i64 0, .i .i64 0, .i .i64 0, .i .i64 0, .i .i64 0, .agg 13 [.i .u64 0, .i .u64 0]])), none⟩,
        ⟨none, .store 16 (.t 3) (.t 32), none⟩] [1, 3])
    (.seq (.reg [⟨(some 33), .fa 16 0 6 (.t 3), none⟩,
         ⟨none, .store 6 (.t 33) (.c (.i .i64 0)), none⟩,
         ⟨(some 34), .fa 16 1 6 (.t 3), none⟩,
         ⟨none, .store 6 (.t 34) (.c (.i .i64 0)), none⟩] [1, 3])
     (.seq (.seq (.reg [⟨(some 35), .fa 16 0 6 (.t 1), none⟩,
           ⟨(some 36), .load 6 (.t 35), none⟩] [1, 3, 36])
       (.blk 1 (.seq (.reg [⟨(some 38), .bin .eql (.t 36) (.c (.i .i64 1)), none⟩,
             ⟨(some 37), .mv (.t 38), none⟩] [1, 3, 36, 37])
         (.cond (.t 37)
          (.seq (.seq (.reg [⟨(some 39), .fa 16 2 6 (.t 1), none⟩,
                ⟨(some 40), .load 6 (.t 39), none⟩,
                ⟨(some 41), .fa 16 3 6 (.t 1), none⟩,
                ⟨(some 42), .load 6 (.t 41), none⟩,
                ⟨(some 43), .call (.f 60) [(.t 40), (.t 42)], none⟩,
                ⟨(some 44), .un .not (.t 43), none⟩,
                ⟨(some 45), .mv (.t 44), none⟩,
                ⟨(some 46), .fa 16 4 6 (.t 1), some (45, false)⟩,
                ⟨(some 47), .load 6 (.t 46), some (45, false)⟩,
                ⟨(some 48), .bin .lss (.t 47) (.c (.i .i64 1)), some (45, false)⟩,
                ⟨(some 49), .pick (.t 45) (.c (.b true)) (.t 48), none⟩,
                ⟨(some 50), .mv (.t 49), none⟩,
                ⟨(some 51), .fa 16 4 6 (.t 1), some (50, false)⟩,
                ⟨(some 52), .load 6 (.t 51), some (50, false)⟩,
                ⟨(some 53), .bin .gtr (.t 52) (.c (.i .i64 8)), some (50, false)⟩,
                ⟨(some 54), .pick (.t 50) (.c (.b true)) (.t 53), none⟩] [3, 54])
            (.cond (.t 54)
             (.seq (.reg [⟨(some 2), .mv (.c (.i .i64 14)), none⟩] [2])
              .ret)
             .skip))
           (.reg [⟨(some 55), .fa 16 2 6 (.t 3), none⟩,
               ⟨none, .store 6 (.t 55) (.c (.i .i64 0)), none⟩,
               ⟨(some 56), .fa 16 3 6 (.t 3), none⟩,
               ⟨none, .store 6 (.t 56) (.c (.i .i64 0)), none⟩,
               ⟨(some 57), .fa 16 4 6 (.t 3), none⟩,
               ⟨none, .store 6 (.t 57) (.c (.i .i64 0)), none⟩] [3]))
          (.seq (.reg [⟨(some 59), .bin .eql (.t 36) (.c (.i .i64 6)), none⟩,
               ⟨(some 58), .mv (.t 59), none⟩] [3, 58])
           (.cond (.t 58)
            (.reg [⟨(some 60), .build 13 [.i .u64 0, .i .u64 0] [], none⟩,
                ⟨(some 61), .fa 16 5 13 (.t 3), none⟩,
                ⟨none, .store 13 (.t 61) (.t 60), none⟩] [3])
            .skip))))))
      (.seq (.seq (.reg [⟨(some 62), .load 16 (.t 3), none⟩,
            ⟨(some 63), .build 16 [.i .i64 0, .i .i64 0, .i .i64 0, .i .i64 0, .i .i64 0, .agg 13 [.i .u64 0, .i .u64 0]] [], none⟩,
            ⟨(some 64), .eqv 16 true (.t 62) (.t 63), none⟩] [64])
        (.cond (.t 64)
         (.seq (.reg [⟨(some 2), .mv (.c (.i .i64 14)), none⟩] [2])
          .ret)
         .skip))
       (.seq (.reg [⟨(some 2), .mv (.c (.i .i64 0)), none⟩] [2])
        .ret)))))))⟩

/- slices.ContainsFunc[[]roundhouse/api.Slot,roundhouse/api.Slot] -/
def F36 : IFn := ⟨2, [.t 4],
 (.seq (.reg [⟨(some 4), .mv (.c (.b false)), none⟩] [0, 1])
  (.seq (.reg [⟨(some 5), .mv (.t 0), none⟩,
       ⟨(some 6), .mv (.t 1), none⟩,
       ⟨(some 7), .call (.f 37) [(.t 5), (.t 6)], none⟩,
       ⟨(some 8), .bin .geq (.t 7) (.c (.i .i64 0)), none⟩,
       ⟨(some 4), .mv (.t 8), none⟩] [4])
   .ret))⟩

/- roundhouse/order.Add_1 -/
def F35 : IFn := ⟨3, [.t 4],
 (.seq (.reg [⟨(some 3), .box 11 (.t 0), none⟩,
      ⟨(some 4), .mv (.c (.b false)), none⟩] [1, 2, 3])
  (.seq (.reg [⟨(some 5), .fa 11 0 6 (.t 3), none⟩,
       ⟨(some 6), .load 6 (.t 5), none⟩,
       ⟨(some 7), .bin .neq (.t 6) (.c (.i .i64 0)), none⟩,
       ⟨(some 8), .mv (.t 7), none⟩,
       ⟨(some 9), .fa 11 1 6 (.t 3), some (8, true)⟩,
       ⟨(some 10), .load 6 (.t 9), some (8, true)⟩,
       ⟨(some 11), .load 6 (.t 1), some (8, true)⟩,
       ⟨(some 12), .bin .eql (.t 10) (.t 11), some (8, true)⟩,
       ⟨(some 13), .pick (.t 8) (.t 12) (.c (.b false)), none⟩,
       ⟨(some 14), .mv (.t 13), none⟩,
       ⟨(some 15), .fa 11 2 6 (.t 3), some (14, true)⟩,
       ⟨(some 16), .load 6 (.t 15), some (14, true)⟩,
       ⟨(some 17), .load 6 (.t 2), some (14, true)⟩,
       ⟨(some 18), .bin .eql (.t 16) (.t 17), some (14, true)⟩,
       ⟨(some 19), .pick (.t 14) (.t 18) (.c (.b false)), none⟩,
       ⟨(some 4), .mv (.t 19), none⟩] [4])
   .ret))⟩

/- slices.IndexFunc[[]roundhouse/api.Slot,roundhouse/api.Slot] -/
def F37 : IFn := ⟨2, [.t 4],
 (.seq (.reg [⟨(some 4), .mv (.c (.i .i64 0)), none⟩] [0, 1])
  (.seq (.seq (.reg [⟨(some 6), .mv (.t 0), none⟩,
        ⟨(some 7), .lenL (.t 6), none⟩,
        ⟨(some 8), .mv (.c (.i .i64 0)), none⟩] [0, 1, 7, 8])
    (.blk 0 (.loop (.seq (.reg [⟨(some 9), .bin .lss (.t 8) (.t 7), none⟩] [0, 1, 7, 8, 9])
       (.seq (.cond (.t 9)
         .skip
         (.exit 0))
        (.seq (.blk 1 (.seq (.reg [⟨(some 10), .mv (.t 8), none⟩,
               ⟨(some 5), .mv (.t 10), none⟩] [0, 1, 5, 7, 8])
           (.seq (.reg [⟨(some 11), .mv (.t 1), none⟩,
                ⟨(some 12), .mv (.t 0), none⟩,
                ⟨(some 13), .mv (.t 5), none⟩,
                ⟨(some 14), .iaL 11 (.t 12) (.t 13), none⟩,
                ⟨(some 15), .load 11 (.t 14), none⟩,
                ⟨(some 16), .call (.t 11) [(.t 15)], none⟩] [0, 1, 5, 7, 8, 16])
            (.cond (.t 16)
             (.seq (.reg [⟨(some 17), .mv (.t 5), none⟩,
                  ⟨(some 4), .mv (.t 17), none⟩] [4])
              .ret)
             .skip))))
         (.reg [⟨(some 18), .bin .add (.t 8) (.c (.i .i64 1)), none⟩,
             ⟨(some 8), .mv (.t 18), none⟩] [0, 1, 7, 8])))))))
   (.seq (.reg [⟨(some 4), .mv (.c (.i .i64 (-1))), none⟩] [4])
    .ret)))⟩

/- roundhouse/order.Add_2 -/
def F38 : IFn := ⟨1, [.t 2],
 (.seq (.reg [⟨(some 1), .box 11 (.t 0), none⟩,
      ⟨(some 2), .mv (.c (.b false)), none⟩] [1])
  (.seq (.reg [⟨(some 3), .fa 11 0 6 (.t 1), none⟩,
       ⟨(some 4), .load 6 (.t 3), none⟩,
       ⟨(some 5), .bin .eql (.t 4) (.c (.i .i64 0)), none⟩,
       ⟨(some 2), .mv (.t 5), none⟩] [2])
   .ret))⟩

/- roundhouse/roundhouseref6.Held -/
def F39 : IFn := ⟨3, [.t 6],
 (.seq (.reg [⟨(some 3), .box 15 (.t 0), none⟩,
      ⟨(some 6), .mv (.c (.b false)), none⟩] [1, 2, 3])
  (.seq (.seq (.reg [⟨(some 7), .mv (.c (.i .i64 0)), none⟩] [1, 2, 3, 7])
    (.blk 0 (.loop (.seq (.seq (.reg [⟨(some 9), .mv (.t 7), none⟩,
            ⟨(some 10), .bin .lss (.t 9) (.c (.i .i64 64)), none⟩] [1, 2, 3, 7, 10])
        (.cond (.t 10)
         .skip
         (.exit 0)))
       (.seq (.blk 1 (.seq (.reg [⟨(some 13), .mv (.t 7), none⟩,
              ⟨(some 14), .fa 15 3 12 (.t 3), none⟩,
              ⟨(some 15), .iaA 12 11 64 (.t 14) (.t 13), none⟩,
              ⟨(some 16), .load 11 (.t 15), none⟩,
              ⟨(some 8), .box 11 (.c (.agg 11 [.i .i64 0, .i .i64 0, .i .i64 0, .i .i64 0, .i .i64 0])), none⟩,
              ⟨none, .store 11 (.t 8) (.t 16), none⟩] [1, 2, 3, 7, 8])
          (.seq (.reg [⟨(some 17), .fa 11 0 6 (.t 8), none⟩,
               ⟨(some 18), .load 6 (.t 17), none⟩,
               ⟨(some 19), .bin .neq (.t 18) (.c (.i .i64 0)), none⟩,
               ⟨(some 20), .mv (.t 19), none⟩,
               ⟨(some 21), .fa 11 1 6 (.t 8), some (20, true)⟩,
               ⟨(some 22), .load 6 (.t 21), some (20, true)⟩,
               ⟨(some 23), .mv (.t 1), some (20, true)⟩,
               ⟨(some 24), .bin .eql (.t 22) (.t 23), some (20, true)⟩,
               ⟨(some 25), .pick (.t 20) (.t 24) (.c (.b false)), none⟩,
               ⟨(some 26), .mv (.t 25), none⟩,
               ⟨(some 27), .fa 11 2 6 (.t 8), some (26, true)⟩,
               ⟨(some 28), .load 6 (.t 27), some (26, true)⟩,
               ⟨(some 29), .mv (.t 2), some (26, true)⟩,
               ⟨(some 30), .bin .eql (.t 28) (.t 29), some (26, true)⟩,
               ⟨(some 31), .pick (.t 26) (.t 30) (.c (.b false)), none⟩] [1, 2, 3, 7, 31])
           (.cond (.t 31)
            (.seq (.reg [⟨(some 6), .mv (.c (.b true)), none⟩] [6])
             .ret)
            .skip))))
        (.reg [⟨(some 11), .mv (.t 7), none⟩,
            ⟨(some 12), .bin .add (.t 11) (.c (.i .i64 1)), none⟩,
            ⟨(some 7), .mv (.t 12), none⟩] [1, 2, 3, 7]))))))
   (.seq (.reg [⟨(some 32), .fa 15 1 6 (.t 3), none⟩,
        ⟨(some 33), .load 6 (.t 32), none⟩,
        ⟨(some 34), .mv (.t 1), none⟩,
        ⟨(some 35), .bin .eql (.t 33) (.t 34), none⟩,
        ⟨(some 36), .mv (.t 35), none⟩,
        ⟨(some 37), .fa 15 2 6 (.t 3), some (36, true)⟩,
        ⟨(some 38), .load 6 (.t 37), some (36, true)⟩,
        ⟨(some 39), .mv (.t 2), some (36, true)⟩,
        ⟨(some 40), .bin .eql (.t 38) (.t 39), some (36, true)⟩,
        ⟨(some 41), .pick (.t 36) (.t 40) (.c (.b false)), none⟩,
        ⟨(some 6), .mv (.t 41), none⟩] [6])
    .ret)))⟩

/- roundhouse/pool.Find -/
def F40 : IFn := ⟨3, [.t 6, .t 7],
 (.seq (.reg [⟨(some 3), .box 15 (.t 0), none⟩,
      ⟨(some 6), .mv (.c (.i .i64 0)), none⟩,
      ⟨(some 7), .mv (.c (.b false)), none⟩] [1, 2, 3])
  (.seq (.seq (.reg [⟨(some 10), .fa 15 3 12 (.t 3), none⟩,
        ⟨(some 11), .load 12 (.t 10), none⟩,
        ⟨(some 12), .mv (.c (.i .i64 0)), none⟩] [1, 2, 11, 12])
    (.blk 0 (.loop (.seq (.reg [⟨(some 13), .bin .lss (.t 12) (.c (.i .i64 64)), none⟩] [1, 2, 11, 12, 13])
       (.seq (.cond (.t 13)
         .skip
         (.exit 0))
        (.seq (.blk 1 (.seq (.reg [⟨(some 14), .mv (.t 12), none⟩,
               ⟨(some 15), .ixA 12 64 (.t 11) (.t 12), none⟩,
               ⟨(some 9), .box 11 (.c (.agg 11 [.i .i64 0, .i .i64 0, .i .i64 0, .i .i64 0, .i .i64 0])), none⟩,
               ⟨(some 8), .mv (.t 14), none⟩,
               ⟨none, .store 11 (.t 9) (.t 15), none⟩] [1, 2, 8, 9, 11, 12])
           (.seq (.reg [⟨(some 16), .load 11 (.t 9), none⟩,
                ⟨(some 17), .bsl 23 6 (.i .i64 0) 2 [(0, (.c (.i .i64 0))), (1, (.c (.i .i64 4)))], none⟩,
                ⟨(some 18), .call (.f 61) [(.t 16), (.t 17)], none⟩,
                ⟨(some 19), .un .not (.t 18), none⟩,
                ⟨(some 20), .mv (.t 19), none⟩,
                ⟨(some 21), .fa 11 1 6 (.t 9), some (20, true)⟩,
                ⟨(some 22), .load 6 (.t 21), some (20, true)⟩,
                ⟨(some 23), .fa 11 2 6 (.t 9), some (20, true)⟩,
                ⟨(some 24), .load 6 (.t 23), some (20, true)⟩,
                ⟨(some 25), .build 24 [.i .i64 0, .i .i64 0] [(0, (.t 22)), (1, (.t 24))], some (20, true)⟩,
                ⟨(some 26), .mv (.t 1), some (20, true)⟩,
                ⟨(some 27), .mv (.t 2), some (20, true)⟩,
                ⟨(some 28), .build 24 [.i .i64 0, .i .i64 0] [(0, (.t 26)), (1, (.t 27))], some (20, true)⟩,
                ⟨(some 29), .eqv 24 false (.t 25) (.t 28), some (20, true)⟩,
                ⟨(some 30), .pick (.t 20) (.t 29) (.c (.b false)), none⟩] [1, 2, 8, 11, 12, 30])
            (.cond (.t 30)
             (.seq (.reg [⟨(some 31), .mv (.t 8), none⟩,
                  ⟨(some 6), .mv (.t 31), none⟩,
                  ⟨(some 7), .mv (.c (.b true)), none⟩] [6, 7])
              .ret)
             .skip))))
         (.reg [⟨(some 32), .bin .add (.t 12) (.c (.i .i64 1)), none⟩,
             ⟨(some 12), .mv (.t 32), none⟩] [1, 2, 11, 12])))))))
   (.seq (.reg [⟨(some 6), .mv (.c (.i .i64 0)), none⟩,
        ⟨(some 7), .mv (.c (.b false)), none⟩] [6, 7])
    .ret)))⟩

/- slices.Clip[[]roundhouse/api.Entry,roundhouse/api.Entry] -/
def F41 : IFn := ⟨1, [.t 2],
 (.seq (.reg [⟨(some 2), .mv (.c (.nilsl)), none⟩] [0])
  (.seq (.reg [⟨(some 3), .mv (.t 0), none⟩,
       ⟨(some 4), .mv (.t 0), none⟩,
       ⟨(some 5), .lenL (.t 4), none⟩,
       ⟨(some 6), .mv (.t 0), none⟩,
       ⟨(some 7), .lenL (.t 6), none⟩,
       ⟨(some 8), .slL 16 (.t 3) none (some (.t 5)) (some (.t 7)), none⟩,
       ⟨(some 2), .mv (.t 8), none⟩] [2])
   .ret))⟩

/- roundhouse/roundhouseref6.Takes -/
def F42 : IFn := ⟨1, [.t 2],
 (.seq (.reg [⟨(some 1), .box 11 (.t 0), none⟩,
      ⟨(some 2), .mv (.c (.b false)), none⟩] [1])
  (.seq (.reg [⟨(some 3), .fa 11 0 6 (.t 1), none⟩,
       ⟨(some 4), .load 6 (.t 3), none⟩,
       ⟨(some 5), .bin .eql (.t 4) (.c (.i .i64 1)), none⟩,
       ⟨(some 6), .mv (.t 5), none⟩,
       ⟨(some 7), .fa 11 0 6 (.t 1), some (6, false)⟩,
       ⟨(some 8), .load 6 (.t 7), some (6, false)⟩,
       ⟨(some 9), .bin .eql (.t 8) (.c (.i .i64 2)), some (6, false)⟩,
       ⟨(some 10), .pick (.t 6) (.c (.b true)) (.t 9), none⟩,
       ⟨(some 11), .mv (.t 10), none⟩,
       ⟨(some 12), .fa 11 0 6 (.t 1), some (11, false)⟩,
       ⟨(some 13), .load 6 (.t 12), some (11, false)⟩,
       ⟨(some 14), .bin .eql (.t 13) (.c (.i .i64 3)), some (11, false)⟩,
       ⟨(some 15), .pick (.t 11) (.c (.b true)) (.t 14), none⟩,
       ⟨(some 2), .mv (.t 15), none⟩] [2])
   .ret))⟩

/- roundhouse/roundhouselaw6.within -/
def F43 : IFn := ⟨2, [.t 4],
 (.seq (.reg [⟨(some 4), .mv (.c (.i .i64 0)), none⟩] [0, 1])
  (.seq (.reg [⟨(some 6), .mv (.t 0), none⟩,
       ⟨(some 7), .mv (.t 1), none⟩,
       ⟨(some 8), .bin .rem (.t 6) (.t 7), none⟩,
       ⟨(some 5), .mv (.t 8), none⟩] [1, 5])
   (.seq (.seq (.reg [⟨(some 9), .mv (.t 5), none⟩,
         ⟨(some 10), .bin .lss (.t 9) (.c (.i .i64 0)), none⟩] [1, 5, 10])
     (.cond (.t 10)
      (.reg [⟨(some 11), .mv (.t 5), none⟩,
          ⟨(some 12), .mv (.t 1), none⟩,
          ⟨(some 13), .bin .add (.t 11) (.t 12), none⟩,
          ⟨(some 5), .mv (.t 13), none⟩] [5])
      .skip))
    (.seq (.reg [⟨(some 14), .mv (.t 5), none⟩,
         ⟨(some 4), .mv (.t 14), none⟩] [4])
     .ret))))⟩

/- roundhouse/roundhouseref6.out -/
def F44 : IFn := ⟨3, [.t 6],
 (.seq (.reg [⟨(some 6), .mv (.c (.b false)), none⟩] [0, 1, 2])
  (.seq (.reg [⟨(some 7), .mv (.t 0), none⟩,
       ⟨(some 8), .mv (.t 1), none⟩,
       ⟨(some 9), .bin .lss (.t 7) (.t 8), none⟩,
       ⟨(some 10), .mv (.t 9), none⟩,
       ⟨(some 11), .mv (.t 0), some (10, false)⟩,
       ⟨(some 12), .mv (.t 2), some (10, false)⟩,
       ⟨(some 13), .bin .gtr (.t 11) (.t 12), some (10, false)⟩,
       ⟨(some 14), .pick (.t 10) (.c (.b true)) (.t 13), none⟩,
       ⟨(some 6), .mv (.t 14), none⟩] [6])
   .ret))⟩

/- roundhouse/order.words -/
def F45 : IFn := ⟨0, [.t 0],
 (.seq (.reg [⟨(some 0), .mv (.c (.nilsl)), none⟩] [])
  (.seq (.reg [⟨(some 1), .bsl 19 2 (.s []) 7 [(0, (.c (.s []))), (1, (.c (.s [98, 105, 110, 100]))), (2, (.c (.s [111, 112, 101, 110]))), (3, (.c (.s [100, 114, 97, 105, 110]))), (4, (.c (.s [115, 104, 117, 116]))), (5, (.c (.s [102, 114, 101, 101]))), (6, (.c (.s [114, 111, 116, 97, 116, 101])))], none⟩,
       ⟨(some 0), .mv (.t 1), none⟩] [0])
   .ret))⟩

/- strconv.FormatUint -/
def F46 : IFn := ⟨2, [.t 4],
 (.seq (.reg [⟨(some 4), .mv (.c (.s [])), none⟩] [0, 1])
  (.seq (.reg [⟨(some 5), .mv (.t 0), none⟩,
       ⟨(some 6), .mv (.t 1), none⟩,
       ⟨(some 7), .call (.f 65) [(.t 5), (.t 6)], none⟩,
       ⟨(some 4), .mv (.t 7), none⟩] [4])
   .ret))⟩

/- strconv.Itoa -/
def F47 : IFn := ⟨1, [.t 2],
 (.seq (.reg [⟨(some 2), .mv (.c (.s [])), none⟩] [0])
  (.seq (.reg [⟨(some 3), .mv (.t 0), none⟩,
       ⟨(some 4), .call (.f 66) [(.t 3)], none⟩,
       ⟨(some 2), .mv (.t 4), none⟩] [2])
   .ret))⟩

/- strings.Join -/
def F48 : IFn := ⟨2, [.t 4],
 (.seq (.reg [⟨(some 4), .mv (.c (.s [])), none⟩] [0, 1])
  (.seq (.seq (.reg [⟨(some 11), .mv (.t 0), none⟩,
        ⟨(some 12), .lenL (.t 11), none⟩] [0, 1, 12])
    (.blk 0 (.seq (.reg [⟨(some 14), .bin .eql (.t 12) (.c (.i .i64 0)), none⟩,
          ⟨(some 13), .mv (.t 14), none⟩] [0, 1, 12, 13])
      (.cond (.t 13)
       (.seq (.reg [⟨(some 4), .mv (.c (.s [])), none⟩] [4])
        .ret)
       (.seq (.reg [⟨(some 16), .bin .eql (.t 12) (.c (.i .i64 1)), none⟩,
            ⟨(some 15), .mv (.t 16), none⟩] [0, 1, 15])
        (.cond (.t 15)
         (.seq (.reg [⟨(some 17), .mv (.t 0), none⟩,
              ⟨(some 18), .iaL 2 (.t 17) (.c (.i .i64 0)), none⟩,
              ⟨(some 19), .load 2 (.t 18), none⟩,
              ⟨(some 4), .mv (.t 19), none⟩] [4])
          .ret)
         .skip))))))
   (.seq (.reg [⟨(some 5), .mv (.c (.i .i64 0)), none⟩] [0, 1, 5])
    (.seq (.seq (.reg [⟨(some 20), .mv (.t 1), none⟩,
          ⟨(some 21), .lenS (.t 20), none⟩,
          ⟨(some 22), .bin .gtr (.t 21) (.c (.i .i64 0)), none⟩] [0, 1, 5, 22])
      (.cond (.t 22)
       (.seq (.seq (.reg [⟨(some 23), .mv (.t 1), none⟩,
             ⟨(some 24), .lenS (.t 23), none⟩,
             ⟨(some 25), .mv (.t 0), none⟩,
             ⟨(some 26), .lenL (.t 25), none⟩,
             ⟨(some 27), .bin .sub (.t 26) (.c (.i .i64 1)), none⟩,
             ⟨(some 28), .bin .quo (.c (.i .i64 9223372036854775807)) (.t 27), none⟩,
             ⟨(some 29), .bin .geq (.t 24) (.t 28), none⟩] [0, 1, 5, 29])
         (.cond (.t 29)
          (.reg [⟨(some 30), .ifc 0 (.c (.s [115, 116, 114, 105, 110, 103, 115, 58, 32, 74, 111, 105, 110, 32, 111, 117, 116, 112, 117, 116, 32, 108, 101, 110, 103, 116, 104, 32, 111, 118, 101, 114, 102, 108, 111, 119])), none⟩,
              ⟨none, .no, none⟩] [0, 1, 5])
          .skip))
        (.reg [⟨(some 31), .mv (.t 5), none⟩,
            ⟨(some 32), .mv (.t 1), none⟩,
            ⟨(some 33), .lenS (.t 32), none⟩,
            ⟨(some 34), .mv (.t 0), none⟩,
            ⟨(some 35), .lenL (.t 34), none⟩,
            ⟨(some 36), .bin .sub (.t 35) (.c (.i .i64 1)), none⟩,
            ⟨(some 37), .bin .mul (.t 33) (.t 36), none⟩,
            ⟨(some 38), .bin .add (.t 31) (.t 37), none⟩,
            ⟨(some 5), .mv (.t 38), none⟩] [0, 1, 5]))
       .skip))
     (.seq (.seq (.reg [⟨(some 39), .mv (.t 0), none⟩,
           ⟨(some 40), .lenL (.t 39), none⟩,
           ⟨(some 41), .mv (.c (.i .i64 0)), none⟩] [0, 1, 5, 39, 40, 41])
       (.blk 1 (.loop (.seq (.reg [⟨(some 42), .bin .lss (.t 41) (.t 40), none⟩] [0, 1, 5, 39, 40, 41, 42])
          (.seq (.cond (.t 42)
            .skip
            (.exit 1))
           (.seq (.blk 2 (.seq (.reg [⟨(some 43), .iaL 2 (.t 39) (.t 41), none⟩,
                  ⟨(some 44), .load 2 (.t 43), none⟩,
                  ⟨(some 7), .mv (.t 44), none⟩] [0, 1, 5, 7, 39, 40, 41])
              (.seq (.seq (.reg [⟨(some 45), .mv (.t 7), none⟩,
                    ⟨(some 46), .lenS (.t 45), none⟩,
                    ⟨(some 47), .mv (.t 5), none⟩,
                    ⟨(some 48), .bin .sub (.c (.i .i64 9223372036854775807)) (.t 47), none⟩,
                    ⟨(some 49), .bin .gtr (.t 46) (.t 48), none⟩] [0, 1, 5, 7, 39, 40, 41, 49])
                (.cond (.t 49)
                 (.reg [⟨(some 50), .ifc 0 (.c (.s [115, 116, 114, 105, 110, 103, 115, 58, 32, 74, 111, 105, 110, 32, 111, 117, 116, 112, 117, 116, 32, 108, 101, 110, 103, 116, 104, 32, 111, 118, 101, 114, 102, 108, 111, 119])), none⟩,
                     ⟨none, .no, none⟩] [0, 1, 5, 7, 39, 40, 41])
                 .skip))
               (.reg [⟨(some 51), .mv (.t 5), none⟩,
                   ⟨(some 52), .mv (.t 7), none⟩,
                   ⟨(some 53), .lenS (.t 52), none⟩,
                   ⟨(some 54), .bin .add (.t 51) (.t 53), none⟩,
                   ⟨(some 5), .mv (.t 54), none⟩] [0, 1, 5, 39, 40, 41]))))
            (.reg [⟨(some 55), .bin .add (.t 41) (.c (.i .i64 1)), none⟩,
                ⟨(some 41), .mv (.t 55), none⟩] [0, 1, 5, 39, 40, 41])))))))
      (.seq (.reg [⟨(some 8), .box 26 (.c (.agg 26 [.nilp, .nilsl])), none⟩] [0, 1, 5, 8])
       (.seq (.reg [⟨(some 56), .mv (.t 5), none⟩,
            ⟨(some 57), .call (.f 67) [(.t 8), (.t 56)], none⟩] [0, 1, 8])
        (.seq (.reg [⟨(some 58), .mv (.t 0), none⟩,
             ⟨(some 59), .iaL 2 (.t 58) (.c (.i .i64 0)), none⟩,
             ⟨(some 60), .load 2 (.t 59), none⟩,
             ⟨(some 61), .call (.f 68) [(.t 8), (.t 60)], none⟩] [0, 1, 8])
         (.seq (.seq (.reg [⟨(some 62), .mv (.t 0), none⟩,
               ⟨(some 63), .slL 2 (.t 62) (some (.c (.i .i64 1))) none none, none⟩,
               ⟨(some 64), .lenL (.t 63), none⟩,
               ⟨(some 65), .mv (.c (.i .i64 0)), none⟩] [1, 8, 63, 64, 65])
           (.blk 3 (.loop (.seq (.reg [⟨(some 66), .bin .lss (.t 65) (.t 64), none⟩] [1, 8, 63, 64, 65, 66])
              (.seq (.cond (.t 66)
                .skip
                (.exit 3))
               (.seq (.blk 4 (.seq (.reg [⟨(some 67), .iaL 2 (.t 63) (.t 65), none⟩,
                      ⟨(some 68), .load 2 (.t 67), none⟩,
                      ⟨(some 10), .mv (.t 68), none⟩] [1, 8, 10, 63, 64, 65])
                  (.seq (.reg [⟨(some 69), .mv (.t 1), none⟩,
                       ⟨(some 70), .call (.f 68) [(.t 8), (.t 69)], none⟩] [1, 8, 10, 63, 64, 65])
                   (.reg [⟨(some 71), .mv (.t 10), none⟩,
                       ⟨(some 72), .call (.f 68) [(.t 8), (.t 71)], none⟩] [1, 8, 63, 64, 65]))))
                (.reg [⟨(some 73), .bin .add (.t 65) (.c (.i .i64 1)), none⟩,
                    ⟨(some 65), .mv (.t 73), none⟩] [1, 8, 63, 64, 65])))))))
          (.seq (.reg [⟨(some 74), .call (.f 69) [(.t 8)], none⟩,
               ⟨(some 4), .mv (.t 74), none⟩] [4])
           .ret))))))))))⟩

/- strings.Cut -/
def F49 : IFn := ⟨2, [.t 4, .t 5, .t 6],
 (.seq (.reg [⟨(some 4), .mv (.c (.s [])), none⟩,
      ⟨(some 5), .mv (.c (.s [])), none⟩,
      ⟨(some 6), .mv (.c (.b false)), none⟩] [0, 1])
  (.seq (.reg [⟨(some 7), .mv (.t 0), none⟩,
       ⟨(some 8), .mv (.t 1), none⟩,
       ⟨(some 9), .call (.f 70) [(.t 7), (.t 8)], none⟩,
       ⟨(some 10), .ext (.t 9) 0, none⟩,
       ⟨(some 11), .ext (.t 9) 1, none⟩,
       ⟨(some 12), .ext (.t 9) 2, none⟩,
       ⟨(some 4), .mv (.t 10), none⟩,
       ⟨(some 5), .mv (.t 11), none⟩,
       ⟨(some 6), .mv (.t 12), none⟩] [4, 5, 6])
   .ret))⟩

/- slices.Index[[]string,string] -/
def F50 : IFn := ⟨2, [.t 4],
 (.seq (.reg [⟨(some 4), .mv (.c (.i .i64 0)), none⟩] [0, 1])
  (.seq (.seq (.reg [⟨(some 6), .mv (.t 0), none⟩,
        ⟨(some 7), .lenL (.t 6), none⟩,
        ⟨(some 8), .mv (.c (.i .i64 0)), none⟩] [0, 1, 7, 8])
    (.blk 0 (.loop (.seq (.reg [⟨(some 9), .bin .lss (.t 8) (.t 7), none⟩] [0, 1, 7, 8, 9])
       (.seq (.cond (.t 9)
         .skip
         (.exit 0))
        (.seq (.blk 1 (.seq (.reg [⟨(some 10), .mv (.t 8), none⟩,
               ⟨(some 5), .mv (.t 10), none⟩] [0, 1, 5, 7, 8])
           (.seq (.reg [⟨(some 11), .mv (.t 1), none⟩,
                ⟨(some 12), .mv (.t 0), none⟩,
                ⟨(some 13), .mv (.t 5), none⟩,
                ⟨(some 14), .iaL 2 (.t 12) (.t 13), none⟩,
                ⟨(some 15), .load 2 (.t 14), none⟩,
                ⟨(some 16), .bin .eql (.t 11) (.t 15), none⟩] [0, 1, 5, 7, 8, 16])
            (.cond (.t 16)
             (.seq (.reg [⟨(some 17), .mv (.t 5), none⟩,
                  ⟨(some 4), .mv (.t 17), none⟩] [4])
              .ret)
             .skip))))
         (.reg [⟨(some 18), .bin .add (.t 8) (.c (.i .i64 1)), none⟩,
             ⟨(some 8), .mv (.t 18), none⟩] [0, 1, 7, 8])))))))
   (.seq (.reg [⟨(some 4), .mv (.c (.i .i64 (-1))), none⟩] [4])
    .ret)))⟩

/- roundhouse/order.number -/
def F51 : IFn := ⟨1, [.t 2, .t 3],
 (.seq (.reg [⟨(some 2), .mv (.c (.i .u64 0)), none⟩,
      ⟨(some 3), .mv (.c (.b false)), none⟩] [0])
  (.seq (.seq (.reg [⟨(some 6), .mv (.t 0), none⟩,
        ⟨(some 7), .bin .eql (.t 6) (.c (.s [])), none⟩,
        ⟨(some 8), .mv (.t 7), none⟩,
        ⟨(some 9), .mv (.t 0), some (8, false)⟩,
        ⟨(some 10), .call (.f 62) [(.t 9), (.f 63)], some (8, false)⟩,
        ⟨(some 11), .bin .neq (.t 10) (.c (.s [])), some (8, false)⟩,
        ⟨(some 12), .pick (.t 8) (.c (.b true)) (.t 11), none⟩,
        ⟨(some 13), .mv (.t 12), none⟩,
        ⟨(some 14), .mv (.t 0), some (13, false)⟩,
        ⟨(some 15), .lenS (.t 14), some (13, false)⟩,
        ⟨(some 16), .bin .gtr (.t 15) (.c (.i .i64 1)), some (13, false)⟩,
        ⟨(some 17), .mv (.t 16), some (13, false)⟩,
        ⟨(some 18), .mv (.t 0), some (17, true)⟩,
        ⟨(some 19), .ixS (.t 18) (.c (.i .i64 0)), some (17, true)⟩,
        ⟨(some 20), .bin .eql (.t 19) (.c (.i .u8 48)), some (17, true)⟩,
        ⟨(some 21), .pick (.t 17) (.t 20) (.c (.b false)), some (13, false)⟩,
        ⟨(some 22), .pick (.t 13) (.c (.b true)) (.t 21), none⟩] [0, 22])
    (.cond (.t 22)
     (.seq (.reg [⟨(some 2), .mv (.c (.i .u64 0)), none⟩,
          ⟨(some 3), .mv (.c (.b false)), none⟩] [2, 3])
      .ret)
     .skip))
   (.seq (.reg [⟨(some 24), .mv (.t 0), none⟩,
        ⟨(some 25), .call (.f 64) [(.t 24), (.c (.i .i64 10)), (.c (.i .i64 64))], none⟩,
        ⟨(some 23), .mv (.t 25), none⟩,
        ⟨(some 26), .ext (.t 23) 0, none⟩,
        ⟨(some 27), .ext (.t 23) 1, none⟩,
        ⟨(some 4), .mv (.t 26), none⟩,
        ⟨(some 5), .mv (.t 27), none⟩] [4, 5])
    (.seq (.drw [⟨(some 28), .mv (.t 4), none⟩,
         ⟨(some 29), .mv (.t 5), none⟩,
         ⟨(some 30), .eqn 4 false (.t 29) (.c (.nili)), none⟩,
         ⟨(some 2), .mv (.t 28), none⟩,
         ⟨(some 3), .mv (.t 30), none⟩] [0, 0, 2, 1, 15] [2, 3])
     .ret))))⟩

/- roundhouse/roundhouseref10.word -/
def F52 : IFn := ⟨1, [.t 2],
 (.seq (.reg [⟨(some 2), .mv (.c (.s [])), none⟩] [0])
  (.seq (.seq (.reg [⟨(some 3), .mv (.t 0), none⟩] [3])
    (.blk 0 (.seq (.reg [⟨(some 5), .bin .eql (.t 3) (.c (.i .i64 1)), none⟩,
          ⟨(some 4), .mv (.t 5), none⟩] [3, 4])
      (.cond (.t 4)
       (.seq (.reg [⟨(some 2), .mv (.c (.s [98, 105, 110, 100])), none⟩] [2])
        .ret)
       (.seq (.reg [⟨(some 7), .bin .eql (.t 3) (.c (.i .i64 2)), none⟩,
            ⟨(some 6), .mv (.t 7), none⟩] [3, 6])
        (.cond (.t 6)
         (.seq (.reg [⟨(some 2), .mv (.c (.s [111, 112, 101, 110])), none⟩] [2])
          .ret)
         (.seq (.reg [⟨(some 9), .bin .eql (.t 3) (.c (.i .i64 3)), none⟩,
              ⟨(some 8), .mv (.t 9), none⟩] [3, 8])
          (.cond (.t 8)
           (.seq (.reg [⟨(some 2), .mv (.c (.s [100, 114, 97, 105, 110])), none⟩] [2])
            .ret)
           (.seq (.reg [⟨(some 11), .bin .eql (.t 3) (.c (.i .i64 4)), none⟩,
                ⟨(some 10), .mv (.t 11), none⟩] [3, 10])
            (.cond (.t 10)
             (.seq (.reg [⟨(some 2), .mv (.c (.s [115, 104, 117, 116])), none⟩] [2])
              .ret)
             (.seq (.reg [⟨(some 13), .bin .eql (.t 3) (.c (.i .i64 5)), none⟩,
                  ⟨(some 12), .mv (.t 13), none⟩] [12])
              (.cond (.t 12)
               (.seq (.reg [⟨(some 2), .mv (.c (.s [102, 114, 101, 101])), none⟩] [2])
                .ret)
               .skip))))))))))))
   (.seq (.reg [⟨(some 2), .mv (.c (.s [114, 111, 116, 97, 116, 101])), none⟩] [2])
    .ret)))⟩

/- roundhouse/roundhouseref10.numbers -/
def F53 : IFn := ⟨1, [.t 2],
 (.seq (.reg [⟨(some 1), .box 16 (.t 0), none⟩,
      ⟨(some 2), .mv (.c (.nilsl)), none⟩] [1])
  (.seq (.seq (.reg [⟨(some 3), .fa 16 0 6 (.t 1), none⟩,
        ⟨(some 4), .load 6 (.t 3), none⟩] [1, 4])
    (.blk 0 (.seq (.reg [⟨(some 6), .bin .eql (.t 4) (.c (.i .i64 1)), none⟩,
          ⟨(some 5), .mv (.t 6), none⟩] [1, 4, 5])
      (.cond (.t 5)
       (.seq (.reg [⟨(some 7), .fa 16 1 6 (.t 1), none⟩,
            ⟨(some 8), .load 6 (.t 7), none⟩,
            ⟨(some 9), .cint .u64 (.t 8), none⟩,
            ⟨(some 10), .fa 16 2 6 (.t 1), none⟩,
            ⟨(some 11), .load 6 (.t 10), none⟩,
            ⟨(some 12), .cint .u64 (.t 11), none⟩,
            ⟨(some 13), .fa 16 3 6 (.t 1), none⟩,
            ⟨(some 14), .load 6 (.t 13), none⟩,
            ⟨(some 15), .cint .u64 (.t 14), none⟩,
            ⟨(some 16), .fa 16 4 6 (.t 1), none⟩,
            ⟨(some 17), .load 6 (.t 16), none⟩,
            ⟨(some 18), .cint .u64 (.t 17), none⟩,
            ⟨(some 19), .bsl 20 10 (.i .u64 0) 4 [(0, (.t 9)), (1, (.t 12)), (2, (.t 15)), (3, (.t 18))], none⟩,
            ⟨(some 2), .mv (.t 19), none⟩] [2])
        .ret)
       (.seq (.reg [⟨(some 21), .bin .eql (.t 4) (.c (.i .i64 6)), none⟩,
            ⟨(some 20), .mv (.t 21), none⟩] [1, 20])
        (.cond (.t 20)
         (.seq (.reg [⟨(some 22), .fa 16 5 13 (.t 1), none⟩,
              ⟨(some 23), .fa 13 0 10 (.t 22), none⟩,
              ⟨(some 24), .load 10 (.t 23), none⟩,
              ⟨(some 25), .fa 16 5 13 (.t 1), none⟩,
              ⟨(some 26), .fa 13 1 10 (.t 25), none⟩,
              ⟨(some 27), .load 10 (.t 26), none⟩,
              ⟨(some 28), .bsl 20 10 (.i .u64 0) 2 [(0, (.t 24)), (1, (.t 27))], none⟩,
              ⟨(some 2), .mv (.t 28), none⟩] [2])
          .ret)
         .skip))))))
   (.seq (.reg [⟨(some 29), .fa 16 1 6 (.t 1), none⟩,
        ⟨(some 30), .load 6 (.t 29), none⟩,
        ⟨(some 31), .cint .u64 (.t 30), none⟩,
        ⟨(some 32), .bsl 20 10 (.i .u64 0) 1 [(0, (.t 31))], none⟩,
        ⟨(some 2), .mv (.t 32), none⟩] [2])
    .ret)))⟩

/- roundhouse/roundhouseref10.Digits -/
def F54 : IFn := ⟨1, [.t 2],
 (.seq (.reg [⟨(some 2), .mv (.c (.s [])), none⟩] [0])
  (.seq (.seq (.reg [⟨(some 3), .mv (.t 0), none⟩,
        ⟨(some 4), .bin .geq (.t 3) (.c (.i .u64 10)), none⟩] [0, 4])
    (.cond (.t 4)
     (.seq (.reg [⟨(some 5), .mv (.t 0), none⟩,
          ⟨(some 6), .bin .quo (.t 5) (.c (.i .u64 10)), none⟩,
          ⟨(some 7), .call (.f 54) [(.t 6)], none⟩,
          ⟨(some 8), .mv (.t 0), none⟩,
          ⟨(some 9), .bin .rem (.t 8) (.c (.i .u64 10)), none⟩,
          ⟨(some 10), .call (.f 54) [(.t 9)], none⟩,
          ⟨(some 11), .bin .add (.t 7) (.t 10), none⟩,
          ⟨(some 2), .mv (.t 11), none⟩] [2])
      .ret)
     .skip))
   (.seq (.reg [⟨(some 12), .mv (.t 0), none⟩,
        ⟨(some 13), .bin .add (.c (.i .u64 48)) (.t 12), none⟩,
        ⟨(some 14), .cint .u8 (.t 13), none⟩,
        ⟨(some 15), .bsl 18 7 (.i .u8 0) 1 [(0, (.t 14))], none⟩,
        ⟨(some 16), .cbs (.t 15), none⟩,
        ⟨(some 2), .mv (.t 16), none⟩] [2])
    .ret)))⟩

/- roundhouse/roundhouseref10.Split -/
def F55 : IFn := ⟨1, [.t 2],
 (.seq (.reg [⟨(some 2), .mv (.c (.nilsl)), none⟩] [0])
  (.seq (.reg [⟨(some 3), .mv (.c (.nilsl)), none⟩] [0, 3])
   (.seq (.reg [⟨(some 4), .mv (.c (.i .i64 0)), none⟩] [0, 3, 4])
    (.seq (.seq (.reg [⟨(some 5), .mv (.c (.i .i64 0)), none⟩] [0, 3, 4, 5])
      (.blk 0 (.loop (.seq (.seq (.reg [⟨(some 6), .mv (.t 5), none⟩,
              ⟨(some 7), .mv (.t 0), none⟩,
              ⟨(some 8), .lenS (.t 7), none⟩,
              ⟨(some 9), .bin .leq (.t 6) (.t 8), none⟩] [0, 3, 4, 5, 9])
          (.cond (.t 9)
           .skip
           (.exit 0)))
         (.seq (.blk 1 (.seq (.reg [⟨(some 12), .mv (.t 5), none⟩,
                ⟨(some 13), .mv (.t 0), none⟩,
                ⟨(some 14), .lenS (.t 13), none⟩,
                ⟨(some 15), .bin .eql (.t 12) (.t 14), none⟩,
                ⟨(some 16), .mv (.t 15), none⟩,
                ⟨(some 17), .mv (.t 0), some (16, false)⟩,
                ⟨(some 18), .mv (.t 5), some (16, false)⟩,
                ⟨(some 19), .ixS (.t 17) (.t 18), some (16, false)⟩,
                ⟨(some 20), .bin .eql (.t 19) (.c (.i .u8 32)), some (16, false)⟩,
                ⟨(some 21), .pick (.t 16) (.c (.b true)) (.t 20), none⟩] [0, 3, 4, 5, 21])
            (.cond (.t 21)
             (.seq (.reg [⟨(some 22), .mv (.t 3), none⟩,
                  ⟨(some 23), .mv (.t 0), none⟩,
                  ⟨(some 24), .mv (.t 4), none⟩,
                  ⟨(some 25), .mv (.t 5), none⟩,
                  ⟨(some 26), .slS (.t 23) (some (.t 24)) (some (.t 25)), none⟩,
                  ⟨(some 27), .bsl 19 2 (.s []) 1 [(0, (.t 26))], none⟩,
                  ⟨(some 28), .app 19 2 16 (.t 22) (.t 27), none⟩,
                  ⟨(some 3), .mv (.t 28), none⟩] [0, 3, 5])
              (.reg [⟨(some 29), .mv (.t 5), none⟩,
                  ⟨(some 30), .bin .add (.t 29) (.c (.i .i64 1)), none⟩,
                  ⟨(some 4), .mv (.t 30), none⟩] [0, 3, 4, 5]))
             .skip)))
          (.reg [⟨(some 10), .mv (.t 5), none⟩,
              ⟨(some 11), .bin .add (.t 10) (.c (.i .i64 1)), none⟩,
              ⟨(some 5), .mv (.t 11), none⟩] [0, 3, 4, 5]))))))
     (.seq (.reg [⟨(some 31), .mv (.t 3), none⟩,
          ⟨(some 2), .mv (.t 31), none⟩] [2])
      .ret)))))⟩

/- roundhouse/roundhouseref10.Number -/
def F56 : IFn := ⟨1, [.t 2, .t 3],
 (.seq (.reg [⟨(some 2), .mv (.c (.i .u64 0)), none⟩,
      ⟨(some 3), .mv (.c (.b false)), none⟩] [0])
  (.seq (.reg [⟨(some 4), .mv (.c (.i .u64 0)), none⟩] [0, 4])
   (.seq (.seq (.reg [⟨(some 5), .mv (.c (.i .i64 0)), none⟩] [0, 4, 5])
     (.blk 0 (.loop (.seq (.seq (.reg [⟨(some 7), .mv (.t 5), none⟩,
             ⟨(some 8), .mv (.t 0), none⟩,
             ⟨(some 9), .lenS (.t 8), none⟩,
             ⟨(some 10), .bin .lss (.t 7) (.t 9), none⟩] [0, 4, 5, 10])
         (.cond (.t 10)
          .skip
          (.exit 0)))
        (.seq (.blk 1 (.seq (.seq (.reg [⟨(some 13), .mv (.t 0), none⟩,
                ⟨(some 14), .mv (.t 5), none⟩,
                ⟨(some 15), .ixS (.t 13) (.t 14), none⟩,
                ⟨(some 16), .bin .lss (.t 15) (.c (.i .u8 48)), none⟩,
                ⟨(some 17), .mv (.t 16), none⟩,
                ⟨(some 18), .mv (.t 0), some (17, false)⟩,
                ⟨(some 19), .mv (.t 5), some (17, false)⟩,
                ⟨(some 20), .ixS (.t 18) (.t 19), some (17, false)⟩,
                ⟨(some 21), .bin .gtr (.t 20) (.c (.i .u8 57)), some (17, false)⟩,
                ⟨(some 22), .pick (.t 17) (.c (.b true)) (.t 21), none⟩,
                ⟨(some 23), .mv (.t 22), none⟩,
                ⟨(some 24), .mv (.t 4), some (23, false)⟩,
                ⟨(some 25), .bin .gtr (.t 24) (.c (.i .u64 1844674407370955161)), some (23, false)⟩,
                ⟨(some 26), .pick (.t 23) (.c (.b true)) (.t 25), none⟩] [0, 4, 5, 26])
            (.cond (.t 26)
             (.seq (.reg [⟨(some 2), .mv (.c (.i .u64 0)), none⟩,
                  ⟨(some 3), .mv (.c (.b false)), none⟩] [2, 3])
              .ret)
             .skip))
           (.seq (.reg [⟨(some 27), .mv (.t 0), none⟩,
                ⟨(some 28), .mv (.t 5), none⟩,
                ⟨(some 29), .ixS (.t 27) (.t 28), none⟩,
                ⟨(some 30), .bin .sub (.t 29) (.c (.i .u8 48)), none⟩,
                ⟨(some 31), .cint .u64 (.t 30), none⟩,
                ⟨(some 6), .mv (.t 31), none⟩] [0, 4, 5, 6])
            (.seq (.seq (.reg [⟨(some 32), .mv (.t 4), none⟩,
                  ⟨(some 33), .bin .mul (.t 32) (.c (.i .u64 10)), none⟩,
                  ⟨(some 34), .mv (.t 6), none⟩,
                  ⟨(some 35), .bin .sub (.c (.i .u64 18446744073709551615)) (.t 34), none⟩,
                  ⟨(some 36), .bin .gtr (.t 33) (.t 35), none⟩] [0, 4, 5, 6, 36])
              (.cond (.t 36)
               (.seq (.reg [⟨(some 2), .mv (.c (.i .u64 0)), none⟩,
                    ⟨(some 3), .mv (.c (.b false)), none⟩] [2, 3])
                .ret)
               .skip))
             (.reg [⟨(some 37), .mv (.t 4), none⟩,
                 ⟨(some 38), .bin .mul (.t 37) (.c (.i .u64 10)), none⟩,
                 ⟨(some 39), .mv (.t 6), none⟩,
                 ⟨(some 40), .bin .add (.t 38) (.t 39), none⟩,
                 ⟨(some 4), .mv (.t 40), none⟩] [0, 4, 5])))))
         (.reg [⟨(some 11), .mv (.t 5), none⟩,
             ⟨(some 12), .bin .add (.t 11) (.c (.i .i64 1)), none⟩,
             ⟨(some 5), .mv (.t 12), none⟩] [0, 4, 5]))))))
    (.seq (.reg [⟨(some 41), .mv (.t 4), none⟩,
         ⟨(some 42), .mv (.t 0), none⟩,
         ⟨(some 43), .bin .neq (.t 42) (.c (.s [])), none⟩,
         ⟨(some 44), .mv (.t 43), none⟩,
         ⟨(some 45), .mv (.t 0), some (44, true)⟩,
         ⟨(some 46), .ixS (.t 45) (.c (.i .i64 0)), some (44, true)⟩,
         ⟨(some 47), .bin .neq (.t 46) (.c (.i .u8 48)), some (44, true)⟩,
         ⟨(some 48), .mv (.t 47), some (44, true)⟩,
         ⟨(some 49), .mv (.t 0), some (48, false)⟩,
         ⟨(some 50), .lenS (.t 49), some (48, false)⟩,
         ⟨(some 51), .bin .eql (.t 50) (.c (.i .i64 1)), some (48, false)⟩,
         ⟨(some 52), .pick (.t 48) (.c (.b true)) (.t 51), some (44, true)⟩,
         ⟨(some 53), .pick (.t 44) (.t 52) (.c (.b false)), none⟩,
         ⟨(some 2), .mv (.t 41), none⟩,
         ⟨(some 3), .mv (.t 53), none⟩] [2, 3])
     .ret))))⟩

/- roundhouse/roundhouseref6.bad -/
def F57 : IFn := ⟨2, [.t 4],
 (.seq (.reg [⟨(some 2), .box 15 (.t 0), none⟩,
      ⟨(some 3), .box 16 (.t 1), none⟩,
      ⟨(some 4), .mv (.c (.b false)), none⟩] [2, 3])
  (.seq (.reg [⟨(some 6), .fa 16 1 6 (.t 3), none⟩,
       ⟨(some 7), .load 6 (.t 6), none⟩,
       ⟨(some 8), .fa 15 3 12 (.t 2), none⟩,
       ⟨(some 9), .iaA 12 11 64 (.t 8) (.t 7), none⟩,
       ⟨(some 10), .fa 11 0 6 (.t 9), none⟩,
       ⟨(some 11), .load 6 (.t 10), none⟩,
       ⟨(some 5), .mv (.t 11), none⟩] [2, 3, 5])
   (.seq (.seq (.reg [⟨(some 12), .fa 16 0 6 (.t 3), none⟩,
         ⟨(some 13), .load 6 (.t 12), none⟩] [2, 3, 5, 13])
     (.blk 0 (.seq (.reg [⟨(some 15), .bin .eql (.t 13) (.c (.i .i64 1)), none⟩,
           ⟨(some 14), .mv (.t 15), none⟩] [2, 3, 5, 13, 14])
       (.cond (.t 14)
        (.seq (.reg [⟨(some 16), .mv (.t 5), none⟩,
             ⟨(some 17), .bin .neq (.t 16) (.c (.i .i64 0)), none⟩,
             ⟨(some 18), .mv (.t 17), none⟩,
             ⟨(some 19), .load 15 (.t 2), some (18, false)⟩,
             ⟨(some 20), .fa 16 2 6 (.t 3), some (18, false)⟩,
             ⟨(some 21), .load 6 (.t 20), some (18, false)⟩,
             ⟨(some 22), .fa 16 3 6 (.t 3), some (18, false)⟩,
             ⟨(some 23), .load 6 (.t 22), some (18, false)⟩,
             ⟨(some 24), .call (.f 39) [(.t 19), (.t 21), (.t 23)], some (18, false)⟩,
             ⟨(some 25), .pick (.t 18) (.c (.b true)) (.t 24), none⟩,
             ⟨(some 4), .mv (.t 25), none⟩] [4])
         .ret)
        (.seq (.seq (.reg [⟨(some 27), .bin .eql (.t 13) (.c (.i .i64 2)), none⟩,
              ⟨(some 26), .mv (.t 27), none⟩] [5, 13, 26])
          (.cond (.t 26)
           .skip
           (.reg [⟨(some 28), .bin .eql (.t 13) (.c (.i .i64 4)), none⟩,
               ⟨(some 26), .mv (.t 28), none⟩] [5, 13, 26])))
         (.cond (.t 26)
          (.seq (.reg [⟨(some 29), .mv (.t 5), none⟩,
               ⟨(some 30), .bin .neq (.t 29) (.c (.i .i64 1)), none⟩,
               ⟨(some 31), .mv (.t 30), none⟩,
               ⟨(some 32), .mv (.t 5), some (31, true)⟩,
               ⟨(some 33), .bin .neq (.t 32) (.c (.i .i64 3)), some (31, true)⟩,
               ⟨(some 34), .pick (.t 31) (.t 33) (.c (.b false)), none⟩,
               ⟨(some 4), .mv (.t 34), none⟩] [4])
           .ret)
          (.seq (.reg [⟨(some 36), .bin .eql (.t 13) (.c (.i .i64 3)), none⟩,
               ⟨(some 35), .mv (.t 36), none⟩] [5, 13, 35])
           (.cond (.t 35)
            (.seq (.reg [⟨(some 37), .mv (.t 5), none⟩,
                 ⟨(some 38), .bin .neq (.t 37) (.c (.i .i64 2)), none⟩,
                 ⟨(some 4), .mv (.t 38), none⟩] [4])
             .ret)
            (.seq (.reg [⟨(some 40), .bin .eql (.t 13) (.c (.i .i64 5)), none⟩,
                 ⟨(some 39), .mv (.t 40), none⟩] [5, 39])
             (.cond (.t 39)
              (.seq (.reg [⟨(some 41), .mv (.t 5), none⟩,
                   ⟨(some 42), .bin .neq (.t 41) (.c (.i .i64 4)), none⟩,
                   ⟨(some 4), .mv (.t 42), none⟩] [4])
               .ret)
              .skip))))))))))
    (.seq (.reg [⟨(some 4), .mv (.c (.b false)), none⟩] [4])
     .ret))))⟩

/- roundhouse/roundhouseref5.Next -/
def F58 : IFn := ⟨2, [.c 4 14],
 (.seq (.reg [⟨(some 2), .box 14 (.t 0), none⟩,
      ⟨(some 3), .box 13 (.t 1), none⟩,
      ⟨(some 4), .box 14 (.c (.agg 14 [.i .i64 0, .agg 13 [.i .u64 0, .i .u64 0], .agg 13 [.i .u64 0, .i .u64 0], .agg 13 [.i .u64 0, .i .u64 0]])), none⟩] [2, 3, 4])
  (.seq (.reg [⟨(some 5), .fa 14 0 6 (.t 2), none⟩,
       ⟨(some 6), .load 6 (.t 5), none⟩,
       ⟨(some 7), .bin .add (.t 6) (.c (.i .i64 1)), none⟩,
       ⟨(some 8), .fa 14 2 13 (.t 2), none⟩,
       ⟨(some 9), .load 13 (.t 8), none⟩,
       ⟨(some 10), .fa 14 3 13 (.t 2), none⟩,
       ⟨(some 11), .load 13 (.t 10), none⟩,
       ⟨(some 12), .load 13 (.t 3), none⟩,
       ⟨(some 13), .build 14 [.i .i64 0, .agg 13 [.i .u64 0, .i .u64 0], .agg 13 [.i .u64 0, .i .u64 0], .agg 13 [.i .u64 0, .i .u64 0]] [(0, (.t 7)), (1, (.t 9)), (2, (.t 11)), (3, (.t 12))], none⟩,
       ⟨none, .store 14 (.t 4) (.t 13), none⟩] [4])
   .ret))⟩

/- roundhouse/roundhouseref5.Ring -/
def F59 : IFn := ⟨2, [.c 4 14],
 (.seq (.reg [⟨(some 4), .box 14 (.c (.agg 14 [.i .i64 0, .agg 13 [.i .u64 0, .i .u64 0], .agg 13 [.i .u64 0, .i .u64 0], .agg 13 [.i .u64 0, .i .u64 0]])), none⟩] [0, 1, 4])
  (.seq (.reg [⟨(some 5), .box 25 (.c (.agg 25 (List.replicate 3 (.agg 13 [.i .u64 0, .i .u64 0])))), none⟩] [0, 1, 4, 5])
   (.seq (.seq (.reg [⟨(some 6), .mv (.c (.i .i64 0)), none⟩] [0, 1, 4, 5, 6])
     (.blk 0 (.loop (.seq (.seq (.reg [⟨(some 7), .mv (.t 6), none⟩,
             ⟨(some 8), .mv (.t 1), none⟩,
             ⟨(some 9), .lenL (.t 8), none⟩,
             ⟨(some 10), .bin .lss (.t 7) (.t 9), none⟩,
             ⟨(some 11), .mv (.t 10), none⟩,
             ⟨(some 12), .mv (.t 6), some (11, true)⟩,
             ⟨(some 13), .bin .lss (.t 12) (.c (.i .i64 3)), some (11, true)⟩,
             ⟨(some 14), .pick (.t 11) (.t 13) (.c (.b false)), none⟩] [0, 1, 4, 5, 6, 14])
         (.cond (.t 14)
          .skip
          (.exit 0)))
        (.seq (.blk 1 (.reg [⟨(some 17), .mv (.t 6), none⟩,
              ⟨(some 18), .mv (.t 1), none⟩,
              ⟨(some 19), .mv (.t 6), none⟩,
              ⟨(some 20), .iaL 13 (.t 18) (.t 19), none⟩,
              ⟨(some 21), .load 13 (.t 20), none⟩,
              ⟨(some 22), .iaA 25 13 3 (.t 5) (.t 17), none⟩,
              ⟨none, .store 13 (.t 22) (.t 21), none⟩] [0, 1, 4, 5, 6]))
         (.reg [⟨(some 15), .mv (.t 6), none⟩,
             ⟨(some 16), .bin .add (.t 15) (.c (.i .i64 1)), none⟩,
             ⟨(some 6), .mv (.t 16), none⟩] [0, 1, 4, 5, 6]))))))
    (.seq (.reg [⟨(some 23), .mv (.t 0), none⟩,
         ⟨(some 24), .iaA 25 13 3 (.t 5) (.c (.i .i64 0)), none⟩,
         ⟨(some 25), .load 13 (.t 24), none⟩,
         ⟨(some 26), .iaA 25 13 3 (.t 5) (.c (.i .i64 1)), none⟩,
         ⟨(some 27), .load 13 (.t 26), none⟩,
         ⟨(some 28), .iaA 25 13 3 (.t 5) (.c (.i .i64 2)), none⟩,
         ⟨(some 29), .load 13 (.t 28), none⟩,
         ⟨(some 30), .build 14 [.i .i64 0, .agg 13 [.i .u64 0, .i .u64 0], .agg 13 [.i .u64 0, .i .u64 0], .agg 13 [.i .u64 0, .i .u64 0]] [(0, (.t 23)), (1, (.t 25)), (2, (.t 27)), (3, (.t 29))], none⟩,
         ⟨none, .store 14 (.t 4) (.t 30), none⟩] [4])
     .ret))))⟩

/- roundhouse/pool.placed -/
def F60 : IFn := ⟨2, [.t 4],
 (.seq (.reg [⟨(some 4), .mv (.c (.b false)), none⟩] [0, 1])
  (.seq (.reg [⟨(some 5), .mv (.t 0), none⟩,
       ⟨(some 6), .bin .geq (.t 5) (.c (.i .i64 0)), none⟩,
       ⟨(some 7), .mv (.t 6), none⟩,
       ⟨(some 8), .mv (.t 0), some (7, true)⟩,
       ⟨(some 9), .bin .leq (.t 8) (.c (.i .i64 4294967295)), some (7, true)⟩,
       ⟨(some 10), .pick (.t 7) (.t 9) (.c (.b false)), none⟩,
       ⟨(some 11), .mv (.t 10), none⟩,
       ⟨(some 12), .mv (.t 1), some (11, true)⟩,
       ⟨(some 13), .bin .geq (.t 12) (.c (.i .i64 0)), some (11, true)⟩,
       ⟨(some 14), .pick (.t 11) (.t 13) (.c (.b false)), none⟩,
       ⟨(some 15), .mv (.t 14), none⟩,
       ⟨(some 16), .mv (.t 1), some (15, true)⟩,
       ⟨(some 17), .bin .leq (.t 16) (.c (.i .i64 65535)), some (15, true)⟩,
       ⟨(some 18), .pick (.t 15) (.t 17) (.c (.b false)), none⟩,
       ⟨(some 4), .mv (.t 18), none⟩] [4])
   .ret))⟩

/- roundhouse/pool.may -/
def F61 : IFn := ⟨2, [.t 4],
 (.seq (.reg [⟨(some 2), .box 11 (.t 0), none⟩,
      ⟨(some 4), .mv (.c (.b false)), none⟩] [1, 2])
  (.seq (.seq (.reg [⟨(some 7), .mv (.t 1), none⟩,
        ⟨(some 8), .lenL (.t 7), none⟩,
        ⟨(some 9), .mv (.c (.i .i64 0)), none⟩] [2, 7, 8, 9])
    (.blk 0 (.loop (.seq (.reg [⟨(some 10), .bin .lss (.t 9) (.t 8), none⟩] [2, 7, 8, 9, 10])
       (.seq (.cond (.t 10)
         .skip
         (.exit 0))
        (.seq (.blk 1 (.seq (.reg [⟨(some 11), .iaL 6 (.t 7) (.t 9), none⟩,
               ⟨(some 12), .load 6 (.t 11), none⟩,
               ⟨(some 6), .mv (.t 12), none⟩] [2, 6, 7, 8, 9])
           (.seq (.reg [⟨(some 13), .fa 11 0 6 (.t 2), none⟩,
                ⟨(some 14), .load 6 (.t 13), none⟩,
                ⟨(some 15), .mv (.t 6), none⟩,
                ⟨(some 16), .bin .eql (.t 14) (.t 15), none⟩] [2, 7, 8, 9, 16])
            (.cond (.t 16)
             (.seq (.reg [⟨(some 4), .mv (.c (.b true)), none⟩] [4])
              .ret)
             .skip))))
         (.reg [⟨(some 17), .bin .add (.t 9) (.c (.i .i64 1)), none⟩,
             ⟨(some 9), .mv (.t 17), none⟩] [2, 7, 8, 9])))))))
   (.seq (.reg [⟨(some 4), .mv (.c (.b false)), none⟩] [4])
    .ret)))⟩

/- internal/strconv.FormatUint -/
def F65 : IFn := ⟨2, [.t 4],
 (.seq (.reg [⟨(some 4), .mv (.c (.s [])), none⟩] [0, 1])
  (.seq (.seq (.reg [⟨(some 9), .mv (.t 1), none⟩,
        ⟨(some 10), .bin .eql (.t 9) (.c (.i .i64 10)), none⟩] [0, 1, 10])
    (.cond (.t 10)
     (.seq (.seq (.reg [⟨(some 11), .mv (.t 0), none⟩,
           ⟨(some 12), .bin .lss (.t 11) (.c (.i .u64 100)), none⟩] [0, 12])
       (.cond (.t 12)
        (.seq (.reg [⟨(some 13), .mv (.t 0), none⟩,
             ⟨(some 14), .cint .i64 (.t 13), none⟩,
             ⟨(some 15), .call (.f 71) [(.t 14)], none⟩,
             ⟨(some 4), .mv (.t 15), none⟩] [4])
         .ret)
        .skip))
      (.seq (.reg [⟨(some 5), .box 27 (.c (.agg 27 (List.replicate 24 (.i .u8 0)))), none⟩] [0, 5])
       (.seq (.reg [⟨(some 16), .mv (.t 0), none⟩,
            ⟨(some 17), .call (.f 72) [(.t 16)], none⟩,
            ⟨(some 6), .mv (.t 17), none⟩] [0, 5, 6])
        (.seq (.reg [⟨(some 18), .mv (.t 6), none⟩,
             ⟨(some 19), .slA 27 7 24 (.t 5) none (some (.t 18)) none, none⟩,
             ⟨(some 20), .mv (.t 0), none⟩,
             ⟨(some 21), .call (.f 73) [(.t 19), (.t 20)], none⟩] [5, 6])
         (.seq (.reg [⟨(some 22), .mv (.t 6), none⟩,
              ⟨(some 23), .slA 27 7 24 (.t 5) none (some (.t 22)) none, none⟩,
              ⟨(some 24), .cbs (.t 23), none⟩,
              ⟨(some 4), .mv (.t 24), none⟩] [4])
          .ret)))))
     .skip))
   (.seq (.reg [⟨(some 26), .mv (.t 0), none⟩,
        ⟨(some 27), .mv (.t 1), none⟩,
        ⟨(some 28), .call (.f 74) [(.c (.nilsl)), (.t 26), (.t 27), (.c (.b false)), (.c (.b false))], none⟩,
        ⟨(some 25), .mv (.t 28), none⟩,
        ⟨(some 29), .ext (.t 25) 0, none⟩,
        ⟨(some 30), .ext (.t 25) 1, none⟩,
        ⟨(some 7), .mv (.t 29), none⟩,
        ⟨(some 8), .mv (.t 30), none⟩] [8])
    (.seq (.reg [⟨(some 31), .mv (.t 8), none⟩,
         ⟨(some 4), .mv (.t 31), none⟩] [4])
     .ret))))⟩

/- internal/strconv.Itoa -/
def F66 : IFn := ⟨1, [.t 2],
 (.seq (.reg [⟨(some 2), .mv (.c (.s [])), none⟩] [0])
  (.seq (.reg [⟨(some 3), .mv (.t 0), none⟩,
       ⟨(some 4), .call (.f 75) [(.t 3), (.c (.i .i64 10))], none⟩,
       ⟨(some 2), .mv (.t 4), none⟩] [2])
   .ret))⟩

/- (*strings.Builder).Grow -/
def F67 : IFn := ⟨2, [],
 (.seq (.reg [⟨(some 4), .mv (.t 0), none⟩,
      ⟨(some 5), .call (.f 76) [(.t 4)], none⟩] [0, 1])
  (.seq (.seq (.reg [⟨(some 6), .mv (.t 1), none⟩,
        ⟨(some 7), .bin .lss (.t 6) (.c (.i .i64 0)), none⟩] [0, 1, 7])
    (.cond (.t 7)
     (.reg [⟨(some 8), .ifc 0 (.c (.s [115, 116, 114, 105, 110, 103, 115, 46, 66, 117, 105, 108, 100, 101, 114, 46, 71, 114, 111, 119, 58, 32, 110, 101, 103, 97, 116, 105, 118, 101, 32, 99, 111, 117, 110, 116])), none⟩,
         ⟨none, .no, none⟩] [0, 1])
     .skip))
   (.seq (.drw [⟨(some 9), .mv (.t 0), none⟩,
        ⟨(some 10), .nilck (.t 9), none⟩,
        ⟨(some 11), .fa 26 1 1 (.t 10), none⟩,
        ⟨(some 12), .load 1 (.t 11), none⟩,
        ⟨(some 13), .no, none⟩,
        ⟨(some 14), .mv (.t 0), none⟩,
        ⟨(some 15), .nilck (.t 14), none⟩,
        ⟨(some 16), .fa 26 1 1 (.t 15), none⟩,
        ⟨(some 17), .load 1 (.t 16), none⟩,
        ⟨(some 18), .lenL (.t 17), none⟩,
        ⟨(some 19), .bin .sub (.t 13) (.t 18), none⟩,
        ⟨(some 20), .mv (.t 1), none⟩,
        ⟨(some 21), .bin .lss (.t 19) (.t 20), none⟩] [0, 1, 3, 7, 15, 0, 32, 96, 224, 480, 1023, 0, 4095] [0, 1, 21])
    (.cond (.t 21)
     (.reg [⟨(some 22), .mv (.t 0), none⟩,
         ⟨(some 23), .mv (.t 1), none⟩,
         ⟨(some 24), .call (.f 77) [(.t 22), (.t 23)], none⟩] [])
     .skip))))⟩

/- (*strings.Builder).WriteString -/
def F68 : IFn := ⟨2, [.t 4, .t 5],
 (.seq (.reg [⟨(some 4), .mv (.c (.i .i64 0)), none⟩,
      ⟨(some 5), .mv (.c (.nili)), none⟩] [0, 1])
  (.seq (.reg [⟨(some 6), .mv (.t 0), none⟩,
       ⟨(some 7), .call (.f 76) [(.t 6)], none⟩] [0, 1])
   (.seq (.reg [⟨(some 8), .mv (.t 0), none⟩,
        ⟨(some 9), .mv (.t 0), none⟩,
        ⟨(some 10), .nilck (.t 9), none⟩,
        ⟨(some 11), .fa 26 1 1 (.t 10), none⟩,
        ⟨(some 12), .load 1 (.t 11), none⟩,
        ⟨(some 13), .mv (.t 1), none⟩,
        ⟨(some 14), .appS 18 1 (.t 12) (.t 13), none⟩,
        ⟨(some 15), .nilck (.t 8), none⟩,
        ⟨(some 16), .fa 26 1 1 (.t 15), none⟩,
        ⟨none, .store 1 (.t 16) (.t 14), none⟩] [1])
    (.seq (.reg [⟨(some 17), .mv (.t 1), none⟩,
         ⟨(some 18), .lenS (.t 17), none⟩,
         ⟨(some 4), .mv (.t 18), none⟩,
         ⟨(some 5), .mv (.c (.nili)), none⟩] [4, 5])
     .ret))))⟩

/- (*strings.Builder).String -/
def F69 : IFn := ⟨1, [.t 2],
 (.seq (.reg [⟨(some 2), .mv (.c (.s [])), none⟩] [0])
  (.seq (.drw [⟨(some 3), .mv (.t 0), none⟩,
       ⟨(some 4), .nilck (.t 3), none⟩,
       ⟨(some 5), .fa 26 1 1 (.t 4), none⟩,
       ⟨(some 6), .load 1 (.t 5), none⟩,
       ⟨(some 7), .no, none⟩,
       ⟨(some 8), .mv (.t 0), none⟩,
       ⟨(some 9), .nilck (.t 8), none⟩,
       ⟨(some 10), .fa 26 1 1 (.t 9), none⟩,
       ⟨(some 11), .load 1 (.t 10), none⟩,
       ⟨(some 12), .lenL (.t 11), none⟩,
       ⟨(some 13), .no, none⟩,
       ⟨(some 2), .mv (.t 13), none⟩] [0, 1, 3, 7, 15, 0, 32, 96, 224, 480, 1023, 2047] [2])
   .ret))⟩

/- internal/stringslite.Cut -/
def F70 : IFn := ⟨2, [.t 4, .t 5, .t 6],
 (.seq (.reg [⟨(some 4), .mv (.c (.s [])), none⟩,
      ⟨(some 5), .mv (.c (.s [])), none⟩,
      ⟨(some 6), .mv (.c (.b false)), none⟩] [0, 1])
  (.seq (.seq (.reg [⟨(some 8), .mv (.t 0), none⟩,
        ⟨(some 9), .mv (.t 1), none⟩,
        ⟨(some 10), .call (.f 78) [(.t 8), (.t 9)], none⟩,
        ⟨(some 7), .mv (.t 10), none⟩] [0, 1, 7])
    (.seq (.reg [⟨(some 11), .mv (.t 7), none⟩,
         ⟨(some 12), .bin .geq (.t 11) (.c (.i .i64 0)), none⟩] [0, 1, 7, 12])
     (.cond (.t 12)
      (.seq (.drw [⟨(some 13), .mv (.t 0), none⟩,
           ⟨(some 14), .mv (.t 7), none⟩,
           ⟨(some 15), .slS (.t 13) none (some (.t 14)), none⟩,
           ⟨(some 16), .mv (.t 0), none⟩,
           ⟨(some 17), .mv (.t 7), none⟩,
           ⟨(some 18), .mv (.t 1), none⟩,
           ⟨(some 19), .lenS (.t 18), none⟩,
           ⟨(some 20), .bin .add (.t 17) (.t 19), none⟩,
           ⟨(some 21), .slS (.t 16) (some (.t 20)) none, none⟩,
           ⟨(some 4), .mv (.t 15), none⟩,
           ⟨(some 5), .mv (.t 21), none⟩,
           ⟨(some 6), .mv (.c (.b true)), none⟩] [0, 0, 3, 0, 0, 0, 32, 112, 248, 7, 1023, 2047] [4, 5, 6])
       .ret)
      .skip)))
   (.seq (.reg [⟨(some 22), .mv (.t 0), none⟩,
        ⟨(some 4), .mv (.t 22), none⟩,
        ⟨(some 5), .mv (.c (.s [])), none⟩,
        ⟨(some 6), .mv (.c (.b false)), none⟩] [4, 5, 6])
    .ret)))⟩

/- strings.TrimLeftFunc -/
def F62 : IFn := ⟨2, [.t 4],
 (.seq (.reg [⟨(some 4), .mv (.c (.s [])), none⟩] [0, 1])
  (.seq (.reg [⟨(some 6), .mv (.t 0), none⟩,
       ⟨(some 7), .mv (.t 1), none⟩,
       ⟨(some 8), .call (.f 79) [(.t 6), (.t 7), (.c (.b false))], none⟩,
       ⟨(some 5), .mv (.t 8), none⟩] [0, 5])
   (.seq (.seq (.reg [⟨(some 9), .mv (.t 5), none⟩,
         ⟨(some 10), .bin .eql (.t 9) (.c (.i .i64 (-1))), none⟩] [0, 5, 10])
     (.cond (.t 10)
      (.seq (.reg [⟨(some 4), .mv (.c (.s [])), none⟩] [4])
       .ret)
      .skip))
    (.seq (.reg [⟨(some 11), .mv (.t 0), none⟩,
         ⟨(some 12), .mv (.t 5), none⟩,
         ⟨(some 13), .slS (.t 11) (some (.t 12)) none, none⟩,
         ⟨(some 4), .mv (.t 13), none⟩] [4])
     .ret))))⟩

/- roundhouse/order.digit -/
def F63 : IFn := ⟨1, [.t 2],
 (.seq (.reg [⟨(some 2), .mv (.c (.b false)), none⟩] [0])
  (.seq (.reg [⟨(some 3), .mv (.t 0), none⟩,
       ⟨(some 4), .bin .geq (.t 3) (.c (.i .i32 48)), none⟩,
       ⟨(some 5), .mv (.t 4), none⟩,
       ⟨(some 6), .mv (.t 0), some (5, true)⟩,
       ⟨(some 7), .bin .leq (.t 6) (.c (.i .i32 57)), some (5, true)⟩,
       ⟨(some 8), .pick (.t 5) (.t 7) (.c (.b false)), none⟩,
       ⟨(some 2), .mv (.t 8), none⟩] [2])
   .ret))⟩

/- strconv.ParseUint -/
def F64 : IFn := ⟨3, [.t 6, .t 7],
 (.seq (.reg [⟨(some 6), .mv (.c (.i .u64 0)), none⟩,
      ⟨(some 7), .mv (.c (.nili)), none⟩] [0, 1, 2])
  (.seq (.reg [⟨(some 11), .mv (.t 0), none⟩,
       ⟨(some 12), .mv (.t 1), none⟩,
       ⟨(some 13), .mv (.t 2), none⟩,
       ⟨(some 14), .call (.f 80) [(.t 11), (.t 12), (.t 13)], none⟩,
       ⟨(some 10), .mv (.t 14), none⟩,
       ⟨(some 15), .ext (.t 10) 0, none⟩,
       ⟨(some 16), .ext (.t 10) 1, none⟩,
       ⟨(some 8), .mv (.t 15), none⟩,
       ⟨(some 9), .mv (.t 16), none⟩] [0, 1, 2, 8, 9])
   (.seq (.seq (.reg [⟨(some 17), .mv (.t 9), none⟩,
         ⟨(some 18), .eqn 4 true (.t 17) (.c (.nili)), none⟩] [0, 1, 2, 8, 9, 18])
     (.cond (.t 18)
      (.seq (.reg [⟨(some 19), .mv (.t 8), none⟩,
           ⟨(some 20), .mv (.t 0), none⟩,
           ⟨(some 21), .mv (.t 1), none⟩,
           ⟨(some 22), .mv (.t 2), none⟩,
           ⟨(some 23), .mv (.t 9), none⟩,
           ⟨(some 24), .call (.f 81) [(.c (.s [80, 97, 114, 115, 101, 85, 105, 110, 116])), (.t 20), (.t 21), (.t 22), (.t 23)], none⟩,
           ⟨(some 6), .mv (.t 19), none⟩,
           ⟨(some 7), .mv (.t 24), none⟩] [6, 7])
       .ret)
      .skip))
    (.seq (.reg [⟨(some 25), .mv (.t 8), none⟩,
         ⟨(some 6), .mv (.t 25), none⟩,
         ⟨(some 7), .mv (.c (.nili)), none⟩] [6, 7])
     .ret))))⟩

/- internal/strconv.small -/
def F71 : IFn := ⟨1, [.t 2],
 (.seq (.reg [⟨(some 2), .mv (.c (.s [])), none⟩] [0])
  (.seq (.seq (.reg [⟨(some 3), .mv (.t 0), none⟩,
        ⟨(some 4), .bin .lss (.t 3) (.c (.i .i64 10)), none⟩] [0, 4])
    (.cond (.t 4)
     (.seq (.reg [⟨(some 5), .mv (.t 0), none⟩,
          ⟨(some 6), .mv (.t 0), none⟩,
          ⟨(some 7), .bin .add (.t 6) (.c (.i .i64 1)), none⟩,
          ⟨(some 8), .slS (.c (.s [48, 49, 50, 51, 52, 53, 54, 55, 56, 57, 97, 98, 99, 100, 101, 102, 103, 104, 105, 106, 107, 108, 109, 110, 111, 112, 113, 114, 115, 116, 117, 118, 119, 120, 121, 122])) (some (.t 5)) (some (.t 7)), none⟩,
          ⟨(some 2), .mv (.t 8), none⟩] [2])
      .ret)
     .skip))
   (.seq (.reg [⟨(some 9), .mv (.t 0), none⟩,
        ⟨(some 10), .bin .mul (.t 9) (.c (.i .i64 2)), none⟩,
        ⟨(some 11), .mv (.t 0), none⟩,
        ⟨(some 12), .bin .mul (.t 11) (.c (.i .i64 2)), none⟩,
        ⟨(some 13), .bin .add (.t 12) (.c (.i .i64 2)), none⟩,
        ⟨(some 14), .slS (.c (.s [48, 48, 48, 49, 48, 50, 48, 51, 48, 52, 48, 53, 48, 54, 48, 55, 48, 56, 48, 57, 49, 48, 49, 49, 49, 50, 49, 51, 49, 52, 49, 53, 49, 54, 49, 55, 49, 56, 49, 57, 50, 48, 50, 49, 50, 50, 50, 51, 50, 52, 50, 53, 50, 54, 50, 55, 50, 56, 50, 57, 51, 48, 51, 49, 51, 50, 51, 51, 51, 52, 51, 53, 51, 54, 51, 55, 51, 56, 51, 57, 52, 48, 52, 49, 52, 50, 52, 51, 52, 52, 52, 53, 52, 54, 52, 55, 52, 56, 52, 57, 53, 48, 53, 49, 53, 50, 53, 51, 53, 52, 53, 53, 53, 54, 53, 55, 53, 56, 53, 57, 54, 48, 54, 49, 54, 50, 54, 51, 54, 52, 54, 53, 54, 54, 54, 55, 54, 56, 54, 57, 55, 48, 55, 49, 55, 50, 55, 51, 55, 52, 55, 53, 55, 54, 55, 55, 55, 56, 55, 57, 56, 48, 56, 49, 56, 50, 56, 51, 56, 52, 56, 53, 56, 54, 56, 55, 56, 56, 56, 57, 57, 48, 57, 49, 57, 50, 57, 51, 57, 52, 57, 53, 57, 54, 57, 55, 57, 56, 57, 57])) (some (.t 10)) (some (.t 13)), none⟩,
        ⟨(some 2), .mv (.t 14), none⟩] [2])
    .ret)))⟩

/- internal/strconv.numDigits -/
def F72 : IFn := ⟨1, [.t 2],
 (.seq (.reg [⟨(some 2), .mv (.c (.i .i64 0)), none⟩] [0])
  (.seq (.reg [⟨(some 4), .mv (.t 0), none⟩,
       ⟨(some 5), .call (.f 82) [(.t 4)], none⟩,
       ⟨(some 6), .call (.f 83) [(.t 5)], none⟩,
       ⟨(some 3), .mv (.t 6), none⟩] [0, 3])
   (.seq (.reg [⟨(some 7), .mv (.t 3), none⟩,
        ⟨(some 8), .mv (.t 0), none⟩,
        ⟨(some 9), .mv (.t 3), none⟩,
        ⟨(some 10), .no, none⟩,
        ⟨(some 11), .load 10 (.t 10), none⟩,
        ⟨(some 12), .bin .geq (.t 8) (.t 11), none⟩,
        ⟨(some 13), .call (.f 84) [(.t 12)], none⟩,
        ⟨(some 14), .bin .add (.t 7) (.t 13), none⟩,
        ⟨(some 2), .mv (.t 14), none⟩] [2])
    .ret)))⟩


end Go.Rae.Order
