/- The program of the seat in a code of our own: its functions as data (that they are the program is checked elsewhere). -/
import Derived.Test.YtneeobmefioenaaGeIrA
namespace Go.Ge
set_option maxRecDepth 100000

/- glidepath/wind.RangeIn -/
def c71_s0 : IC := .ret
def c71_s1 : IC := 
  (.seq 
  (.reg [⟨some 51, (.mv (.t 8)), none, []⟩,
    ⟨some 52, (.call (.f 105) [(.t 51), (.f 106)]), none, [45]⟩,
    ⟨some 53, (.mv (.t 8)), none, []⟩,
    ⟨some 54, (.call (.f 107) [(.t 53), (.f 106)]), none, [45]⟩,
    ⟨some 55, (.bd [(.i .i64 0), (.i .i64 0), (.i .i64 0), (.i .i64 0)] [(0, 2, (.t 52)), (2, 2, (.t 54))]), none, []⟩,
    ⟨none, (.st 4 (.t 4) (.t 55)), none, []⟩,
    ⟨some 5, (.mv (.c (.i .i64 0))), none, []⟩] [4, 5] []) c71_s0)
def c71_s2 : IC := 
  (.seq 
  (.seq 
  (.reg [⟨some 47, (.mv (.t 8)), none, []⟩,
    ⟨some 48, (.len false (.t 47)), none, []⟩,
    ⟨some 49, (.bin .eql false [1] (.t 48) (.c (.i .i64 0))), none, []⟩] [4, 8, 49] [3]) 
  (.cond (.t 49) 
    (.seq 
    (.reg [⟨some 50, (.bd [(.i .i64 0), (.i .i64 0), (.i .i64 0), (.i .i64 0)] []), none, []⟩,
      ⟨none, (.st 4 (.t 4) (.t 50)), none, []⟩,
      ⟨some 5, (.mv (.c (.i .i64 12))), none, []⟩] [4, 5] [45]) .ret) .skip)) c71_s1)
def c71_b0 : IC := 
  (.seq 
  (.reg [⟨some 33, (.bin .lss false [] (.t 32) (.t 31)), none, []⟩] [3, 4, 8, 30, 31, 32, 33] []) 
  (.seq 
  (.cond (.t 33) .skip (.exit 0)) 
  (.seq 
  (.block 1 
    (.seq 
    (.reg [⟨some 34, (.ixs 4 (.t 30) (.t 32)), none, []⟩,
      ⟨some 35, (.ld 4 true (.t 34)), none, []⟩,
      ⟨some 10, (.al [(.i .i64 0), (.i .i64 0), (.i .i64 0), (.i .i64 0)]), none, []⟩,
      ⟨none, (.st 4 (.t 10) (.t 35)), none, []⟩] [3, 4, 8, 10, 30, 31, 32] []) 
    (.dreg [⟨some 36, (.mv (.t 8)), none, []⟩,
      ⟨some 37, (.ld 4 true (.t 10)), none, []⟩,
      ⟨some 38, (.call (.f 67) [(.t 37)]), none, []⟩,
      ⟨some 39, (.ld 3 true (.t 3)), none, []⟩,
      ⟨some 40, (.call (.f 68) [(.t 38), (.t 39)]), none, []⟩,
      ⟨some 41, (.fa 3 (.t 10)), none, []⟩,
      ⟨some 42, (.ld 1 false (.t 41)), none, []⟩,
      ⟨some 43, (.call (.f 70) [(.t 40), (.t 42)]), none, []⟩,
      ⟨some 44, (.bsl (.prod (.int .i64) (.int .i64)) false [(.t 43)]), none, []⟩,
      ⟨some 45, (.app (.prod (.int .i64) (.int .i64)) 2199023255552 (.t 36) (.t 44)), none, []⟩,
      ⟨some 8, (.mv (.t 45)), none, []⟩] [[], [], [1], [], [1, 2, 3], [], [5], [1, 2, 3, 4, 5, 6], [1, 2, 3, 4, 5, 6, 7], [0, 1, 2, 3, 4, 5, 6, 7, 8], [0, 1, 2, 3, 4, 5, 6, 7, 8, 9]] [3, 4, 8, 30, 31, 32] [10]))) 
  (.reg [⟨some 46, (.bin .add false [] (.t 32) (.c (.i .i64 1))), none, []⟩,
    ⟨some 32, (.mv (.t 46)), none, []⟩] [3, 4, 8, 30, 31, 32] []))))
def c71_s3 : IC := 
  (.seq 
  (.seq 
  (.reg [⟨some 29, (.mv (.t 6)), none, []⟩,
    ⟨some 30, (.call (.f 54) [(.t 29)]), none, []⟩,
    ⟨some 31, (.len false (.t 30)), none, []⟩,
    ⟨some 32, (.mv (.c (.i .i64 0))), none, []⟩] [3, 4, 8, 30, 31, 32] []) 
  (.block 0 (.loop c71_b0))) c71_s2)
def c71_s4 : IC := 
  (.seq 
  (.reg [⟨some 8, (.mv (.c (.sl (.prod (.int .i64) (.int .i64)) [] false true))), none, []⟩] [3, 4, 6, 8] []) c71_s3)
def c71_s5 : IC := 
  (.seq 
  (.seq 
  (.reg [⟨some 25, (.mv (.t 7)), none, []⟩,
    ⟨some 26, (.bin .neq false [1] (.t 25) (.c (.i .i64 0))), none, []⟩] [3, 4, 6, 7, 26] []) 
  (.cond (.t 26) 
    (.seq 
    (.reg [⟨some 27, (.bd [(.i .i64 0), (.i .i64 0), (.i .i64 0), (.i .i64 0)] []), none, []⟩,
      ⟨some 28, (.mv (.t 7)), none, []⟩,
      ⟨none, (.st 4 (.t 4) (.t 27)), none, []⟩,
      ⟨some 5, (.mv (.t 28)), none, []⟩] [4, 5] [3]) .ret) .skip)) c71_s4)
def c71_s6 : IC := 
  (.seq 
  (.seq 
  (.reg [⟨some 16, (.mv (.t 7)), none, []⟩,
    ⟨some 17, (.ld 3 true (.t 3)), none, []⟩,
    ⟨some 18, (.call (.f 93) [(.t 17)]), none, []⟩,
    ⟨some 19, (.bsl (.int .i64) false [(.t 16), (.t 18)]), none, []⟩,
    ⟨some 20, (.call (.f 40) [(.t 19)]), none, []⟩,
    ⟨some 7, (.mv (.t 20)), none, []⟩] [3, 4, 6, 7] []) 
  (.seq 
  (.reg [⟨some 21, (.mv (.t 7)), none, []⟩,
    ⟨some 22, (.bin .eql false [1] (.t 21) (.c (.i .i64 0))), none, []⟩] [3, 4, 6, 7, 22] []) 
  (.cond (.t 22) 
    (.reg [⟨some 23, (.mv (.t 6)), none, []⟩,
      ⟨some 24, (.call (.f 102) [(.t 23)]), none, []⟩,
      ⟨some 7, (.mv (.t 24)), none, []⟩] [3, 4, 6, 7] []) .skip))) c71_s5)
def c71_s7 : IC := 
  (.seq 
  (.reg [⟨some 12, (.mv (.t 0)), none, []⟩,
    ⟨some 13, (.call (.f 55) [(.t 12)]), none, []⟩,
    ⟨some 11, (.mv (.t 13)), none, []⟩,
    ⟨some 14, (.ex (.t 11) 0), none, []⟩,
    ⟨some 15, (.ex (.t 11) 1), none, []⟩,
    ⟨some 6, (.mv (.t 14)), none, []⟩,
    ⟨some 7, (.mv (.t 15)), none, []⟩] [3, 4, 6, 7] []) c71_s6)
def c71 : IC := 
  (.seq 
  (.reg [⟨some 3, (.bx (.t 1)), none, []⟩,
    ⟨some 4, (.al [(.i .i64 0), (.i .i64 0), (.i .i64 0), (.i .i64 0)]), none, []⟩,
    ⟨some 5, (.mv (.c (.i .i64 0))), none, []⟩] [0, 3, 4] []) c71_s7)
def f71 : IF := ⟨c71, 2, [(.c 4 4 true), (.t 5)]⟩
def c71_k0 {R : Type} (H : Hk R) (Y : Yt R) (dp : Nat) (K : Ex → Env → Mem → Option R) : Ex → Env → Mem → Option R := (kBlk 0 (kSeq (fun env mem k => evC H Y c71_s2 dp env mem k) K))

/- glidepath/wind.floor -/
def c72_s0 : IC := .ret
def c72_s1 : IC := 
  (.seq 
  (.reg [⟨some 15, (.mv (.t 5)), none, []⟩,
    ⟨some 4, (.mv (.t 15)), none, []⟩] [4] []) c72_s0)
def c72_s2 : IC := 
  (.seq 
  (.seq 
  (.reg [⟨some 9, (.mv (.t 0)), none, []⟩,
    ⟨some 10, (.mv (.t 1)), none, []⟩,
    ⟨some 11, (.bin .rem false [] (.t 9) (.t 10)), none, []⟩,
    ⟨some 12, (.bin .lss false [] (.t 11) (.c (.i .i64 0))), none, []⟩] [5, 12] []) 
  (.cond (.t 12) 
    (.reg [⟨some 13, (.mv (.t 5)), none, []⟩,
      ⟨some 14, (.bin .sub false [] (.t 13) (.c (.i .i64 1))), none, []⟩,
      ⟨some 5, (.mv (.t 14)), none, []⟩] [5] []) .skip)) c72_s1)
def c72_s3 : IC := 
  (.seq 
  (.reg [⟨some 6, (.mv (.t 0)), none, []⟩,
    ⟨some 7, (.mv (.t 1)), none, []⟩,
    ⟨some 8, (.bin .quo false [] (.t 6) (.t 7)), none, []⟩,
    ⟨some 5, (.mv (.t 8)), none, []⟩] [0, 1, 5] []) c72_s2)
def c72 : IC := 
  (.seq 
  (.reg [⟨some 4, (.mv (.c (.i .i64 0))), none, []⟩] [0, 1] []) c72_s3)
def f72 : IF := ⟨c72, 2, [(.t 4)]⟩

/- glidepath/wind.ceil -/
def c73_s0 : IC := .ret
def c73_s1 : IC := 
  (.seq 
  (.reg [⟨some 5, (.mv (.t 0)), none, []⟩,
    ⟨some 6, (.un .neg (.t 5)), none, []⟩,
    ⟨some 7, (.mv (.t 1)), none, []⟩,
    ⟨some 8, (.call (.f 72) [(.t 6), (.t 7)]), none, []⟩,
    ⟨some 9, (.un .neg (.t 8)), none, []⟩,
    ⟨some 4, (.mv (.t 9)), none, []⟩] [4] []) c73_s0)
def c73 : IC := 
  (.seq 
  (.reg [⟨some 4, (.mv (.c (.i .i64 0))), none, []⟩] [0, 1] []) c73_s1)
def f73 : IF := ⟨c73, 2, [(.t 4)]⟩

/- (glidepath/wind.readings).rank -/
def c74_s0 : IC := .ret
def c74_s1 : IC := 
  (.seq 
  (.reg [⟨some 54, (.mv (.t 4)), none, []⟩,
    ⟨some 55, (.len false (.t 54)), none, []⟩,
    ⟨some 56, (.mv (.t 4)), none, []⟩,
    ⟨some 2, (.mv (.t 55)), none, []⟩,
    ⟨some 3, (.mv (.t 56)), none, []⟩] [2, 3] []) c74_s0)
def c74_b0 : IC := 
  (.seq 
  (.reg [⟨some 11, (.bin .lss false [] (.t 10) (.t 9)), none, []⟩] [4, 8, 9, 10, 11] []) 
  (.seq 
  (.cond (.t 11) .skip (.exit 0)) 
  (.seq 
  (.block 1 
    (.seq 
    (.reg [⟨some 12, (.ixs 5 (.t 8) (.t 10)), none, []⟩,
      ⟨some 13, (.ld 5 true (.t 12)), none, []⟩,
      ⟨some 6, (.al [(.i .i64 0), (.i .i64 0), (.i .i64 0), (.i .i64 0), (.i .i64 0)]), none, []⟩,
      ⟨none, (.st 5 (.t 6) (.t 13)), none, []⟩] [4, 6, 8, 9, 10] []) 
    (.seq 
    (.reg [⟨some 14, (.fa 0 (.t 6)), none, []⟩,
      ⟨some 15, (.ld 3 true (.t 14)), none, []⟩,
      ⟨some 7, (.al [(.i .i64 0), (.i .i64 0), (.i .i64 0)]), none, []⟩,
      ⟨none, (.st 3 (.t 7) (.t 15)), none, []⟩] [4, 7, 8, 9, 10] [6]) 
    (.seq 
    (.reg [⟨some 16, (.mv (.t 4)), none, []⟩,
      ⟨some 17, (.len false (.t 16)), none, []⟩] [4, 7, 8, 9, 10, 17] []) 
    (.block 2 
      (.seq 
      (.reg [⟨some 19, (.bin .eql false [1] (.t 17) (.c (.i .i64 0))), none, []⟩,
        ⟨some 18, (.mv (.t 19)), none, []⟩] [4, 7, 8, 9, 10, 17, 18] []) 
      (.cond (.t 18) 
        (.reg [⟨some 20, (.mv (.t 4)), none, []⟩,
          ⟨some 21, (.ld 3 true (.t 7)), none, []⟩,
          ⟨some 22, (.bsl (.prod (.int .i64) (.prod (.int .i64) (.int .i64))) false [(.t 21)]), none, []⟩,
          ⟨some 23, (.app (.prod (.int .i64) (.prod (.int .i64) (.int .i64))) 1466015503701 (.t 20) (.t 22)), none, []⟩,
          ⟨some 4, (.mv (.t 23)), none, []⟩] [4, 8, 9, 10] [7]) 
        (.seq 
        (.reg [⟨some 25, (.bin .eql false [1] (.t 17) (.c (.i .i64 1))), none, []⟩,
          ⟨some 24, (.mv (.t 25)), none, []⟩] [4, 7, 8, 9, 10, 17, 24] []) 
        (.cond (.t 24) 
          (.seq 
          (.dreg [⟨some 26, (.mv (.t 4)), none, []⟩,
            ⟨some 27, (.ixs 3 (.t 26) (.c (.i .i64 0))), none, []⟩,
            ⟨some 28, (.ld 3 true (.t 27)), none, []⟩,
            ⟨some 29, (.ld 3 true (.t 7)), none, []⟩,
            ⟨some 30, (.call (.f 78) [(.t 28), (.t 29)]), none, []⟩,
            ⟨some 31, (.bd [(.i .i64 0), (.i .i64 0), (.i .i64 0)] []), none, []⟩,
            ⟨some 32, (.bin .neq true [1, 1, 1] (.t 30) (.t 31)), none, []⟩] [[], [0], [0, 1], [], [0, 1, 2, 3], [], [0, 1, 2, 3, 4, 5]] [4, 7, 8, 9, 10, 32] []) 
          (.cond (.t 32) 
            (.reg [⟨some 33, (.mv (.t 4)), none, []⟩,
              ⟨some 34, (.ld 3 true (.t 7)), none, []⟩,
              ⟨some 35, (.bsl (.prod (.int .i64) (.prod (.int .i64) (.int .i64))) false [(.t 34)]), none, []⟩,
              ⟨some 36, (.app (.prod (.int .i64) (.prod (.int .i64) (.int .i64))) 1466015503701 (.t 33) (.t 35)), none, []⟩,
              ⟨some 4, (.mv (.t 36)), none, []⟩] [4, 8, 9, 10] [7]) .skip)) 
          (.seq 
          (.reg [⟨some 38, (.bin .eql false [1] (.t 17) (.c (.i .i64 2))), none, []⟩,
            ⟨some 37, (.mv (.t 38)), none, []⟩] [4, 7, 8, 9, 10, 37] []) 
          (.cond (.t 37) 
            (.seq 
            (.dreg [⟨some 39, (.mv (.t 4)), none, []⟩,
              ⟨some 40, (.ixs 3 (.t 39) (.c (.i .i64 0))), none, []⟩,
              ⟨some 41, (.ld 3 true (.t 40)), none, []⟩,
              ⟨some 42, (.mv (.t 4)), none, []⟩,
              ⟨some 43, (.ixs 3 (.t 42) (.c (.i .i64 1))), none, []⟩,
              ⟨some 44, (.ld 3 true (.t 43)), none, []⟩,
              ⟨some 45, (.call (.f 78) [(.t 41), (.t 44)]), none, []⟩,
              ⟨some 46, (.ld 3 true (.t 7)), none, []⟩,
              ⟨some 47, (.call (.f 68) [(.t 45), (.t 46)]), none, []⟩,
              ⟨some 48, (.bin .neq false [1] (.t 47) (.c (.i .i64 0))), none, []⟩] [[], [0], [0, 1], [], [3], [3, 4], [0, 1, 2, 3, 4, 5], [], [0, 1, 2, 3, 4, 5, 6, 7], [0, 1, 2, 3, 4, 5, 6, 7, 8]] [4, 7, 8, 9, 10, 48] []) 
            (.cond (.t 48) 
              (.reg [⟨some 49, (.mv (.t 4)), none, []⟩,
                ⟨some 50, (.ld 3 true (.t 7)), none, []⟩,
                ⟨some 51, (.bsl (.prod (.int .i64) (.prod (.int .i64) (.int .i64))) false [(.t 50)]), none, []⟩,
                ⟨some 52, (.app (.prod (.int .i64) (.prod (.int .i64) (.int .i64))) 1466015503701 (.t 49) (.t 51)), none, []⟩,
                ⟨some 4, (.mv (.t 52)), none, []⟩] [4, 8, 9, 10] [7]) .skip)) .skip))))))))))) 
  (.reg [⟨some 53, (.bin .add false [] (.t 10) (.c (.i .i64 1))), none, []⟩,
    ⟨some 10, (.mv (.t 53)), none, []⟩] [4, 8, 9, 10] [7]))))
def c74_s2 : IC := 
  (.seq 
  (.seq 
  (.reg [⟨some 8, (.mv (.t 0)), none, []⟩,
    ⟨some 9, (.len false (.t 8)), none, []⟩,
    ⟨some 10, (.mv (.c (.i .i64 0))), none, []⟩] [4, 8, 9, 10] []) 
  (.block 0 (.loop c74_b0))) c74_s1)
def c74_s3 : IC := 
  (.seq 
  (.reg [⟨some 4, (.mv (.c (.sl (.prod (.int .i64) (.prod (.int .i64) (.int .i64))) [] false true))), none, []⟩] [0, 4] []) c74_s2)
def c74 : IC := 
  (.seq 
  (.reg [⟨some 2, (.mv (.c (.i .i64 0))), none, []⟩,
    ⟨some 3, (.mv (.c (.sl (.prod (.int .i64) (.prod (.int .i64) (.int .i64))) [] false true))), none, []⟩] [0] []) c74_s3)
def f74 : IF := ⟨c74, 1, [(.t 2), (.t 3)]⟩
def c74_k0 {R : Type} (H : Hk R) (Y : Yt R) (dp : Nat) (K : Ex → Env → Mem → Option R) : Ex → Env → Mem → Option R := (kBlk 0 (kSeq (fun env mem k => evC H Y c74_s1 dp env mem k) K))

/- slices.IndexFunc[[]int,int] -/
def c75_s0 : IC := .ret
def c75_s1 : IC := 
  (.seq 
  (.reg [⟨some 4, (.mv (.c (.i .i64 (-1)))), none, []⟩] [4] []) c75_s0)
def c75_b0 : IC := 
  (.seq 
  (.reg [⟨some 9, (.bin .lss false [] (.t 8) (.t 7)), none, []⟩] [0, 1, 7, 8, 9] []) 
  (.seq 
  (.cond (.t 9) .skip (.exit 0)) 
  (.seq 
  (.block 1 
    (.seq 
    (.reg [⟨some 10, (.mv (.t 8)), none, []⟩,
      ⟨some 5, (.mv (.t 10)), none, []⟩] [0, 1, 5, 7, 8] []) 
    (.seq 
    (.reg [⟨some 11, (.mv (.t 1)), none, []⟩,
      ⟨some 12, (.mv (.t 0)), none, []⟩,
      ⟨some 13, (.mv (.t 5)), none, []⟩,
      ⟨some 14, (.ixs 1 (.t 12) (.t 13)), none, []⟩,
      ⟨some 15, (.ld 1 false (.t 14)), none, []⟩,
      ⟨some 16, (.call (.t 11) [(.t 15)]), none, []⟩] [0, 1, 5, 7, 8, 16] []) 
    (.cond (.t 16) 
      (.seq 
      (.reg [⟨some 17, (.mv (.t 5)), none, []⟩,
        ⟨some 4, (.mv (.t 17)), none, []⟩] [4] []) .ret) .skip)))) 
  (.reg [⟨some 18, (.bin .add false [] (.t 8) (.c (.i .i64 1))), none, []⟩,
    ⟨some 8, (.mv (.t 18)), none, []⟩] [0, 1, 7, 8] []))))
def c75_s2 : IC := 
  (.seq 
  (.seq 
  (.reg [⟨some 6, (.mv (.t 0)), none, []⟩,
    ⟨some 7, (.len false (.t 6)), none, []⟩,
    ⟨some 8, (.mv (.c (.i .i64 0))), none, []⟩] [0, 1, 7, 8] []) 
  (.block 0 (.loop c75_b0))) c75_s1)
def c75 : IC := 
  (.seq 
  (.reg [⟨some 4, (.mv (.c (.i .i64 0))), none, []⟩] [0, 1] []) c75_s2)
def f75 : IF := ⟨c75, 2, [(.t 4)]⟩
def c75_k0 {R : Type} (H : Hk R) (Y : Yt R) (dp : Nat) (K : Ex → Env → Mem → Option R) : Ex → Env → Mem → Option R := (kBlk 0 (kSeq (fun env mem k => evC H Y c75_s1 dp env mem k) K))

/- glidepath/wind.UndecidedOf$1 -/
def c76_s0 : IC := .ret
def c76_s1 : IC := 
  (.seq 
  (.reg [⟨some 3, (.mv (.t 0)), none, []⟩,
    ⟨some 4, (.bin .neq false [1] (.t 3) (.c (.i .i64 0))), none, []⟩,
    ⟨some 2, (.mv (.t 4)), none, []⟩] [2] []) c76_s0)
def c76 : IC := 
  (.seq 
  (.reg [⟨some 2, (.mv (.c (.b false))), none, []⟩] [0] []) c76_s1)
def f76 : IF := ⟨c76, 1, [(.t 2)]⟩

/- glidepath/wind.primitive -/
def c77_s0 : IC := .ret
def c77_s1 : IC := 
  (.seq 
  (.dreg [⟨some 14, (.ixp 3 1 (.t 2) (.c (.i .i64 0))), none, []⟩,
    ⟨some 15, (.ld 1 false (.t 14)), none, []⟩,
    ⟨some 16, (.mv (.t 5)), none, []⟩,
    ⟨some 17, (.bin .quo false [] (.t 15) (.t 16)), none, []⟩,
    ⟨some 18, (.ixp 3 1 (.t 2) (.c (.i .i64 1))), none, []⟩,
    ⟨some 19, (.ld 1 false (.t 18)), none, []⟩,
    ⟨some 20, (.mv (.t 5)), none, []⟩,
    ⟨some 21, (.bin .quo false [] (.t 19) (.t 20)), none, []⟩,
    ⟨some 22, (.ixp 3 1 (.t 2) (.c (.i .i64 2))), none, []⟩,
    ⟨some 23, (.ld 1 false (.t 22)), none, []⟩,
    ⟨some 24, (.mv (.t 5)), none, []⟩,
    ⟨some 25, (.bin .quo false [] (.t 23) (.t 24)), none, []⟩,
    ⟨some 26, (.bd [(.i .i64 0), (.i .i64 0), (.i .i64 0)] [(0, 1, (.t 17)), (1, 1, (.t 21)), (2, 1, (.t 25))]), none, []⟩,
    ⟨none, (.st 3 (.t 4) (.t 26)), none, []⟩] [[], [0], [], [0, 1, 2], [], [4], [], [4, 5, 6], [], [8], [], [8, 9, 10], [0, 1, 2, 3, 4, 5, 6, 7, 8, 9, 10, 11], [0, 1, 2, 3, 4, 5, 6, 7, 8, 9, 10, 11, 12]] [4] []) c77_s0)
def c77_s2 : IC := 
  (.seq 
  (.seq 
  (.reg [⟨some 8, (.mv (.t 1)), none, []⟩,
    ⟨some 9, (.ixp 3 1 (.t 2) (.t 8)), none, []⟩,
    ⟨some 10, (.ld 1 false (.t 9)), none, []⟩,
    ⟨some 11, (.bin .lss false [] (.t 10) (.c (.i .i64 0))), none, []⟩] [2, 4, 5, 11] []) 
  (.cond (.t 11) 
    (.reg [⟨some 12, (.mv (.t 5)), none, []⟩,
      ⟨some 13, (.un .neg (.t 12)), none, []⟩,
      ⟨some 5, (.mv (.t 13)), none, []⟩] [2, 4, 5] []) .skip)) c77_s1)
def c77_s3 : IC := 
  (.seq 
  (.reg [⟨some 6, (.sla (.int .i64) 3 (.t 2)), none, [2]⟩,
    ⟨some 7, (.call (.f 100) [(.t 6)]), none, []⟩,
    ⟨some 5, (.mv (.t 7)), none, []⟩] [1, 2, 4, 5] []) c77_s2)
def c77 : IC := 
  (.seq 
  (.reg [⟨some 2, (.bx (.t 0)), none, []⟩,
    ⟨some 4, (.al [(.i .i64 0), (.i .i64 0), (.i .i64 0)]), none, []⟩] [1, 2, 4] []) c77_s3)
def f77 : IF := ⟨c77, 2, [(.c 4 3 true)]⟩

/- (glidepath/wind.vector).cross -/
def c78_s0 : IC := .ret
def c78_s1 : IC := 
  (.seq 
  (.reg [⟨some 5, (.ixp 3 1 (.t 2) (.c (.i .i64 1))), none, []⟩,
    ⟨some 6, (.ld 1 false (.t 5)), none, []⟩,
    ⟨some 7, (.ixp 3 1 (.t 3) (.c (.i .i64 2))), none, []⟩,
    ⟨some 8, (.ld 1 false (.t 7)), none, []⟩,
    ⟨some 9, (.bin .mul false [] (.t 6) (.t 8)), none, []⟩,
    ⟨some 10, (.ixp 3 1 (.t 2) (.c (.i .i64 2))), none, []⟩,
    ⟨some 11, (.ld 1 false (.t 10)), none, []⟩,
    ⟨some 12, (.ixp 3 1 (.t 3) (.c (.i .i64 1))), none, []⟩,
    ⟨some 13, (.ld 1 false (.t 12)), none, []⟩,
    ⟨some 14, (.bin .mul false [] (.t 11) (.t 13)), none, []⟩,
    ⟨some 15, (.bin .sub false [] (.t 9) (.t 14)), none, []⟩,
    ⟨some 16, (.ixp 3 1 (.t 2) (.c (.i .i64 2))), none, []⟩,
    ⟨some 17, (.ld 1 false (.t 16)), none, []⟩,
    ⟨some 18, (.ixp 3 1 (.t 3) (.c (.i .i64 0))), none, []⟩,
    ⟨some 19, (.ld 1 false (.t 18)), none, []⟩,
    ⟨some 20, (.bin .mul false [] (.t 17) (.t 19)), none, []⟩,
    ⟨some 21, (.ixp 3 1 (.t 2) (.c (.i .i64 0))), none, []⟩,
    ⟨some 22, (.ld 1 false (.t 21)), none, []⟩,
    ⟨some 23, (.ixp 3 1 (.t 3) (.c (.i .i64 2))), none, []⟩,
    ⟨some 24, (.ld 1 false (.t 23)), none, []⟩,
    ⟨some 25, (.bin .mul false [] (.t 22) (.t 24)), none, []⟩,
    ⟨some 26, (.bin .sub false [] (.t 20) (.t 25)), none, []⟩,
    ⟨some 27, (.ixp 3 1 (.t 2) (.c (.i .i64 0))), none, []⟩,
    ⟨some 28, (.ld 1 false (.t 27)), none, []⟩,
    ⟨some 29, (.ixp 3 1 (.t 3) (.c (.i .i64 1))), none, []⟩,
    ⟨some 30, (.ld 1 false (.t 29)), none, []⟩,
    ⟨some 31, (.bin .mul false [] (.t 28) (.t 30)), none, []⟩,
    ⟨some 32, (.ixp 3 1 (.t 2) (.c (.i .i64 1))), none, []⟩,
    ⟨some 33, (.ld 1 false (.t 32)), none, []⟩,
    ⟨some 34, (.ixp 3 1 (.t 3) (.c (.i .i64 0))), none, []⟩,
    ⟨some 35, (.ld 1 false (.t 34)), none, []⟩,
    ⟨some 36, (.bin .mul false [] (.t 33) (.t 35)), none, []⟩,
    ⟨some 37, (.bin .sub false [] (.t 31) (.t 36)), none, []⟩,
    ⟨some 38, (.bd [(.i .i64 0), (.i .i64 0), (.i .i64 0)] [(0, 1, (.t 15)), (1, 1, (.t 26)), (2, 1, (.t 37))]), none, []⟩,
    ⟨none, (.st 3 (.t 4) (.t 38)), none, []⟩] [4] [2, 3]) c78_s0)
def c78 : IC := 
  (.seq 
  (.reg [⟨some 2, (.bx (.t 0)), none, []⟩,
    ⟨some 3, (.bx (.t 1)), none, []⟩,
    ⟨some 4, (.al [(.i .i64 0), (.i .i64 0), (.i .i64 0)]), none, []⟩] [2, 3, 4] []) c78_s1)
def f78 : IF := ⟨c78, 2, [(.c 4 3 true)]⟩

/- glidepath/wind.StructureIn -/
def c79_s0 : IC := .ret
def c79_s1 : IC := 
  (.seq 
  (.reg [⟨some 86, (.mv (.t 9)), none, []⟩,
    ⟨some 87, (.mv (.t 8)), none, []⟩,
    ⟨some 88, (.call (.f 70) [(.t 86), (.t 87)]), none, []⟩,
    ⟨some 89, (.mv (.t 10)), none, []⟩,
    ⟨some 90, (.mv (.t 8)), none, []⟩,
    ⟨some 91, (.call (.f 70) [(.t 89), (.t 90)]), none, []⟩,
    ⟨some 92, (.bd [(.i .i64 0), (.i .i64 0), (.i .i64 0), (.i .i64 0)] [(0, 2, (.t 88)), (2, 2, (.t 91))]), none, []⟩,
    ⟨none, (.st 4 (.t 4) (.t 92)), none, []⟩,
    ⟨some 5, (.mv (.c (.i .i64 0))), none, []⟩] [4, 5] []) c79_s0)
def c79_b0 : IC := 
  (.seq 
  (.reg [⟨some 39, (.bin .lss false [] (.t 38) (.t 37)), none, []⟩] [0, 1, 4, 8, 9, 10, 37, 38, 39] []) 
  (.seq 
  (.cond (.t 39) .skip (.exit 0)) 
  (.seq 
  (.block 1 
    (.seq 
    (.reg [⟨some 40, (.mv (.t 38)), none, []⟩,
      ⟨some 11, (.mv (.t 40)), none, []⟩] [0, 1, 4, 8, 9, 10, 11, 37, 38] []) 
    (.seq 
    (.dreg [⟨some 41, (.mv (.t 0)), none, []⟩,
      ⟨some 42, (.mv (.t 11)), none, []⟩,
      ⟨some 43, (.mv (.t 1)), none, []⟩,
      ⟨some 44, (.bin .add false [] (.t 42) (.t 43)), none, []⟩,
      ⟨some 45, (.ixs 2 (.t 41) (.t 44)), none, []⟩,
      ⟨some 46, (.ld 2 true (.t 45)), none, []⟩,
      ⟨some 47, (.mv (.t 0)), none, []⟩,
      ⟨some 48, (.mv (.t 11)), none, []⟩,
      ⟨some 49, (.ixs 2 (.t 47) (.t 48)), none, []⟩,
      ⟨some 50, (.ld 2 true (.t 49)), none, []⟩,
      ⟨some 51, (.call (.f 44) [(.t 46), (.t 50)]), none, []⟩,
      ⟨some 12, (.al [(.i .i64 0), (.i .i64 0)]), none, []⟩,
      ⟨none, (.st 2 (.t 12) (.t 51)), none, []⟩] [[], [], [], [1, 2], [0, 1, 2, 3], [0, 1, 2, 3, 4], [], [], [6, 7], [6, 7, 8], [0, 1, 2, 3, 4, 5, 6, 7, 8, 9], [], [0, 1, 2, 3, 4, 5, 6, 7, 8, 9, 10, 11]] [0, 1, 4, 8, 9, 10, 12, 37, 38] []) 
    (.seq 
    (.dreg [⟨some 52, (.fa 0 (.t 12)), none, []⟩,
      ⟨some 53, (.ld 1 false (.t 52)), none, []⟩,
      ⟨some 54, (.fa 0 (.t 12)), none, []⟩,
      ⟨some 55, (.ld 1 false (.t 54)), none, []⟩,
      ⟨some 56, (.bin .mul false [] (.t 53) (.t 55)), none, []⟩,
      ⟨some 57, (.fa 1 (.t 12)), none, []⟩,
      ⟨some 58, (.ld 1 false (.t 57)), none, []⟩,
      ⟨some 59, (.fa 1 (.t 12)), none, []⟩,
      ⟨some 60, (.ld 1 false (.t 59)), none, []⟩,
      ⟨some 61, (.bin .mul false [] (.t 58) (.t 60)), none, []⟩,
      ⟨some 62, (.mn [(.t 56), (.t 61)]), none, []⟩,
      ⟨some 63, (.fa 0 (.t 12)), none, []⟩,
      ⟨some 64, (.ld 1 false (.t 63)), none, []⟩,
      ⟨some 65, (.fa 0 (.t 12)), none, []⟩,
      ⟨some 66, (.ld 1 false (.t 65)), none, []⟩,
      ⟨some 67, (.bin .mul false [] (.t 64) (.t 66)), none, []⟩,
      ⟨some 68, (.fa 1 (.t 12)), none, []⟩,
      ⟨some 69, (.ld 1 false (.t 68)), none, []⟩,
      ⟨some 70, (.fa 1 (.t 12)), none, []⟩,
      ⟨some 71, (.ld 1 false (.t 70)), none, []⟩,
      ⟨some 72, (.bin .mul false [] (.t 69) (.t 71)), none, []⟩,
      ⟨some 73, (.mx [(.t 67), (.t 72)]), none, []⟩,
      ⟨some 13, (.mv (.t 62)), none, []⟩,
      ⟨some 14, (.mv (.t 73)), none, []⟩] [[], [0], [], [2], [0, 1, 2, 3], [], [5], [], [7], [5, 6, 7, 8], [0, 1, 2, 3, 4, 5, 6, 7, 8, 9], [], [11], [], [13], [11, 12, 13, 14], [], [16], [], [18], [16, 17, 18, 19], [11, 12, 13, 14, 15, 16, 17, 18, 19, 20], [0, 1, 2, 3, 4, 5, 6, 7, 8, 9, 10], [0, 1, 2, 3, 4, 5, 6, 7, 8, 9, 10, 11, 12, 13, 14, 15, 16, 17, 18, 19, 20, 21, 22]] [0, 1, 4, 8, 9, 10, 12, 13, 14, 37, 38] []) 
    (.seq 
    (.seq 
    (.reg [⟨some 74, (.fa 0 (.t 12)), none, []⟩,
      ⟨some 75, (.ld 1 false (.t 74)), none, []⟩,
      ⟨some 76, (.fa 1 (.t 12)), none, []⟩,
      ⟨some 77, (.ld 1 false (.t 76)), none, []⟩,
      ⟨some 78, (.call (.f 58) [(.c (.i .i64 0)), (.t 75), (.t 77)]), none, []⟩] [0, 1, 4, 8, 9, 10, 13, 14, 37, 38, 78] [12]) 
    (.cond (.t 78) 
      (.reg [⟨some 13, (.mv (.c (.i .i64 0))), none, []⟩] [0, 1, 4, 8, 9, 10, 13, 14, 37, 38] []) .skip)) 
    (.reg [⟨some 79, (.mv (.t 9)), none, []⟩,
      ⟨some 80, (.mv (.t 13)), none, []⟩,
      ⟨some 81, (.bin .add false [] (.t 79) (.t 80)), none, []⟩,
      ⟨some 82, (.mv (.t 10)), none, []⟩,
      ⟨some 83, (.mv (.t 14)), none, []⟩,
      ⟨some 84, (.bin .add false [] (.t 82) (.t 83)), none, []⟩,
      ⟨some 9, (.mv (.t 81)), none, []⟩,
      ⟨some 10, (.mv (.t 84)), none, []⟩] [0, 1, 4, 8, 9, 10, 37, 38] [])))))) 
  (.reg [⟨some 85, (.bin .add false [] (.t 38) (.c (.i .i64 1))), none, []⟩,
    ⟨some 38, (.mv (.t 85)), none, []⟩] [0, 1, 4, 8, 9, 10, 37, 38] []))))
def c79_s2 : IC := 
  (.seq 
  (.seq 
  (.reg [⟨some 37, (.mv (.t 8)), none, []⟩,
    ⟨some 38, (.mv (.c (.i .i64 0))), none, []⟩] [0, 1, 4, 8, 9, 10, 37, 38] []) 
  (.block 0 (.loop c79_b0))) c79_s1)
def c79_s3 : IC := 
  (.seq 
  (.reg [⟨some 9, (.mv (.c (.i .i64 0))), none, []⟩,
    ⟨some 10, (.mv (.c (.i .i64 0))), none, []⟩] [0, 1, 4, 8, 9, 10] []) c79_s2)
def c79_s4 : IC := 
  (.seq 
  (.reg [⟨some 33, (.mv (.t 0)), none, []⟩,
    ⟨some 34, (.len false (.t 33)), none, []⟩,
    ⟨some 35, (.mv (.t 1)), none, []⟩,
    ⟨some 36, (.bin .sub false [] (.t 34) (.t 35)), none, []⟩,
    ⟨some 8, (.mv (.t 36)), none, []⟩] [0, 1, 4, 8] []) c79_s3)
def c79_s5 : IC := 
  (.seq 
  (.seq 
  (.reg [⟨some 20, (.mv (.t 7)), none, []⟩,
    ⟨some 21, (.mv (.t 1)), none, []⟩,
    ⟨some 22, (.mv (.t 0)), none, []⟩,
    ⟨some 23, (.len false (.t 22)), none, []⟩,
    ⟨some 24, (.bin .sub false [] (.t 23) (.c (.i .i64 1))), none, []⟩,
    ⟨some 25, (.call (.f 58) [(.t 21), (.c (.i .i64 1)), (.t 24)]), none, []⟩,
    ⟨some 26, (.call (.f 43) [(.t 25), (.c (.i .i64 2))]), none, []⟩,
    ⟨some 27, (.bsl (.int .i64) false [(.t 20), (.t 26)]), none, []⟩,
    ⟨some 28, (.call (.f 40) [(.t 27)]), none, []⟩,
    ⟨some 7, (.mv (.t 28)), none, []⟩] [0, 1, 4, 7] []) 
  (.seq 
  (.reg [⟨some 29, (.mv (.t 7)), none, []⟩,
    ⟨some 30, (.bin .neq false [1] (.t 29) (.c (.i .i64 0))), none, []⟩] [0, 1, 4, 7, 30] []) 
  (.cond (.t 30) 
    (.seq 
    (.reg [⟨some 31, (.bd [(.i .i64 0), (.i .i64 0), (.i .i64 0), (.i .i64 0)] []), none, []⟩,
      ⟨some 32, (.mv (.t 7)), none, []⟩,
      ⟨none, (.st 4 (.t 4) (.t 31)), none, []⟩,
      ⟨some 5, (.mv (.t 32)), none, []⟩] [4, 5] []) .ret) .skip))) c79_s4)
def c79_s6 : IC := 
  (.seq 
  (.reg [⟨some 16, (.mv (.t 0)), none, []⟩,
    ⟨some 17, (.call (.f 108) [(.t 16), (.c (.i .i64 30)), (.f 109)]), none, []⟩,
    ⟨some 15, (.mv (.t 17)), none, []⟩,
    ⟨some 18, (.ex (.t 15) 0), none, []⟩,
    ⟨some 19, (.ex (.t 15) 1), none, []⟩,
    ⟨some 6, (.mv (.t 18)), none, []⟩,
    ⟨some 7, (.mv (.t 19)), none, []⟩] [0, 1, 4, 7] []) c79_s5)
def c79 : IC := 
  (.seq 
  (.reg [⟨some 4, (.al [(.i .i64 0), (.i .i64 0), (.i .i64 0), (.i .i64 0)]), none, []⟩,
    ⟨some 5, (.mv (.c (.i .i64 0))), none, []⟩] [0, 1, 4] []) c79_s6)
def f79 : IF := ⟨c79, 2, [(.c 4 4 true), (.t 5)]⟩
def c79_k0 {R : Type} (H : Hk R) (Y : Yt R) (dp : Nat) (K : Ex → Env → Mem → Option R) : Ex → Env → Mem → Option R := (kBlk 0 (kSeq (fun env mem k => evC H Y c79_s1 dp env mem k) K))

/- glidepath/glidepathbase.Ints -/
def c80_s0 : IC := .ret
def c80_s1 : IC := 
  (.seq 
  (.reg [⟨some 4, (.mv (.c (.b true))), none, []⟩] [4] []) c80_s0)
def c80_b0 : IC := 
  (.seq 
  (.seq 
  (.reg [⟨some 11, (.mv (.t 5)), none, []⟩,
    ⟨some 12, (.mv (.t 0)), none, []⟩,
    ⟨some 13, (.len false (.t 12)), none, []⟩,
    ⟨some 14, (.bin .lss false [] (.t 11) (.t 13)), none, []⟩] [0, 1, 5, 14] []) 
  (.cond (.t 14) .skip (.exit 0))) 
  (.seq 
  (.block 1 
    (.seq 
    (.dreg [⟨some 17, (.mv (.t 0)), none, []⟩,
      ⟨some 18, (.mv (.t 5)), none, []⟩,
      ⟨some 19, (.ixs 1 (.t 17) (.t 18)), none, []⟩,
      ⟨some 20, (.ld 1 false (.t 19)), none, []⟩,
      ⟨some 21, (.mv (.t 1)), none, []⟩,
      ⟨some 22, (.mv (.t 5)), none, []⟩,
      ⟨some 23, (.ixs 1 (.t 21) (.t 22)), none, []⟩,
      ⟨some 24, (.ld 1 false (.t 23)), none, []⟩,
      ⟨some 25, (.bin .neq false [1] (.t 20) (.t 24)), none, []⟩] [[], [], [0, 1], [0, 1, 2], [], [], [4, 5], [4, 5, 6], [0, 1, 2, 3, 4, 5, 6, 7]] [0, 1, 5, 25] []) 
    (.cond (.t 25) 
      (.seq 
      (.reg [⟨some 4, (.mv (.c (.b false))), none, []⟩] [4] []) .ret) .skip))) 
  (.reg [⟨some 15, (.mv (.t 5)), none, []⟩,
    ⟨some 16, (.bin .add false [] (.t 15) (.c (.i .i64 1))), none, []⟩,
    ⟨some 5, (.mv (.t 16)), none, []⟩] [0, 1, 5] [])))
def c80_s2 : IC := 
  (.seq 
  (.seq 
  (.reg [⟨some 5, (.mv (.c (.i .i64 0))), none, []⟩] [0, 1, 5] []) 
  (.block 0 (.loop c80_b0))) c80_s1)
def c80_s3 : IC := 
  (.seq 
  (.seq 
  (.reg [⟨some 6, (.mv (.t 0)), none, []⟩,
    ⟨some 7, (.len false (.t 6)), none, []⟩,
    ⟨some 8, (.mv (.t 1)), none, []⟩,
    ⟨some 9, (.len false (.t 8)), none, []⟩,
    ⟨some 10, (.bin .neq false [1] (.t 7) (.t 9)), none, []⟩] [0, 1, 10] []) 
  (.cond (.t 10) 
    (.seq 
    (.reg [⟨some 4, (.mv (.c (.b false))), none, []⟩] [4] []) .ret) .skip)) c80_s2)
def c80 : IC := 
  (.seq 
  (.reg [⟨some 4, (.mv (.c (.b false))), none, []⟩] [0, 1] []) c80_s3)
def f80 : IF := ⟨c80, 2, [(.t 4)]⟩
def c80_k0 {R : Type} (H : Hk R) (Y : Yt R) (dp : Nat) (K : Ex → Env → Mem → Option R) : Ex → Env → Mem → Option R := (kBlk 0 (kSeq (fun env mem k => evC H Y c80_s1 dp env mem k) K))

/- glidepath/glidepathref04.HeightErr -/
def c81_s0 : IC := .ret
def c81_s1 : IC := 
  (.seq 
  (.reg [⟨some 2, (.mv (.c (.i .i64 0))), none, []⟩] [2] []) c81_s0)
def c81_s2 : IC := 
  (.seq 
  (.seq 
  (.reg [⟨some 3, (.mv (.t 0)), none, []⟩,
    ⟨some 4, (.call (.f 26) [(.t 3), (.c (.i .i64 0)), (.c (.i .i64 20000))]), none, []⟩,
    ⟨some 5, (.un .not (.t 4)), none, []⟩] [5] []) 
  (.cond (.t 5) 
    (.seq 
    (.reg [⟨some 2, (.mv (.c (.i .i64 2))), none, []⟩] [2] []) .ret) .skip)) c81_s1)
def c81 : IC := 
  (.seq 
  (.reg [⟨some 2, (.mv (.c (.i .i64 0))), none, []⟩] [0] []) c81_s2)
def f81 : IF := ⟨c81, 1, [(.t 2)]⟩

/- glidepath/glidepathref04.sides -/
def c82_s0 : IC := .ret
def c82_s1 : IC := 
  (.seq 
  (.reg [⟨some 3, (.fa 0 (.t 1)), none, []⟩,
    ⟨some 4, (.ld 2 true (.t 3)), none, []⟩,
    ⟨some 5, (.fa 2 (.t 1)), none, []⟩,
    ⟨some 6, (.ld 2 true (.t 5)), none, []⟩,
    ⟨some 7, (.fa 4 (.t 1)), none, []⟩,
    ⟨some 8, (.ld 2 true (.t 7)), none, []⟩,
    ⟨some 9, (.bd [(.i .i64 0), (.i .i64 0), (.i .i64 0), (.i .i64 0), (.i .i64 0), (.i .i64 0)] [(0, 2, (.t 4)), (2, 2, (.t 6)), (4, 2, (.t 8))]), none, []⟩,
    ⟨none, (.st 6 (.t 2) (.t 9)), none, []⟩] [2] [1]) c82_s0)
def c82 : IC := 
  (.seq 
  (.reg [⟨some 1, (.bx (.t 0)), none, []⟩,
    ⟨some 2, (.al [(.i .i64 0), (.i .i64 0), (.i .i64 0), (.i .i64 0), (.i .i64 0), (.i .i64 0)]), none, []⟩] [1, 2] []) c82_s1)
def f82 : IF := ⟨c82, 1, [(.c 2 6 true)]⟩

/- glidepath/wind.each[glidepath/api.WindLayer] -/
def c83_s0 : IC := .ret
def c83_s1 : IC := 
  (.seq 
  (.reg [⟨some 6, (.mv (.c (.i .i64 0))), none, []⟩,
    ⟨some 7, (.mv (.c (.i .i64 0))), none, []⟩] [6, 7] []) c83_s0)
def c83_b0 : IC := 
  (.seq 
  (.reg [⟨some 29, (.bin .lss false [] (.t 28) (.t 27)), none, []⟩] [2, 26, 27, 28, 29] []) 
  (.seq 
  (.cond (.t 29) .skip (.exit 0)) 
  (.seq 
  (.block 1 
    (.seq 
    (.reg [⟨some 30, (.mv (.t 28)), none, []⟩,
      ⟨some 31, (.ixs 7 (.t 26) (.t 28)), none, []⟩,
      ⟨some 32, (.ld 7 true (.t 31)), none, []⟩,
      ⟨some 10, (.al [(.i .i64 0), (.i .i64 0), (.i .i64 0), (.i .i64 0), (.i .i64 0), (.i .i64 0), (.i .i64 0)]), none, []⟩,
      ⟨some 9, (.mv (.t 30)), none, []⟩,
      ⟨none, (.st 7 (.t 10) (.t 32)), none, []⟩] [2, 9, 10, 26, 27, 28] []) 
    (.seq 
    (.reg [⟨some 33, (.mv (.t 2)), none, []⟩,
      ⟨some 34, (.mv (.t 9)), none, []⟩,
      ⟨some 35, (.ld 7 true (.t 10)), none, []⟩,
      ⟨some 36, (.call (.t 33) [(.t 34), (.t 35)]), none, []⟩,
      ⟨some 11, (.mv (.t 36)), none, []⟩] [2, 9, 11, 26, 27, 28] [10]) 
    (.seq 
    (.reg [⟨some 37, (.mv (.t 11)), none, []⟩,
      ⟨some 38, (.bin .neq false [1] (.t 37) (.c (.i .i64 0))), none, []⟩] [2, 9, 11, 26, 27, 28, 38] []) 
    (.cond (.t 38) 
      (.seq 
      (.reg [⟨some 39, (.mv (.t 9)), none, []⟩,
        ⟨some 40, (.mv (.t 11)), none, []⟩,
        ⟨some 6, (.mv (.t 39)), none, []⟩,
        ⟨some 7, (.mv (.t 40)), none, []⟩] [6, 7] []) .ret) .skip))))) 
  (.reg [⟨some 41, (.bin .add false [] (.t 28) (.c (.i .i64 1))), none, []⟩,
    ⟨some 28, (.mv (.t 41)), none, []⟩] [2, 26, 27, 28] []))))
def c83_s2 : IC := 
  (.seq 
  (.seq 
  (.reg [⟨some 26, (.mv (.t 0)), none, []⟩,
    ⟨some 27, (.len false (.t 26)), none, []⟩,
    ⟨some 28, (.mv (.c (.i .i64 0))), none, []⟩] [2, 26, 27, 28] []) 
  (.block 0 (.loop c83_b0))) c83_s1)
def c83_s3 : IC := 
  (.seq 
  (.seq 
  (.reg [⟨some 12, (.mv (.t 0)), none, []⟩,
    ⟨some 13, (.len false (.t 12)), none, []⟩,
    ⟨some 14, (.bin .gtr false [] (.t 13) (.c (.i .i64 0))), none, []⟩,
    ⟨some 15, (.call (.f 43) [(.t 14), (.c (.i .i64 10))]), none, []⟩,
    ⟨some 16, (.mv (.t 0)), none, []⟩,
    ⟨some 17, (.len false (.t 16)), none, []⟩,
    ⟨some 18, (.mv (.t 1)), none, []⟩,
    ⟨some 19, (.bin .leq false [] (.t 17) (.t 18)), none, []⟩,
    ⟨some 20, (.call (.f 43) [(.t 19), (.c (.i .i64 8))]), none, []⟩,
    ⟨some 21, (.bsl (.int .i64) false [(.t 15), (.t 20)]), none, []⟩,
    ⟨some 22, (.call (.f 40) [(.t 21)]), none, []⟩,
    ⟨some 8, (.mv (.t 22)), none, []⟩] [0, 2, 8] []) 
  (.seq 
  (.reg [⟨some 23, (.mv (.t 8)), none, []⟩,
    ⟨some 24, (.bin .neq false [1] (.t 23) (.c (.i .i64 0))), none, []⟩] [0, 2, 8, 24] []) 
  (.cond (.t 24) 
    (.seq 
    (.reg [⟨some 25, (.mv (.t 8)), none, []⟩,
      ⟨some 6, (.mv (.c (.i .i64 0))), none, []⟩,
      ⟨some 7, (.mv (.t 25)), none, []⟩] [6, 7] []) .ret) .skip))) c83_s2)
def c83 : IC := 
  (.seq 
  (.reg [⟨some 6, (.mv (.c (.i .i64 0))), none, []⟩,
    ⟨some 7, (.mv (.c (.i .i64 0))), none, []⟩] [0, 1, 2] []) c83_s3)
def f83 : IF := ⟨c83, 3, [(.t 6), (.t 7)]⟩
def c83_k0 {R : Type} (H : Hk R) (Y : Yt R) (dp : Nat) (K : Ex → Env → Mem → Option R) : Ex → Env → Mem → Option R := (kBlk 0 (kSeq (fun env mem k => evC H Y c83_s1 dp env mem k) K))

/- glidepath/wind.CheckProfile$1 -/
def c84_s0 : IC := .ret
def c84_s1 : IC := 
  (.seq 
  (.dreg [⟨some 24, (.fa 0 (.t 4)), none, []⟩,
    ⟨some 25, (.ld 1 false (.t 24)), none, []⟩,
    ⟨some 26, (.call (.f 41) [(.t 25)]), none, []⟩,
    ⟨some 27, (.fa 0 (.t 6)), none, []⟩,
    ⟨some 28, (.ld 2 true (.t 27)), none, []⟩,
    ⟨some 29, (.call (.f 85) [(.t 28), (.c (.i .i64 100000))]), none, []⟩,
    ⟨some 30, (.fa 2 (.t 6)), none, []⟩,
    ⟨some 31, (.ld 2 true (.t 30)), none, []⟩,
    ⟨some 32, (.call (.f 85) [(.t 31), (.c (.i .i64 100000))]), none, []⟩,
    ⟨some 33, (.fa 4 (.t 6)), none, []⟩,
    ⟨some 34, (.ld 2 true (.t 33)), none, []⟩,
    ⟨some 35, (.call (.f 85) [(.t 34), (.c (.i .i64 100000))]), none, []⟩,
    ⟨some 36, (.mv (.t 7)), none, []⟩,
    ⟨some 37, (.call (.f 43) [(.t 36), (.c (.i .i64 9))]), none, []⟩,
    ⟨some 38, (.bsl (.int .i64) false [(.t 26), (.t 29), (.t 32), (.t 35), (.t 37)]), none, []⟩,
    ⟨some 39, (.call (.f 40) [(.t 38)]), none, []⟩,
    ⟨some 5, (.mv (.t 39)), none, []⟩] [[], [0], [0, 1], [], [3], [0, 1, 2, 3, 4], [], [6], [0, 1, 2, 3, 4, 5, 6, 7], [], [9], [0, 1, 2, 3, 4, 5, 6, 7, 8, 9, 10], [], [0, 1, 2, 3, 4, 5, 6, 7, 8, 9, 10, 11, 12], [0, 1, 2, 3, 4, 5, 6, 7, 8, 9, 10, 11, 12, 13], [0, 1, 2, 3, 4, 5, 6, 7, 8, 9, 10, 11, 12, 13, 14], [0, 1, 2, 3, 4, 5, 6, 7, 8, 9, 10, 11, 12, 13, 14, 15]] [5] [4, 6]) c84_s0)
def c84_s2 : IC := 
  (.seq 
  (.dreg [⟨some 10, (.mv (.t 0)), none, []⟩,
    ⟨some 11, (.bin .eql false [1] (.t 10) (.c (.i .i64 0))), none, []⟩,
    ⟨some 12, (.mv (.t 11)), none, []⟩,
    ⟨some 13, (.fa 0 (.t 4)), some (12, false), []⟩,
    ⟨some 14, (.ld 1 false (.t 13)), some (12, false), []⟩,
    ⟨some 15, (.ld 1 false (.t 2)), some (12, false), []⟩,
    ⟨some 16, (.mv (.t 0)), some (12, false), []⟩,
    ⟨some 17, (.bin .sub false [] (.t 16) (.c (.i .i64 1))), some (12, false), []⟩,
    ⟨some 18, (.mx [(.c (.i .i64 0)), (.t 17)]), some (12, false), []⟩,
    ⟨some 19, (.ixs 7 (.t 15) (.t 18)), some (12, false), []⟩,
    ⟨some 20, (.fa 0 (.t 19)), some (12, false), []⟩,
    ⟨some 21, (.ld 1 false (.t 20)), some (12, false), []⟩,
    ⟨some 22, (.bin .gtr false [] (.t 14) (.t 21)), some (12, false), []⟩,
    ⟨some 23, (.pick (.t 12) (.c (.b true)) (.t 22)), none, []⟩,
    ⟨some 7, (.mv (.t 23)), none, []⟩] [[], [0], [0, 1], [0, 1, 2], [0, 1, 2, 3], [0, 1, 2], [0, 1, 2], [0, 1, 2, 6], [0, 1, 2, 6, 7], [0, 1, 2, 5, 6, 7, 8], [0, 1, 2, 5, 6, 7, 8, 9], [0, 1, 2, 5, 6, 7, 8, 9, 10], [0, 1, 2, 3, 4, 5, 6, 7, 8, 9, 10, 11], [0, 1, 2, 3, 4, 5, 6, 7, 8, 9, 10, 11, 12], [0, 1, 2, 3, 4, 5, 6, 7, 8, 9, 10, 11, 12, 13]] [4, 6, 7] []) c84_s1)
def c84_s3 : IC := 
  (.seq 
  (.reg [⟨some 8, (.fa 1 (.t 4)), none, []⟩,
    ⟨some 9, (.ld 6 true (.t 8)), none, []⟩,
    ⟨some 6, (.al [(.i .i64 0), (.i .i64 0), (.i .i64 0), (.i .i64 0), (.i .i64 0), (.i .i64 0)]), none, []⟩,
    ⟨none, (.st 6 (.t 6) (.t 9)), none, []⟩] [0, 2, 4, 6] []) c84_s2)
def c84 : IC := 
  (.seq 
  (.reg [⟨some 4, (.bx (.t 1)), none, []⟩,
    ⟨some 5, (.mv (.c (.i .i64 0))), none, []⟩] [0, 2, 4] []) c84_s3)
def f84 : IF := ⟨c84, 3, [(.t 5)]⟩

/- glidepath/wind.rangeErr -/
def c85_s0 : IC := .ret
def c85_s1 : IC := 
  (.seq 
  (.dreg [⟨some 5, (.fa 0 (.t 2)), none, []⟩,
    ⟨some 6, (.ld 1 false (.t 5)), none, []⟩,
    ⟨some 7, (.mv (.t 1)), none, []⟩,
    ⟨some 8, (.call (.f 59) [(.t 6), (.t 7)]), none, []⟩,
    ⟨some 9, (.mv (.t 8)), none, []⟩,
    ⟨some 10, (.fa 1 (.t 2)), some (9, true), []⟩,
    ⟨some 11, (.ld 1 false (.t 10)), some (9, true), []⟩,
    ⟨some 12, (.mv (.t 1)), some (9, true), []⟩,
    ⟨some 13, (.call (.f 59) [(.t 11), (.t 12)]), some (9, true), []⟩,
    ⟨some 14, (.pick (.t 9) (.t 13) (.c (.b false))), none, []⟩,
    ⟨some 15, (.call (.f 43) [(.t 14), (.c (.i .i64 2))]), none, []⟩,
    ⟨some 16, (.fa 0 (.t 2)), none, []⟩,
    ⟨some 17, (.ld 1 false (.t 16)), none, []⟩,
    ⟨some 18, (.fa 1 (.t 2)), none, []⟩,
    ⟨some 19, (.ld 1 false (.t 18)), none, []⟩,
    ⟨some 20, (.bin .leq false [] (.t 17) (.t 19)), none, []⟩,
    ⟨some 21, (.call (.f 43) [(.t 20), (.c (.i .i64 9))]), none, []⟩,
    ⟨some 22, (.bsl (.int .i64) false [(.t 15), (.t 21)]), none, []⟩,
    ⟨some 23, (.call (.f 40) [(.t 22)]), none, []⟩,
    ⟨some 4, (.mv (.t 23)), none, []⟩] [[], [0], [], [0, 1, 2], [0, 1, 2, 3], [0, 1, 2, 3, 4], [0, 1, 2, 3, 4, 5], [0, 1, 2, 3, 4], [0, 1, 2, 3, 4, 5, 6, 7], [0, 1, 2, 3, 4, 5, 6, 7, 8], [0, 1, 2, 3, 4, 5, 6, 7, 8, 9], [], [11], [], [13], [11, 12, 13, 14], [0, 1, 2, 3, 4, 5, 6, 7, 8, 9, 10, 11, 12, 13, 14, 15], [0, 1, 2, 3, 4, 5, 6, 7, 8, 9, 10, 11, 12, 13, 14, 15, 16], [0, 1, 2, 3, 4, 5, 6, 7, 8, 9, 10, 11, 12, 13, 14, 15, 16, 17], [0, 1, 2, 3, 4, 5, 6, 7, 8, 9, 10, 11, 12, 13, 14, 15, 16, 17, 18]] [4] [2]) c85_s0)
def c85 : IC := 
  (.seq 
  (.reg [⟨some 2, (.bx (.t 0)), none, []⟩,
    ⟨some 4, (.mv (.c (.i .i64 0))), none, []⟩] [1, 2] []) c85_s1)
def f85 : IF := ⟨c85, 2, [(.t 4)]⟩

/- slices.IndexFunc[[]glidepath/api.WindLayer,glidepath/api.WindLayer] -/
def c86_s0 : IC := .ret
def c86_s1 : IC := 
  (.seq 
  (.reg [⟨some 4, (.mv (.c (.i .i64 (-1)))), none, []⟩] [4] []) c86_s0)
def c86_b0 : IC := 
  (.seq 
  (.reg [⟨some 9, (.bin .lss false [] (.t 8) (.t 7)), none, []⟩] [0, 1, 7, 8, 9] []) 
  (.seq 
  (.cond (.t 9) .skip (.exit 0)) 
  (.seq 
  (.block 1 
    (.seq 
    (.reg [⟨some 10, (.mv (.t 8)), none, []⟩,
      ⟨some 5, (.mv (.t 10)), none, []⟩] [0, 1, 5, 7, 8] []) 
    (.seq 
    (.reg [⟨some 11, (.mv (.t 1)), none, []⟩,
      ⟨some 12, (.mv (.t 0)), none, []⟩,
      ⟨some 13, (.mv (.t 5)), none, []⟩,
      ⟨some 14, (.ixs 7 (.t 12) (.t 13)), none, []⟩,
      ⟨some 15, (.ld 7 true (.t 14)), none, []⟩,
      ⟨some 16, (.call (.t 11) [(.t 15)]), none, []⟩] [0, 1, 5, 7, 8, 16] []) 
    (.cond (.t 16) 
      (.seq 
      (.reg [⟨some 17, (.mv (.t 5)), none, []⟩,
        ⟨some 4, (.mv (.t 17)), none, []⟩] [4] []) .ret) .skip)))) 
  (.reg [⟨some 18, (.bin .add false [] (.t 8) (.c (.i .i64 1))), none, []⟩,
    ⟨some 8, (.mv (.t 18)), none, []⟩] [0, 1, 7, 8] []))))
def c86_s2 : IC := 
  (.seq 
  (.seq 
  (.reg [⟨some 6, (.mv (.t 0)), none, []⟩,
    ⟨some 7, (.len false (.t 6)), none, []⟩,
    ⟨some 8, (.mv (.c (.i .i64 0))), none, []⟩] [0, 1, 7, 8] []) 
  (.block 0 (.loop c86_b0))) c86_s1)
def c86 : IC := 
  (.seq 
  (.reg [⟨some 4, (.mv (.c (.i .i64 0))), none, []⟩] [0, 1] []) c86_s2)
def f86 : IF := ⟨c86, 2, [(.t 4)]⟩
def c86_k0 {R : Type} (H : Hk R) (Y : Yt R) (dp : Nat) (K : Ex → Env → Mem → Option R) : Ex → Env → Mem → Option R := (kBlk 0 (kSeq (fun env mem k => evC H Y c86_s1 dp env mem k) K))

/- glidepath/wind.at$1 -/
def c87_s0 : IC := .ret
def c87_s1 : IC := 
  (.seq 
  (.reg [⟨some 4, (.fa 0 (.t 2)), none, []⟩,
    ⟨some 5, (.ld 1 false (.t 4)), none, []⟩,
    ⟨some 6, (.ld 1 false (.t 1)), none, []⟩,
    ⟨some 7, (.bin .geq false [] (.t 5) (.t 6)), none, []⟩,
    ⟨some 3, (.mv (.t 7)), none, []⟩] [3] [2]) c87_s0)
def c87 : IC := 
  (.seq 
  (.reg [⟨some 2, (.bx (.t 0)), none, []⟩,
    ⟨some 3, (.mv (.c (.b false))), none, []⟩] [1, 2] []) c87_s1)
def f87 : IF := ⟨c87, 2, [(.t 3)]⟩

/- glidepath/wind.between -/
def c88_s0 : IC := .ret
def c88_s1 : IC := 
  (.seq 
  (.dreg [⟨some 9, (.fa 0 (.t 4)), none, []⟩,
    ⟨some 10, (.ld 1 false (.t 9)), none, []⟩,
    ⟨some 11, (.fa 0 (.t 5)), none, []⟩,
    ⟨some 12, (.ld 1 false (.t 11)), none, []⟩,
    ⟨some 13, (.fa 0 (.t 4)), none, []⟩,
    ⟨some 14, (.ld 1 false (.t 13)), none, []⟩,
    ⟨some 15, (.bin .sub false [] (.t 12) (.t 14)), none, []⟩,
    ⟨some 16, (.mv (.t 2)), none, []⟩,
    ⟨some 17, (.bin .mul false [] (.t 15) (.t 16)), none, []⟩,
    ⟨some 18, (.mv (.t 3)), none, []⟩,
    ⟨some 19, (.call (.f 72) [(.t 17), (.t 18)]), none, []⟩,
    ⟨some 20, (.bin .add false [] (.t 10) (.t 19)), none, []⟩,
    ⟨some 21, (.fa 1 (.t 4)), none, []⟩,
    ⟨some 22, (.ld 1 false (.t 21)), none, []⟩,
    ⟨some 23, (.fa 1 (.t 5)), none, []⟩,
    ⟨some 24, (.ld 1 false (.t 23)), none, []⟩,
    ⟨some 25, (.fa 1 (.t 4)), none, []⟩,
    ⟨some 26, (.ld 1 false (.t 25)), none, []⟩,
    ⟨some 27, (.bin .sub false [] (.t 24) (.t 26)), none, []⟩,
    ⟨some 28, (.mv (.t 2)), none, []⟩,
    ⟨some 29, (.bin .mul false [] (.t 27) (.t 28)), none, []⟩,
    ⟨some 30, (.mv (.t 3)), none, []⟩,
    ⟨some 31, (.call (.f 73) [(.t 29), (.t 30)]), none, []⟩,
    ⟨some 32, (.bin .add false [] (.t 22) (.t 31)), none, []⟩,
    ⟨some 33, (.bd [(.i .i64 0), (.i .i64 0)] [(0, 1, (.t 20)), (1, 1, (.t 32))]), none, []⟩,
    ⟨none, (.st 2 (.t 8) (.t 33)), none, []⟩] [[], [0], [], [2], [], [4], [2, 3, 4, 5], [], [2, 3, 4, 5, 6, 7], [], [2, 3, 4, 5, 6, 7, 8, 9], [0, 1, 2, 3, 4, 5, 6, 7, 8, 9, 10], [], [12], [], [14], [], [16], [14, 15, 16, 17], [], [14, 15, 16, 17, 18, 19], [], [2, 3, 4, 5, 6, 7, 8, 9, 10, 14, 15, 16, 17, 18, 19, 20, 21], [2, 3, 4, 5, 6, 7, 8, 9, 10, 12, 13, 14, 15, 16, 17, 18, 19, 20, 21, 22], [0, 1, 2, 3, 4, 5, 6, 7, 8, 9, 10, 11, 12, 13, 14, 15, 16, 17, 18, 19, 20, 21, 22, 23], [0, 1, 2, 3, 4, 5, 6, 7, 8, 9, 10, 11, 12, 13, 14, 15, 16, 17, 18, 19, 20, 21, 22, 23, 24]] [8] [4, 5]) c88_s0)
def c88 : IC := 
  (.seq 
  (.reg [⟨some 4, (.bx (.t 0)), none, []⟩,
    ⟨some 5, (.bx (.t 1)), none, []⟩,
    ⟨some 8, (.al [(.i .i64 0), (.i .i64 0)]), none, []⟩] [2, 3, 4, 5, 8] []) c88_s1)
def f88 : IF := ⟨c88, 4, [(.c 8 2 true)]⟩

/- glidepath/glidepathref04.DirectionErr -/
def c89_s0 : IC := .ret
def c89_s1 : IC := 
  (.seq 
  (.reg [⟨some 2, (.mv (.c (.i .i64 0))), none, []⟩] [2] []) c89_s0)
def c89_s2 : IC := 
  (.seq 
  (.seq 
  (.reg [⟨some 13, (.ld 3 true (.t 1)), none, []⟩,
    ⟨some 14, (.bd [(.i .i64 0), (.i .i64 0), (.i .i64 0)] []), none, []⟩,
    ⟨some 15, (.bin .eql true [1, 1, 1] (.t 13) (.t 14)), none, []⟩] [15] [1]) 
  (.cond (.t 15) 
    (.seq 
    (.reg [⟨some 2, (.mv (.c (.i .i64 11))), none, []⟩] [2] []) .ret) .skip)) c89_s1)
def c89_b0 : IC := 
  (.seq 
  (.seq 
  (.reg [⟨some 4, (.mv (.t 3)), none, []⟩,
    ⟨some 5, (.bin .lss false [] (.t 4) (.c (.i .i64 3))), none, []⟩] [1, 3, 5] []) 
  (.cond (.t 5) .skip (.exit 0))) 
  (.seq 
  (.block 1 
    (.seq 
    (.reg [⟨some 8, (.mv (.t 3)), none, []⟩,
      ⟨some 9, (.ixp 3 1 (.t 1) (.t 8)), none, []⟩,
      ⟨some 10, (.ld 1 false (.t 9)), none, []⟩,
      ⟨some 11, (.call (.f 26) [(.t 10), (.c (.i .i64 (-9))), (.c (.i .i64 9))]), none, []⟩,
      ⟨some 12, (.un .not (.t 11)), none, []⟩] [1, 3, 12] []) 
    (.cond (.t 12) 
      (.seq 
      (.reg [⟨some 2, (.mv (.c (.i .i64 2))), none, []⟩] [2] [1]) .ret) .skip))) 
  (.reg [⟨some 6, (.mv (.t 3)), none, []⟩,
    ⟨some 7, (.bin .add false [] (.t 6) (.c (.i .i64 1))), none, []⟩,
    ⟨some 3, (.mv (.t 7)), none, []⟩] [1, 3] [])))
def c89_s3 : IC := 
  (.seq 
  (.seq 
  (.reg [⟨some 3, (.mv (.c (.i .i64 0))), none, []⟩] [1, 3] []) 
  (.block 0 (.loop c89_b0))) c89_s2)
def c89 : IC := 
  (.seq 
  (.reg [⟨some 1, (.bx (.t 0)), none, []⟩,
    ⟨some 2, (.mv (.c (.i .i64 0))), none, []⟩] [1] []) c89_s3)
def f89 : IF := ⟨c89, 1, [(.t 2)]⟩
def c89_k0 {R : Type} (H : Hk R) (Y : Yt R) (dp : Nat) (K : Ex → Env → Mem → Option R) : Ex → Env → Mem → Option R := (kBlk 0 (kSeq (fun env mem k => evC H Y c89_s2 dp env mem k) K))

/- glidepath/glidepathbase.Size -/
def c90_s0 : IC := .ret
def c90_s1 : IC := 
  (.seq 
  (.reg [⟨some 3, (.mv (.t 0)), none, []⟩,
    ⟨some 4, (.mv (.t 0)), none, []⟩,
    ⟨some 5, (.un .neg (.t 4)), none, []⟩,
    ⟨some 6, (.mx [(.t 3), (.t 5)]), none, []⟩,
    ⟨some 2, (.mv (.t 6)), none, []⟩] [2] []) c90_s0)
def c90 : IC := 
  (.seq 
  (.reg [⟨some 2, (.mv (.c (.i .i64 0))), none, []⟩] [0] []) c90_s1)
def f90 : IF := ⟨c90, 1, [(.t 2)]⟩

/- glidepath/wind.each[glidepath/api.WindReading] -/
def c91_s0 : IC := .ret
def c91_s1 : IC := 
  (.seq 
  (.reg [⟨some 6, (.mv (.c (.i .i64 0))), none, []⟩,
    ⟨some 7, (.mv (.c (.i .i64 0))), none, []⟩] [6, 7] []) c91_s0)
def c91_b0 : IC := 
  (.seq 
  (.reg [⟨some 29, (.bin .lss false [] (.t 28) (.t 27)), none, []⟩] [2, 26, 27, 28, 29] []) 
  (.seq 
  (.cond (.t 29) .skip (.exit 0)) 
  (.seq 
  (.block 1 
    (.seq 
    (.reg [⟨some 30, (.mv (.t 28)), none, []⟩,
      ⟨some 31, (.ixs 5 (.t 26) (.t 28)), none, []⟩,
      ⟨some 32, (.ld 5 true (.t 31)), none, []⟩,
      ⟨some 10, (.al [(.i .i64 0), (.i .i64 0), (.i .i64 0), (.i .i64 0), (.i .i64 0)]), none, []⟩,
      ⟨some 9, (.mv (.t 30)), none, []⟩,
      ⟨none, (.st 5 (.t 10) (.t 32)), none, []⟩] [2, 9, 10, 26, 27, 28] []) 
    (.seq 
    (.reg [⟨some 33, (.mv (.t 2)), none, []⟩,
      ⟨some 34, (.mv (.t 9)), none, []⟩,
      ⟨some 35, (.ld 5 true (.t 10)), none, []⟩,
      ⟨some 36, (.call (.t 33) [(.t 34), (.t 35)]), none, []⟩,
      ⟨some 11, (.mv (.t 36)), none, []⟩] [2, 9, 11, 26, 27, 28] [10]) 
    (.seq 
    (.reg [⟨some 37, (.mv (.t 11)), none, []⟩,
      ⟨some 38, (.bin .neq false [1] (.t 37) (.c (.i .i64 0))), none, []⟩] [2, 9, 11, 26, 27, 28, 38] []) 
    (.cond (.t 38) 
      (.seq 
      (.reg [⟨some 39, (.mv (.t 9)), none, []⟩,
        ⟨some 40, (.mv (.t 11)), none, []⟩,
        ⟨some 6, (.mv (.t 39)), none, []⟩,
        ⟨some 7, (.mv (.t 40)), none, []⟩] [6, 7] []) .ret) .skip))))) 
  (.reg [⟨some 41, (.bin .add false [] (.t 28) (.c (.i .i64 1))), none, []⟩,
    ⟨some 28, (.mv (.t 41)), none, []⟩] [2, 26, 27, 28] []))))
def c91_s2 : IC := 
  (.seq 
  (.seq 
  (.reg [⟨some 26, (.mv (.t 0)), none, []⟩,
    ⟨some 27, (.len false (.t 26)), none, []⟩,
    ⟨some 28, (.mv (.c (.i .i64 0))), none, []⟩] [2, 26, 27, 28] []) 
  (.block 0 (.loop c91_b0))) c91_s1)
def c91_s3 : IC := 
  (.seq 
  (.seq 
  (.reg [⟨some 12, (.mv (.t 0)), none, []⟩,
    ⟨some 13, (.len false (.t 12)), none, []⟩,
    ⟨some 14, (.bin .gtr false [] (.t 13) (.c (.i .i64 0))), none, []⟩,
    ⟨some 15, (.call (.f 43) [(.t 14), (.c (.i .i64 10))]), none, []⟩,
    ⟨some 16, (.mv (.t 0)), none, []⟩,
    ⟨some 17, (.len false (.t 16)), none, []⟩,
    ⟨some 18, (.mv (.t 1)), none, []⟩,
    ⟨some 19, (.bin .leq false [] (.t 17) (.t 18)), none, []⟩,
    ⟨some 20, (.call (.f 43) [(.t 19), (.c (.i .i64 8))]), none, []⟩,
    ⟨some 21, (.bsl (.int .i64) false [(.t 15), (.t 20)]), none, []⟩,
    ⟨some 22, (.call (.f 40) [(.t 21)]), none, []⟩,
    ⟨some 8, (.mv (.t 22)), none, []⟩] [0, 2, 8] []) 
  (.seq 
  (.reg [⟨some 23, (.mv (.t 8)), none, []⟩,
    ⟨some 24, (.bin .neq false [1] (.t 23) (.c (.i .i64 0))), none, []⟩] [0, 2, 8, 24] []) 
  (.cond (.t 24) 
    (.seq 
    (.reg [⟨some 25, (.mv (.t 8)), none, []⟩,
      ⟨some 6, (.mv (.c (.i .i64 0))), none, []⟩,
      ⟨some 7, (.mv (.t 25)), none, []⟩] [6, 7] []) .ret) .skip))) c91_s2)
def c91 : IC := 
  (.seq 
  (.reg [⟨some 6, (.mv (.c (.i .i64 0))), none, []⟩,
    ⟨some 7, (.mv (.c (.i .i64 0))), none, []⟩] [0, 1, 2] []) c91_s3)
def f91 : IF := ⟨c91, 3, [(.t 6), (.t 7)]⟩
def c91_k0 {R : Type} (H : Hk R) (Y : Yt R) (dp : Nat) (K : Ex → Env → Mem → Option R) : Ex → Env → Mem → Option R := (kBlk 0 (kSeq (fun env mem k => evC H Y c91_s1 dp env mem k) K))

/- glidepath/wind.CheckReadings$1 -/
def c92_s0 : IC := .ret
def c92_s1 : IC := 
  (.seq 
  (.dreg [⟨some 5, (.fa 0 (.t 3)), none, []⟩,
    ⟨some 6, (.ld 3 true (.t 5)), none, []⟩,
    ⟨some 7, (.call (.f 93) [(.t 6)]), none, []⟩,
    ⟨some 8, (.fa 3 (.t 3)), none, []⟩,
    ⟨some 9, (.ld 2 true (.t 8)), none, []⟩,
    ⟨some 10, (.call (.f 85) [(.t 9), (.c (.i .i64 10000))]), none, []⟩,
    ⟨some 11, (.bsl (.int .i64) false [(.t 7), (.t 10)]), none, []⟩,
    ⟨some 12, (.call (.f 40) [(.t 11)]), none, []⟩,
    ⟨some 4, (.mv (.t 12)), none, []⟩] [[], [0], [0, 1], [], [3], [0, 1, 2, 3, 4], [0, 1, 2, 3, 4, 5], [0, 1, 2, 3, 4, 5, 6], [0, 1, 2, 3, 4, 5, 6, 7]] [4] [3]) c92_s0)
def c92 : IC := 
  (.seq 
  (.reg [⟨some 3, (.bx (.t 1)), none, []⟩,
    ⟨some 4, (.mv (.c (.i .i64 0))), none, []⟩] [3] []) c92_s1)
def f92 : IF := ⟨c92, 2, [(.t 4)]⟩

/- glidepath/wind.directionErr -/
def c93_s0 : IC := .ret
def c93_s1 : IC := 
  (.seq 
  (.dreg [⟨some 6, (.mv (.t 3)), none, []⟩,
    ⟨some 7, (.un .not (.t 6)), none, []⟩,
    ⟨some 8, (.call (.f 43) [(.t 7), (.c (.i .i64 2))]), none, []⟩,
    ⟨some 9, (.ld 3 true (.t 1)), none, []⟩,
    ⟨some 10, (.bd [(.i .i64 0), (.i .i64 0), (.i .i64 0)] []), none, []⟩,
    ⟨some 11, (.bin .neq true [1, 1, 1] (.t 9) (.t 10)), none, []⟩,
    ⟨some 12, (.call (.f 43) [(.t 11), (.c (.i .i64 11))]), none, []⟩,
    ⟨some 13, (.bsl (.int .i64) false [(.t 8), (.t 12)]), none, []⟩,
    ⟨some 14, (.call (.f 40) [(.t 13)]), none, []⟩,
    ⟨some 2, (.mv (.t 14)), none, []⟩] [[], [0], [0, 1], [], [], [3, 4], [0, 1, 2, 3, 4, 5], [0, 1, 2, 3, 4, 5, 6], [0, 1, 2, 3, 4, 5, 6, 7], [0, 1, 2, 3, 4, 5, 6, 7, 8]] [2] []) c93_s0)
def c93_s2 : IC := 
  (.seq 
  (.reg [⟨some 4, (.sla (.int .i64) 3 (.t 1)), none, [1]⟩,
    ⟨some 5, (.call (.f 97) [(.t 4), (.f 110)]), none, []⟩,
    ⟨some 3, (.mv (.t 5)), none, []⟩] [1, 3] []) c93_s1)
def c93 : IC := 
  (.seq 
  (.reg [⟨some 1, (.bx (.t 0)), none, []⟩,
    ⟨some 2, (.mv (.c (.i .i64 0))), none, []⟩] [1] []) c93_s2)
def f93 : IF := ⟨c93, 1, [(.t 2)]⟩

/- glidepath/wind.sets$1 -/
def c94 : IC := 
  (.reg [⟨some 4, (.ld 1 false (.t 1)), none, []⟩,
    ⟨some 5, (.ld 1 false (.t 2)), none, []⟩,
    ⟨some 6, (.mv (.t 0)), none, []⟩,
    ⟨some 7, (.mcall (.f 95) [(.c (.sl (.int .i64) [] false true)), (.t 4), (.t 5), (.t 6)]), none, []⟩] [] [])
def f94 : IF := ⟨c94, 3, []⟩

/- glidepath/wind.grow -/
def c95_s0 : IC := .ret
def c95_s1 : IC := 
  (.seq 
  (.reg [⟨some 8, (.mv (.c (.b true))), none, []⟩] [8] []) c95_s0)
def c95_b0 : IC := 
  (.seq 
  (.seq 
  (.reg [⟨some 30, (.mv (.t 11)), none, []⟩,
    ⟨some 31, (.mv (.t 2)), none, []⟩,
    ⟨some 32, (.bin .lss false [] (.t 30) (.t 31)), none, []⟩] [0, 1, 2, 3, 11, 32] []) 
  (.cond (.t 32) .skip (.exit 0))) 
  (.seq 
  (.block 1 
    (.seq 
    (.reg [⟨some 35, (.mv (.t 0)), none, []⟩,
      ⟨some 36, (.call (.f 111) [(.t 35)]), none, []⟩,
      ⟨some 37, (.mv (.t 11)), none, []⟩,
      ⟨some 38, (.bsl (.int .i64) false [(.t 37)]), none, []⟩,
      ⟨some 39, (.app (.int .i64) 4398046511104 (.t 36) (.t 38)), none, []⟩,
      ⟨some 40, (.mv (.t 1)), none, []⟩,
      ⟨some 41, (.mv (.t 2)), none, []⟩,
      ⟨some 42, (.mv (.t 3)), none, []⟩,
      ⟨some 43, (.mcall (.f 95) [(.t 39), (.t 40), (.t 41), (.t 42)]), none, [39]⟩,
      ⟨some 44, (.un .not (.t 43)), none, []⟩] [0, 1, 2, 3, 11, 44] []) 
    (.cond (.t 44) 
      (.seq 
      (.reg [⟨some 8, (.mv (.c (.b false))), none, []⟩] [8] []) .ret) .skip))) 
  (.reg [⟨some 33, (.mv (.t 11)), none, []⟩,
    ⟨some 34, (.bin .add false [] (.t 33) (.c (.i .i64 1))), none, []⟩,
    ⟨some 11, (.mv (.t 34)), none, []⟩] [0, 1, 2, 3, 11] [])))
def c95_s2 : IC := 
  (.seq 
  (.seq 
  (.reg [⟨some 29, (.mv (.t 9)), none, []⟩,
    ⟨some 11, (.mv (.t 29)), none, []⟩] [0, 1, 2, 3, 11] []) 
  (.block 0 (.loop c95_b0))) c95_s1)
def c95_s3 : IC := 
  (.seq 
  (.seq 
  (.reg [⟨some 19, (.mv (.t 0)), none, []⟩,
    ⟨some 20, (.len false (.t 19)), none, []⟩,
    ⟨some 10, (.mv (.t 20)), none, []⟩] [0, 1, 2, 3, 9, 10] []) 
  (.seq 
  (.reg [⟨some 21, (.mv (.t 10)), none, []⟩,
    ⟨some 22, (.bin .gtr false [] (.t 21) (.c (.i .i64 0))), none, []⟩] [0, 1, 2, 3, 9, 10, 22] []) 
  (.cond (.t 22) 
    (.reg [⟨some 23, (.mv (.t 0)), none, []⟩,
      ⟨some 24, (.mv (.t 10)), none, []⟩,
      ⟨some 25, (.bin .sub false [] (.t 24) (.c (.i .i64 1))), none, []⟩,
      ⟨some 26, (.ixs 1 (.t 23) (.t 25)), none, []⟩,
      ⟨some 27, (.ld 1 false (.t 26)), none, []⟩,
      ⟨some 28, (.bin .add false [] (.t 27) (.c (.i .i64 1))), none, []⟩,
      ⟨some 9, (.mv (.t 28)), none, []⟩] [0, 1, 2, 3, 9] []) .skip))) c95_s2)
def c95_s4 : IC := 
  (.seq 
  (.reg [⟨some 9, (.mv (.c (.i .i64 0))), none, []⟩] [0, 1, 2, 3, 9] []) c95_s3)
def c95_s5 : IC := 
  (.seq 
  (.seq 
  (.reg [⟨some 12, (.mv (.t 0)), none, []⟩,
    ⟨some 13, (.len false (.t 12)), none, []⟩,
    ⟨some 14, (.mv (.t 1)), none, []⟩,
    ⟨some 15, (.bin .eql false [1] (.t 13) (.t 14)), none, []⟩] [0, 1, 2, 3, 15] []) 
  (.cond (.t 15) 
    (.seq 
    (.reg [⟨some 16, (.mv (.t 3)), none, []⟩,
      ⟨some 17, (.mv (.t 0)), none, []⟩,
      ⟨some 18, (.mcall (.t 16) [(.t 17)]), none, []⟩,
      ⟨some 8, (.mv (.t 18)), none, []⟩] [8] []) .ret) .skip)) c95_s4)
def c95 : IC := 
  (.seq 
  (.reg [⟨some 8, (.mv (.c (.b false))), none, []⟩] [0, 1, 2, 3] []) c95_s5)
def f95 : IF := ⟨c95, 4, [(.t 8)]⟩
def c95_k0 {R : Type} (H : Hk R) (Y : Yt R) (dp : Nat) (K : Ex → Env → Mem → Option R) : Ex → Env → Mem → Option R := (kBlk 0 (kSeq (fun env mem k => evC H Y c95_s1 dp env mem k) K))

/- glidepath/wind.relation$1 -/
def c96_s0 : IC := .ret
def c96_s1 : IC := 
  (.seq 
  (.reg [⟨some 3, (.mv (.t 0)), none, []⟩,
    ⟨some 4, (.bin .neq false [1] (.t 3) (.c (.i .i64 0))), none, []⟩,
    ⟨some 2, (.mv (.t 4)), none, []⟩] [2] []) c96_s0)
def c96 : IC := 
  (.seq 
  (.reg [⟨some 2, (.mv (.c (.b false))), none, []⟩] [0] []) c96_s1)
def f96 : IF := ⟨c96, 1, [(.t 2)]⟩

/- slices.ContainsFunc[[]int,int] -/
def c97_s0 : IC := .ret
def c97_s1 : IC := 
  (.seq 
  (.reg [⟨some 5, (.mv (.t 0)), none, []⟩,
    ⟨some 6, (.mv (.t 1)), none, []⟩,
    ⟨some 7, (.call (.f 75) [(.t 5), (.t 6)]), none, []⟩,
    ⟨some 8, (.bin .geq false [] (.t 7) (.c (.i .i64 0))), none, []⟩,
    ⟨some 4, (.mv (.t 8)), none, []⟩] [4] []) c97_s0)
def c97 : IC := 
  (.seq 
  (.reg [⟨some 4, (.mv (.c (.b false))), none, []⟩] [0, 1] []) c97_s1)
def f97 : IF := ⟨c97, 2, [(.t 4)]⟩

/- glidepath/wind.relation$2 -/
def c98_s0 : IC := .ret
def c98_s1 : IC := 
  (.seq 
  (.reg [⟨some 3, (.mv (.t 0)), none, []⟩,
    ⟨some 4, (.bin .neq false [1] (.t 3) (.c (.i .i64 0))), none, []⟩,
    ⟨some 2, (.mv (.t 4)), none, []⟩] [2] []) c98_s0)
def c98 : IC := 
  (.seq 
  (.reg [⟨some 2, (.mv (.c (.b false))), none, []⟩] [0] []) c98_s1)
def f98 : IF := ⟨c98, 1, [(.t 2)]⟩

/- slices.Concat[[]glidepath/wind.vector,glidepath/wind.vector] -/
def c99_s0 : IC := .ret
def c99_s1 : IC := 
  (.seq 
  (.reg [⟨some 35, (.mv (.t 6)), none, []⟩,
    ⟨some 2, (.mv (.t 35)), none, []⟩] [2] []) c99_s0)
def c99_b0 : IC := 
  (.seq 
  (.reg [⟨some 28, (.bin .lss false [] (.t 27) (.t 26)), none, []⟩] [6, 25, 26, 27, 28] []) 
  (.seq 
  (.cond (.t 28) .skip (.exit 2)) 
  (.seq 
  (.block 3 
    (.seq 
    (.reg [⟨some 29, (.ixs 1 (.t 25) (.t 27)), none, []⟩,
      ⟨some 30, (.ld 1 false (.t 29)), none, []⟩,
      ⟨some 8, (.mv (.t 30)), none, []⟩] [6, 8, 25, 26, 27] []) 
    (.reg [⟨some 31, (.mv (.t 6)), none, []⟩,
      ⟨some 32, (.mv (.t 8)), none, []⟩,
      ⟨some 33, (.app (.prod (.int .i64) (.prod (.int .i64) (.int .i64))) 1466015503701 (.t 31) (.t 32)), none, []⟩,
      ⟨some 6, (.mv (.t 33)), none, []⟩] [6, 25, 26, 27] []))) 
  (.reg [⟨some 34, (.bin .add false [] (.t 27) (.c (.i .i64 1))), none, []⟩,
    ⟨some 27, (.mv (.t 34)), none, []⟩] [6, 25, 26, 27] []))))
def c99_s2 : IC := 
  (.seq 
  (.seq 
  (.reg [⟨some 25, (.mv (.t 0)), none, []⟩,
    ⟨some 26, (.len false (.t 25)), none, []⟩,
    ⟨some 27, (.mv (.c (.i .i64 0))), none, []⟩] [6, 25, 26, 27] []) 
  (.block 2 (.loop c99_b0))) c99_s1)
def c99_s3 : IC := 
  (.seq 
  (.reg [⟨some 23, (.mv (.t 3)), none, []⟩,
    ⟨some 24, (.grow 112 (.prod (.int .i64) (.prod (.int .i64) (.int .i64))) (.t 23)), none, []⟩,
    ⟨some 6, (.mv (.t 24)), none, []⟩] [0, 6] []) c99_s2)
def c99_b1 : IC := 
  (.seq 
  (.reg [⟨some 12, (.bin .lss false [] (.t 11) (.t 10)), none, []⟩] [0, 3, 9, 10, 11, 12] []) 
  (.seq 
  (.cond (.t 12) .skip (.exit 0)) 
  (.seq 
  (.block 1 
    (.seq 
    (.reg [⟨some 13, (.ixs 1 (.t 9) (.t 11)), none, []⟩,
      ⟨some 14, (.ld 1 false (.t 13)), none, []⟩,
      ⟨some 5, (.mv (.t 14)), none, []⟩] [0, 3, 5, 9, 10, 11] []) 
    (.seq 
    (.reg [⟨some 15, (.mv (.t 3)), none, []⟩,
      ⟨some 16, (.mv (.t 5)), none, []⟩,
      ⟨some 17, (.len false (.t 16)), none, []⟩,
      ⟨some 18, (.bin .add false [] (.t 15) (.t 17)), none, []⟩,
      ⟨some 3, (.mv (.t 18)), none, []⟩] [0, 3, 9, 10, 11] []) 
    (.seq 
    (.reg [⟨some 19, (.mv (.t 3)), none, []⟩,
      ⟨some 20, (.bin .lss false [] (.t 19) (.c (.i .i64 0))), none, []⟩] [0, 3, 9, 10, 11, 20] []) 
    (.cond (.t 20) 
      (.reg [⟨some 21, .nope, none, []⟩,
        ⟨none, .nope, none, []⟩] [0, 3, 9, 10, 11] []) .skip))))) 
  (.reg [⟨some 22, (.bin .add false [] (.t 11) (.c (.i .i64 1))), none, []⟩,
    ⟨some 11, (.mv (.t 22)), none, []⟩] [0, 3, 9, 10, 11] []))))
def c99_s4 : IC := 
  (.seq 
  (.seq 
  (.reg [⟨some 9, (.mv (.t 0)), none, []⟩,
    ⟨some 10, (.len false (.t 9)), none, []⟩,
    ⟨some 11, (.mv (.c (.i .i64 0))), none, []⟩] [0, 3, 9, 10, 11] []) 
  (.block 0 (.loop c99_b1))) c99_s3)
def c99_s5 : IC := 
  (.seq 
  (.reg [⟨some 3, (.mv (.c (.i .i64 0))), none, []⟩] [0, 3] []) c99_s4)
def c99 : IC := 
  (.seq 
  (.reg [⟨some 2, (.mv (.c (.sl (.prod (.int .i64) (.prod (.int .i64) (.int .i64))) [] false true))), none, []⟩] [0] []) c99_s5)
def f99 : IF := ⟨c99, 1, [(.t 2)]⟩
def c99_k0 {R : Type} (H : Hk R) (Y : Yt R) (dp : Nat) (K : Ex → Env → Mem → Option R) : Ex → Env → Mem → Option R := (kBlk 2 (kSeq (fun env mem k => evC H Y c99_s1 dp env mem k) K))
def c99_k1 {R : Type} (H : Hk R) (Y : Yt R) (dp : Nat) (K : Ex → Env → Mem → Option R) : Ex → Env → Mem → Option R := (kBlk 0 (kSeq (fun env mem k => evC H Y c99_s3 dp env mem k) K))

/- glidepath/wind.divisor -/
def c100_s0 : IC := .ret
def c100_s1 : IC := 
  (.seq 
  (.reg [⟨some 21, (.mv (.t 3)), none, []⟩,
    ⟨some 22, (.mv (.t 3)), none, []⟩,
    ⟨some 23, (.un .neg (.t 22)), none, []⟩,
    ⟨some 24, (.mx [(.t 21), (.t 23)]), none, []⟩,
    ⟨some 2, (.mv (.t 24)), none, []⟩] [2] []) c100_s0)
def c100_s2 : IC := 
  (.reg [⟨some 20, (.bin .add false [] (.t 9) (.c (.i .i64 1))), none, []⟩,
    ⟨some 9, (.mv (.t 20)), none, []⟩] [3, 7, 8, 9] [])
def c100_b1 : IC := 
  (.seq 
  (.seq 
  (.reg [⟨some 14, (.mv (.t 6)), none, []⟩,
    ⟨some 15, (.bin .neq false [1] (.t 14) (.c (.i .i64 0))), none, []⟩] [3, 6, 7, 8, 9, 15] []) 
  (.cond (.t 15) .skip (.exit 2))) 
  (.block 3 
    (.dreg [⟨some 16, (.mv (.t 6)), none, []⟩,
      ⟨some 17, (.mv (.t 3)), none, []⟩,
      ⟨some 18, (.mv (.t 6)), none, []⟩,
      ⟨some 19, (.bin .rem false [] (.t 17) (.t 18)), none, []⟩,
      ⟨some 3, (.mv (.t 16)), none, []⟩,
      ⟨some 6, (.mv (.t 19)), none, []⟩] [[], [], [], [1, 2], [0, 1], [0, 1, 2, 3, 4]] [3, 6, 7, 8, 9] [])))
def c100_b0 : IC := 
  (.seq 
  (.reg [⟨some 10, (.bin .lss false [] (.t 9) (.t 8)), none, []⟩] [3, 7, 8, 9, 10] []) 
  (.seq 
  (.cond (.t 10) .skip (.exit 0)) 
  (.seq 
  (.block 1 
    (.seq 
    (.reg [⟨some 11, (.ixs 1 (.t 7) (.t 9)), none, []⟩,
      ⟨some 12, (.ld 1 false (.t 11)), none, []⟩,
      ⟨some 5, (.mv (.t 12)), none, []⟩] [3, 5, 7, 8, 9] []) 
    (.seq 
    (.reg [⟨some 13, (.mv (.t 5)), none, []⟩,
      ⟨some 6, (.mv (.t 13)), none, []⟩] [3, 6, 7, 8, 9] []) 
    (.block 2 (.loop c100_b1))))) c100_s2)))
def c100_s3 : IC := 
  (.seq 
  (.seq 
  (.reg [⟨some 7, (.mv (.t 0)), none, []⟩,
    ⟨some 8, (.len false (.t 7)), none, []⟩,
    ⟨some 9, (.mv (.c (.i .i64 0))), none, []⟩] [3, 7, 8, 9] []) 
  (.block 0 (.loop c100_b0))) c100_s1)
def c100_s4 : IC := 
  (.seq 
  (.reg [⟨some 3, (.mv (.c (.i .i64 0))), none, []⟩] [0, 3] []) c100_s3)
def c100 : IC := 
  (.seq 
  (.reg [⟨some 2, (.mv (.c (.i .i64 0))), none, []⟩] [0] []) c100_s4)
def f100 : IF := ⟨c100, 1, [(.t 2)]⟩
def c100_k1 {R : Type} (H : Hk R) (Y : Yt R) (dp : Nat) (K : Ex → Env → Mem → Option R) : Ex → Env → Mem → Option R := (kBlk 2 (kBlk 1 (kSeq (fun env mem k => evC H Y c100_s2 dp env mem k) K)))
def c100_k0 {R : Type} (H : Hk R) (Y : Yt R) (dp : Nat) (K : Ex → Env → Mem → Option R) : Ex → Env → Mem → Option R := (kBlk 0 (kSeq (fun env mem k => evC H Y c100_s1 dp env mem k) K))

/- glidepath/wind.relation$3 -/
def c101_s0 : IC := .ret
def c101_s1 : IC := 
  (.seq 
  (.reg [⟨some 3, (.mv (.t 0)), none, []⟩,
    ⟨some 4, (.bin .neq false [1] (.t 3) (.c (.i .i64 0))), none, []⟩,
    ⟨some 2, (.mv (.t 4)), none, []⟩] [2] []) c101_s0)
def c101 : IC := 
  (.seq 
  (.reg [⟨some 2, (.mv (.c (.b false))), none, []⟩] [0] []) c101_s1)
def f101 : IF := ⟨c101, 1, [(.t 2)]⟩

/- (glidepath/wind.readings).full -/
def c102_s0 : IC := .ret
def c102_s1 : IC := 
  (.seq 
  (.reg [⟨some 10, (.mv (.t 3)), none, []⟩,
    ⟨some 11, (.bin .eql false [1] (.t 10) (.c (.i .i64 3))), none, []⟩,
    ⟨some 12, (.call (.f 43) [(.t 11), (.c (.i .i64 19))]), none, []⟩,
    ⟨some 2, (.mv (.t 12)), none, []⟩] [2] []) c102_s0)
def c102_s2 : IC := 
  (.seq 
  (.reg [⟨some 6, (.mv (.t 0)), none, []⟩,
    ⟨some 7, (.call (.f 74) [(.t 6)]), none, []⟩,
    ⟨some 5, (.mv (.t 7)), none, []⟩,
    ⟨some 8, (.ex (.t 5) 0), none, []⟩,
    ⟨some 9, (.ex (.t 5) 1), none, []⟩,
    ⟨some 3, (.mv (.t 8)), none, []⟩,
    ⟨some 4, (.mv (.t 9)), none, []⟩] [3] []) c102_s1)
def c102 : IC := 
  (.seq 
  (.reg [⟨some 2, (.mv (.c (.i .i64 0))), none, []⟩] [0] []) c102_s2)
def f102 : IF := ⟨c102, 1, [(.t 2)]⟩

/- slices.SortFunc[[]glidepath/api.WindVector,glidepath/api.WindVector] -/
def c103_s0 : IC := 
  (.reg [⟨some 7, (.mv (.t 0)), none, []⟩,
    ⟨some 8, (.mv (.t 4)), none, []⟩,
    ⟨some 9, (.mv (.t 4)), none, []⟩,
    ⟨some 10, (.cv .u64 (.t 9)), none, []⟩,
    ⟨some 11, (.call (.f 114) [(.t 10)]), none, []⟩,
    ⟨some 12, (.mv (.t 1)), none, []⟩,
    ⟨some 13, (.call (.f 113) [(.t 7), (.c (.i .i64 0)), (.t 8), (.t 11), (.t 12)]), none, []⟩] [] [])
def c103 : IC := 
  (.seq 
  (.reg [⟨some 5, (.mv (.t 0)), none, []⟩,
    ⟨some 6, (.len false (.t 5)), none, []⟩,
    ⟨some 4, (.mv (.t 6)), none, []⟩] [0, 1, 4] []) c103_s0)
def f103 : IF := ⟨c103, 2, []⟩

/- glidepath/wind.ordered -/
def c104_s0 : IC := .ret
def c104_s1 : IC := 
  (.seq 
  (.reg [⟨some 4, (.mv (.c (.i .i64 0))), none, []⟩] [4] [2, 3, 5, 6]) c104_s0)
def c104_b0 : IC := 
  (.seq 
  (.reg [⟨some 14, (.bin .lss false [] (.t 13) (.c (.i .i64 3))), none, []⟩] [2, 3, 5, 6, 13, 14] []) 
  (.seq 
  (.cond (.t 14) .skip (.exit 0)) 
  (.seq 
  (.block 1 
    (.seq 
    (.reg [⟨some 15, (.mv (.t 13)), none, []⟩,
      ⟨some 7, (.mv (.t 15)), none, []⟩] [2, 3, 5, 6, 7, 13] []) 
    (.seq 
    (.dreg [⟨some 16, (.mv (.t 7)), none, []⟩,
      ⟨some 17, (.ixp 3 1 (.t 5) (.t 16)), none, []⟩,
      ⟨some 18, (.ld 1 false (.t 17)), none, []⟩,
      ⟨some 19, (.fa 3 (.t 2)), none, []⟩,
      ⟨some 20, (.ld 1 false (.t 19)), none, []⟩,
      ⟨some 21, (.bd [(.i .i64 0), (.i .i64 0)] [(0, 1, (.t 18)), (1, 1, (.t 20))]), none, []⟩,
      ⟨some 22, (.mv (.t 7)), none, []⟩,
      ⟨some 23, (.ixp 3 1 (.t 6) (.t 22)), none, []⟩,
      ⟨some 24, (.ld 1 false (.t 23)), none, []⟩,
      ⟨some 25, (.fa 3 (.t 3)), none, []⟩,
      ⟨some 26, (.ld 1 false (.t 25)), none, []⟩,
      ⟨some 27, (.bd [(.i .i64 0), (.i .i64 0)] [(0, 1, (.t 24)), (1, 1, (.t 26))]), none, []⟩,
      ⟨some 28, (.call (.f 106) [(.t 21), (.t 27)]), none, []⟩,
      ⟨some 8, (.mv (.t 28)), none, []⟩] [[], [0], [0, 1], [], [3], [0, 1, 2, 3, 4], [], [6], [6, 7], [], [9], [6, 7, 8, 9, 10], [0, 1, 2, 3, 4, 5, 6, 7, 8, 9, 10, 11], [0, 1, 2, 3, 4, 5, 6, 7, 8, 9, 10, 11, 12]] [2, 3, 5, 6, 8, 13] []) 
    (.seq 
    (.reg [⟨some 29, (.mv (.t 8)), none, []⟩,
      ⟨some 30, (.bin .neq false [1] (.t 29) (.c (.i .i64 0))), none, []⟩] [2, 3, 5, 6, 8, 13, 30] []) 
    (.cond (.t 30) 
      (.seq 
      (.reg [⟨some 31, (.mv (.t 8)), none, []⟩,
        ⟨some 4, (.mv (.t 31)), none, []⟩] [4] [2, 3, 5, 6]) .ret) .skip))))) 
  (.reg [⟨some 32, (.bin .add false [] (.t 13) (.c (.i .i64 1))), none, []⟩,
    ⟨some 13, (.mv (.t 32)), none, []⟩] [2, 3, 5, 6, 13] []))))
def c104_s2 : IC := 
  (.seq 
  (.seq 
  (.reg [⟨some 13, (.mv (.c (.i .i64 0))), none, []⟩] [2, 3, 5, 6, 13] []) 
  (.block 0 (.loop c104_b0))) c104_s1)
def c104_s3 : IC := 
  (.seq 
  (.dreg [⟨some 9, (.ld 4 true (.t 2)), none, []⟩,
    ⟨some 10, (.call (.f 67) [(.t 9)]), none, []⟩,
    ⟨some 11, (.ld 4 true (.t 3)), none, []⟩,
    ⟨some 12, (.call (.f 67) [(.t 11)]), none, []⟩,
    ⟨some 5, (.al [(.i .i64 0), (.i .i64 0), (.i .i64 0)]), none, []⟩,
    ⟨some 6, (.al [(.i .i64 0), (.i .i64 0), (.i .i64 0)]), none, []⟩,
    ⟨none, (.st 3 (.t 5) (.t 10)), none, []⟩,
    ⟨none, (.st 3 (.t 6) (.t 12)), none, []⟩] [[], [0], [], [0, 1, 2], [], [], [0, 1, 2, 3, 4, 5], [0, 1, 2, 3, 4, 5, 6]] [2, 3, 5, 6] []) c104_s2)
def c104 : IC := 
  (.seq 
  (.reg [⟨some 2, (.bx (.t 0)), none, []⟩,
    ⟨some 3, (.bx (.t 1)), none, []⟩,
    ⟨some 4, (.mv (.c (.i .i64 0))), none, []⟩] [2, 3] []) c104_s3)
def f104 : IF := ⟨c104, 2, [(.t 4)]⟩
def c104_k0 {R : Type} (H : Hk R) (Y : Yt R) (dp : Nat) (K : Ex → Env → Mem → Option R) : Ex → Env → Mem → Option R := (kBlk 0 (kSeq (fun env mem k => evC H Y c104_s1 dp env mem k) K))

/- slices.MinFunc[[]glidepath/api.Frac,glidepath/api.Frac] -/
def c105_s0 : IC := .ret
def c105_s1 : IC := 
  (.seq 
  (.reg [⟨some 32, (.ld 2 true (.t 5)), none, []⟩,
    ⟨none, (.st 2 (.t 4) (.t 32)), none, []⟩] [4] [5]) c105_s0)
def c105_b0 : IC := 
  (.seq 
  (.seq 
  (.reg [⟨some 14, (.mv (.t 6)), none, []⟩,
    ⟨some 15, (.mv (.t 0)), none, []⟩,
    ⟨some 16, (.len false (.t 15)), none, []⟩,
    ⟨some 17, (.bin .lss false [] (.t 14) (.t 16)), none, []⟩] [0, 1, 4, 5, 6, 17] []) 
  (.cond (.t 17) .skip (.exit 0))) 
  (.seq 
  (.block 1 
    (.seq 
    (.dreg [⟨some 20, (.mv (.t 1)), none, []⟩,
      ⟨some 21, (.mv (.t 0)), none, []⟩,
      ⟨some 22, (.mv (.t 6)), none, []⟩,
      ⟨some 23, (.ixs 2 (.t 21) (.t 22)), none, []⟩,
      ⟨some 24, (.ld 2 true (.t 23)), none, []⟩,
      ⟨some 25, (.ld 2 true (.t 5)), none, []⟩,
      ⟨some 26, (.call (.t 20) [(.t 24), (.t 25)]), none, []⟩,
      ⟨some 27, (.bin .lss false [] (.t 26) (.c (.i .i64 0))), none, []⟩] [[], [], [], [1, 2], [1, 2, 3], [], [0, 1, 2, 3, 4, 5], [0, 1, 2, 3, 4, 5, 6]] [0, 1, 4, 5, 6, 27] []) 
    (.cond (.t 27) 
      (.reg [⟨some 28, (.mv (.t 0)), none, []⟩,
        ⟨some 29, (.mv (.t 6)), none, []⟩,
        ⟨some 30, (.ixs 2 (.t 28) (.t 29)), none, []⟩,
        ⟨some 31, (.ld 2 true (.t 30)), none, []⟩,
        ⟨none, (.st 2 (.t 5) (.t 31)), none, []⟩] [0, 1, 4, 5, 6] []) .skip))) 
  (.reg [⟨some 18, (.mv (.t 6)), none, []⟩,
    ⟨some 19, (.bin .add false [] (.t 18) (.c (.i .i64 1))), none, []⟩,
    ⟨some 6, (.mv (.t 19)), none, []⟩] [0, 1, 4, 5, 6] [])))
def c105_s2 : IC := 
  (.seq 
  (.seq 
  (.reg [⟨some 6, (.mv (.c (.i .i64 1))), none, []⟩] [0, 1, 4, 5, 6] []) 
  (.block 0 (.loop c105_b0))) c105_s1)
def c105_s3 : IC := 
  (.seq 
  (.reg [⟨some 11, (.mv (.t 0)), none, []⟩,
    ⟨some 12, (.ixs 2 (.t 11) (.c (.i .i64 0))), none, []⟩,
    ⟨some 13, (.ld 2 true (.t 12)), none, []⟩,
    ⟨some 5, (.al [(.i .i64 0), (.i .i64 0)]), none, []⟩,
    ⟨none, (.st 2 (.t 5) (.t 13)), none, []⟩] [0, 1, 4, 5] []) c105_s2)
def c105_s4 : IC := 
  (.seq 
  (.seq 
  (.reg [⟨some 7, (.mv (.t 0)), none, []⟩,
    ⟨some 8, (.len false (.t 7)), none, []⟩,
    ⟨some 9, (.bin .lss false [] (.t 8) (.c (.i .i64 1))), none, []⟩] [0, 1, 4, 9] []) 
  (.cond (.t 9) 
    (.reg [⟨some 10, .nope, none, []⟩,
      ⟨none, .nope, none, []⟩] [0, 1, 4] []) .skip)) c105_s3)
def c105 : IC := 
  (.seq 
  (.reg [⟨some 4, (.al [(.i .i64 0), (.i .i64 0)]), none, []⟩] [0, 1, 4] []) c105_s4)
def f105 : IF := ⟨c105, 2, [(.c 4 2 true)]⟩
def c105_k0 {R : Type} (H : Hk R) (Y : Yt R) (dp : Nat) (K : Ex → Env → Mem → Option R) : Ex → Env → Mem → Option R := (kBlk 0 (kSeq (fun env mem k => evC H Y c105_s1 dp env mem k) K))

/- glidepath/wind.less -/
def c106_s0 : IC := .ret
def c106_s1 : IC := 
  (.seq 
  (.reg [⟨some 5, (.fa 0 (.t 2)), none, []⟩,
    ⟨some 6, (.ld 1 false (.t 5)), none, []⟩,
    ⟨some 7, (.fa 1 (.t 3)), none, []⟩,
    ⟨some 8, (.ld 1 false (.t 7)), none, []⟩,
    ⟨some 9, (.bin .mul false [] (.t 6) (.t 8)), none, []⟩,
    ⟨some 10, (.fa 0 (.t 3)), none, []⟩,
    ⟨some 11, (.ld 1 false (.t 10)), none, []⟩,
    ⟨some 12, (.fa 1 (.t 2)), none, []⟩,
    ⟨some 13, (.ld 1 false (.t 12)), none, []⟩,
    ⟨some 14, (.bin .mul false [] (.t 11) (.t 13)), none, []⟩,
    ⟨some 15, (.bin .sub false [] (.t 9) (.t 14)), none, []⟩,
    ⟨some 4, (.mv (.t 15)), none, []⟩] [4] [2, 3]) c106_s0)
def c106 : IC := 
  (.seq 
  (.reg [⟨some 2, (.bx (.t 0)), none, []⟩,
    ⟨some 3, (.bx (.t 1)), none, []⟩,
    ⟨some 4, (.mv (.c (.i .i64 0))), none, []⟩] [2, 3] []) c106_s1)
def f106 : IF := ⟨c106, 2, [(.t 4)]⟩

/- slices.MaxFunc[[]glidepath/api.Frac,glidepath/api.Frac] -/
def c107_s0 : IC := .ret
def c107_s1 : IC := 
  (.seq 
  (.reg [⟨some 32, (.ld 2 true (.t 5)), none, []⟩,
    ⟨none, (.st 2 (.t 4) (.t 32)), none, []⟩] [4] [5]) c107_s0)
def c107_b0 : IC := 
  (.seq 
  (.seq 
  (.reg [⟨some 14, (.mv (.t 6)), none, []⟩,
    ⟨some 15, (.mv (.t 0)), none, []⟩,
    ⟨some 16, (.len false (.t 15)), none, []⟩,
    ⟨some 17, (.bin .lss false [] (.t 14) (.t 16)), none, []⟩] [0, 1, 4, 5, 6, 17] []) 
  (.cond (.t 17) .skip (.exit 0))) 
  (.seq 
  (.block 1 
    (.seq 
    (.dreg [⟨some 20, (.mv (.t 1)), none, []⟩,
      ⟨some 21, (.mv (.t 0)), none, []⟩,
      ⟨some 22, (.mv (.t 6)), none, []⟩,
      ⟨some 23, (.ixs 2 (.t 21) (.t 22)), none, []⟩,
      ⟨some 24, (.ld 2 true (.t 23)), none, []⟩,
      ⟨some 25, (.ld 2 true (.t 5)), none, []⟩,
      ⟨some 26, (.call (.t 20) [(.t 24), (.t 25)]), none, []⟩,
      ⟨some 27, (.bin .gtr false [] (.t 26) (.c (.i .i64 0))), none, []⟩] [[], [], [], [1, 2], [1, 2, 3], [], [0, 1, 2, 3, 4, 5], [0, 1, 2, 3, 4, 5, 6]] [0, 1, 4, 5, 6, 27] []) 
    (.cond (.t 27) 
      (.reg [⟨some 28, (.mv (.t 0)), none, []⟩,
        ⟨some 29, (.mv (.t 6)), none, []⟩,
        ⟨some 30, (.ixs 2 (.t 28) (.t 29)), none, []⟩,
        ⟨some 31, (.ld 2 true (.t 30)), none, []⟩,
        ⟨none, (.st 2 (.t 5) (.t 31)), none, []⟩] [0, 1, 4, 5, 6] []) .skip))) 
  (.reg [⟨some 18, (.mv (.t 6)), none, []⟩,
    ⟨some 19, (.bin .add false [] (.t 18) (.c (.i .i64 1))), none, []⟩,
    ⟨some 6, (.mv (.t 19)), none, []⟩] [0, 1, 4, 5, 6] [])))
def c107_s2 : IC := 
  (.seq 
  (.seq 
  (.reg [⟨some 6, (.mv (.c (.i .i64 1))), none, []⟩] [0, 1, 4, 5, 6] []) 
  (.block 0 (.loop c107_b0))) c107_s1)
def c107_s3 : IC := 
  (.seq 
  (.reg [⟨some 11, (.mv (.t 0)), none, []⟩,
    ⟨some 12, (.ixs 2 (.t 11) (.c (.i .i64 0))), none, []⟩,
    ⟨some 13, (.ld 2 true (.t 12)), none, []⟩,
    ⟨some 5, (.al [(.i .i64 0), (.i .i64 0)]), none, []⟩,
    ⟨none, (.st 2 (.t 5) (.t 13)), none, []⟩] [0, 1, 4, 5] []) c107_s2)
def c107_s4 : IC := 
  (.seq 
  (.seq 
  (.reg [⟨some 7, (.mv (.t 0)), none, []⟩,
    ⟨some 8, (.len false (.t 7)), none, []⟩,
    ⟨some 9, (.bin .lss false [] (.t 8) (.c (.i .i64 1))), none, []⟩] [0, 1, 4, 9] []) 
  (.cond (.t 9) 
    (.reg [⟨some 10, .nope, none, []⟩,
      ⟨none, .nope, none, []⟩] [0, 1, 4] []) .skip)) c107_s3)
def c107 : IC := 
  (.seq 
  (.reg [⟨some 4, (.al [(.i .i64 0), (.i .i64 0)]), none, []⟩] [0, 1, 4] []) c107_s4)
def f107 : IF := ⟨c107, 2, [(.c 4 2 true)]⟩
def c107_k0 {R : Type} (H : Hk R) (Y : Yt R) (dp : Nat) (K : Ex → Env → Mem → Option R) : Ex → Env → Mem → Option R := (kBlk 0 (kSeq (fun env mem k => evC H Y c107_s1 dp env mem k) K))

/- glidepath/wind.each[glidepath/api.Range] -/
def c108_s0 : IC := .ret
def c108_s1 : IC := 
  (.seq 
  (.reg [⟨some 6, (.mv (.c (.i .i64 0))), none, []⟩,
    ⟨some 7, (.mv (.c (.i .i64 0))), none, []⟩] [6, 7] []) c108_s0)
def c108_b0 : IC := 
  (.seq 
  (.reg [⟨some 29, (.bin .lss false [] (.t 28) (.t 27)), none, []⟩] [2, 26, 27, 28, 29] []) 
  (.seq 
  (.cond (.t 29) .skip (.exit 0)) 
  (.seq 
  (.block 1 
    (.seq 
    (.reg [⟨some 30, (.mv (.t 28)), none, []⟩,
      ⟨some 31, (.ixs 2 (.t 26) (.t 28)), none, []⟩,
      ⟨some 32, (.ld 2 true (.t 31)), none, []⟩,
      ⟨some 10, (.al [(.i .i64 0), (.i .i64 0)]), none, []⟩,
      ⟨some 9, (.mv (.t 30)), none, []⟩,
      ⟨none, (.st 2 (.t 10) (.t 32)), none, []⟩] [2, 9, 10, 26, 27, 28] []) 
    (.seq 
    (.reg [⟨some 33, (.mv (.t 2)), none, []⟩,
      ⟨some 34, (.mv (.t 9)), none, []⟩,
      ⟨some 35, (.ld 2 true (.t 10)), none, []⟩,
      ⟨some 36, (.call (.t 33) [(.t 34), (.t 35)]), none, []⟩,
      ⟨some 11, (.mv (.t 36)), none, []⟩] [2, 9, 11, 26, 27, 28] [10]) 
    (.seq 
    (.reg [⟨some 37, (.mv (.t 11)), none, []⟩,
      ⟨some 38, (.bin .neq false [1] (.t 37) (.c (.i .i64 0))), none, []⟩] [2, 9, 11, 26, 27, 28, 38] []) 
    (.cond (.t 38) 
      (.seq 
      (.reg [⟨some 39, (.mv (.t 9)), none, []⟩,
        ⟨some 40, (.mv (.t 11)), none, []⟩,
        ⟨some 6, (.mv (.t 39)), none, []⟩,
        ⟨some 7, (.mv (.t 40)), none, []⟩] [6, 7] []) .ret) .skip))))) 
  (.reg [⟨some 41, (.bin .add false [] (.t 28) (.c (.i .i64 1))), none, []⟩,
    ⟨some 28, (.mv (.t 41)), none, []⟩] [2, 26, 27, 28] []))))
def c108_s2 : IC := 
  (.seq 
  (.seq 
  (.reg [⟨some 26, (.mv (.t 0)), none, []⟩,
    ⟨some 27, (.len false (.t 26)), none, []⟩,
    ⟨some 28, (.mv (.c (.i .i64 0))), none, []⟩] [2, 26, 27, 28] []) 
  (.block 0 (.loop c108_b0))) c108_s1)
def c108_s3 : IC := 
  (.seq 
  (.seq 
  (.reg [⟨some 12, (.mv (.t 0)), none, []⟩,
    ⟨some 13, (.len false (.t 12)), none, []⟩,
    ⟨some 14, (.bin .gtr false [] (.t 13) (.c (.i .i64 0))), none, []⟩,
    ⟨some 15, (.call (.f 43) [(.t 14), (.c (.i .i64 10))]), none, []⟩,
    ⟨some 16, (.mv (.t 0)), none, []⟩,
    ⟨some 17, (.len false (.t 16)), none, []⟩,
    ⟨some 18, (.mv (.t 1)), none, []⟩,
    ⟨some 19, (.bin .leq false [] (.t 17) (.t 18)), none, []⟩,
    ⟨some 20, (.call (.f 43) [(.t 19), (.c (.i .i64 8))]), none, []⟩,
    ⟨some 21, (.bsl (.int .i64) false [(.t 15), (.t 20)]), none, []⟩,
    ⟨some 22, (.call (.f 40) [(.t 21)]), none, []⟩,
    ⟨some 8, (.mv (.t 22)), none, []⟩] [0, 2, 8] []) 
  (.seq 
  (.reg [⟨some 23, (.mv (.t 8)), none, []⟩,
    ⟨some 24, (.bin .neq false [1] (.t 23) (.c (.i .i64 0))), none, []⟩] [0, 2, 8, 24] []) 
  (.cond (.t 24) 
    (.seq 
    (.reg [⟨some 25, (.mv (.t 8)), none, []⟩,
      ⟨some 6, (.mv (.c (.i .i64 0))), none, []⟩,
      ⟨some 7, (.mv (.t 25)), none, []⟩] [6, 7] []) .ret) .skip))) c108_s2)
def c108 : IC := 
  (.seq 
  (.reg [⟨some 6, (.mv (.c (.i .i64 0))), none, []⟩,
    ⟨some 7, (.mv (.c (.i .i64 0))), none, []⟩] [0, 1, 2] []) c108_s3)
def f108 : IF := ⟨c108, 3, [(.t 6), (.t 7)]⟩
def c108_k0 {R : Type} (H : Hk R) (Y : Yt R) (dp : Nat) (K : Ex → Env → Mem → Option R) : Ex → Env → Mem → Option R := (kBlk 0 (kSeq (fun env mem k => evC H Y c108_s1 dp env mem k) K))

/- glidepath/wind.StructureIn$1 -/
def c109_s0 : IC := .ret
def c109_s1 : IC := 
  (.seq 
  (.reg [⟨some 5, (.ld 2 true (.t 3)), none, []⟩,
    ⟨some 6, (.call (.f 85) [(.t 5), (.c (.i .i64 10000))]), none, []⟩,
    ⟨some 4, (.mv (.t 6)), none, []⟩] [4] [3]) c109_s0)
def c109 : IC := 
  (.seq 
  (.reg [⟨some 3, (.bx (.t 1)), none, []⟩,
    ⟨some 4, (.mv (.c (.i .i64 0))), none, []⟩] [3] []) c109_s1)
def f109 : IF := ⟨c109, 2, [(.t 4)]⟩

/- glidepath/wind.directionErr$1 -/
def c110_s0 : IC := .ret
def c110_s1 : IC := 
  (.seq 
  (.reg [⟨some 3, (.mv (.t 0)), none, []⟩,
    ⟨some 4, (.call (.f 59) [(.t 3), (.c (.i .i64 9))]), none, []⟩,
    ⟨some 5, (.un .not (.t 4)), none, []⟩,
    ⟨some 2, (.mv (.t 5)), none, []⟩] [2] []) c110_s0)
def c110 : IC := 
  (.seq 
  (.reg [⟨some 2, (.mv (.c (.b false))), none, []⟩] [0] []) c110_s1)
def f110 : IF := ⟨c110, 1, [(.t 2)]⟩

/- slices.Clip[[]int,int] -/
def c111_s0 : IC := .ret
def c111_s1 : IC := 
  (.seq 
  (.reg [⟨some 3, (.mv (.t 0)), none, []⟩,
    ⟨some 4, (.mv (.t 0)), none, []⟩,
    ⟨some 5, (.len false (.t 4)), none, []⟩,
    ⟨some 6, (.mv (.t 0)), none, []⟩,
    ⟨some 7, (.len false (.t 6)), none, []⟩,
    ⟨some 8, (.slc 1 (.t 3) none (some (.t 5)) (some (.t 7))), none, []⟩,
    ⟨some 2, (.mv (.t 8)), none, []⟩] [2] []) c111_s0)
def c111 : IC := 
  (.seq 
  (.reg [⟨some 2, (.mv (.c (.sl (.int .i64) [] false true))), none, []⟩] [0] []) c111_s1)
def f111 : IF := ⟨c111, 1, [(.t 2)]⟩

/- slices.Grow[[]glidepath/wind.vector,glidepath/wind.vector] -/
def c112_s0 : IC := .ret
def c112_s1 : IC := 
  (.seq 
  (.reg [⟨some 26, (.mv (.t 0)), none, []⟩,
    ⟨some 4, (.mv (.t 26)), none, []⟩] [4] []) c112_s0)
def c112_s2 : IC := 
  (.seq 
  (.seq 
  (.reg [⟨some 8, (.mv (.t 1)), none, []⟩,
    ⟨some 9, (.mv (.t 0)), none, []⟩,
    ⟨some 10, .nope, none, []⟩,
    ⟨some 11, (.mv (.t 0)), none, []⟩,
    ⟨some 12, (.len false (.t 11)), none, []⟩,
    ⟨some 13, (.bin .sub false [] (.t 10) (.t 12)), none, []⟩,
    ⟨some 14, (.bin .sub false [] (.t 8) (.t 13)), none, []⟩,
    ⟨some 1, (.mv (.t 14)), none, []⟩] [0, 1] []) 
  (.seq 
  (.reg [⟨some 15, (.mv (.t 1)), none, []⟩,
    ⟨some 16, (.bin .gtr false [] (.t 15) (.c (.i .i64 0))), none, []⟩] [0, 1, 16] []) 
  (.cond (.t 16) 
    (.reg [⟨some 17, (.mv (.t 0)), none, []⟩,
      ⟨some 18, (.mv (.t 0)), none, []⟩,
      ⟨some 19, .nope, none, []⟩,
      ⟨some 20, (.slc 3 (.t 17) none (some (.t 19)) none), none, []⟩,
      ⟨some 21, (.mv (.t 1)), none, []⟩,
      ⟨some 22, .nope, none, []⟩,
      ⟨some 23, (.mv (.t 0)), none, []⟩,
      ⟨some 24, (.len false (.t 23)), none, []⟩,
      ⟨some 25, (.slc 3 (.t 22) none (some (.t 24)) none), none, []⟩,
      ⟨some 0, (.mv (.t 25)), none, []⟩] [0] []) .skip))) c112_s1)
def c112_s3 : IC := 
  (.seq 
  (.seq 
  (.reg [⟨some 5, (.mv (.t 1)), none, []⟩,
    ⟨some 6, (.bin .lss false [] (.t 5) (.c (.i .i64 0))), none, []⟩] [0, 1, 6] []) 
  (.cond (.t 6) 
    (.reg [⟨some 7, .nope, none, []⟩,
      ⟨none, .nope, none, []⟩] [0, 1] []) .skip)) c112_s2)
def c112 : IC := 
  (.seq 
  (.reg [⟨some 4, (.mv (.c (.sl (.prod (.int .i64) (.prod (.int .i64) (.int .i64))) [] false true))), none, []⟩] [0, 1] []) c112_s3)
def f112 : IF := ⟨c112, 2, [(.t 4)]⟩

/- slices.pdqsortCmpFunc[glidepath/api.WindVector] -/
def c113_b0 : IC := 
  (.block 1 
    (.seq 
    (.reg [⟨some 21, (.mv (.t 2)), none, []⟩,
      ⟨some 22, (.mv (.t 1)), none, []⟩,
      ⟨some 23, (.bin .sub false [] (.t 21) (.t 22)), none, []⟩,
      ⟨some 12, (.mv (.t 23)), none, []⟩] [0, 1, 2, 3, 4, 10, 11, 12] []) 
    (.seq 
    (.seq 
    (.reg [⟨some 24, (.mv (.t 12)), none, []⟩,
      ⟨some 25, (.bin .leq false [] (.t 24) (.c (.i .i64 12))), none, []⟩] [0, 1, 2, 3, 4, 10, 11, 12, 25] []) 
    (.cond (.t 25) 
      (.seq 
      (.reg [⟨some 26, (.mv (.t 0)), none, []⟩,
        ⟨some 27, (.mv (.t 1)), none, []⟩,
        ⟨some 28, (.mv (.t 2)), none, []⟩,
        ⟨some 29, (.mv (.t 4)), none, []⟩,
        ⟨some 30, (.call (.f 115) [(.t 26), (.t 27), (.t 28), (.t 29)]), none, []⟩] [] []) .ret) .skip)) 
    (.seq 
    (.seq 
    (.reg [⟨some 31, (.mv (.t 3)), none, []⟩,
      ⟨some 32, (.bin .eql false [1] (.t 31) (.c (.i .i64 0))), none, []⟩] [0, 1, 2, 3, 4, 10, 11, 12, 32] []) 
    (.cond (.t 32) 
      (.seq 
      (.reg [⟨some 33, (.mv (.t 0)), none, []⟩,
        ⟨some 34, (.mv (.t 1)), none, []⟩,
        ⟨some 35, (.mv (.t 2)), none, []⟩,
        ⟨some 36, (.mv (.t 4)), none, []⟩,
        ⟨some 37, (.call (.f 116) [(.t 33), (.t 34), (.t 35), (.t 36)]), none, []⟩] [] []) .ret) .skip)) 
    (.seq 
    (.seq 
    (.reg [⟨some 38, (.mv (.t 10)), none, []⟩,
      ⟨some 39, (.un .not (.t 38)), none, []⟩] [0, 1, 2, 3, 4, 10, 11, 12, 39] []) 
    (.cond (.t 39) 
      (.seq 
      (.reg [⟨some 40, (.mv (.t 0)), none, []⟩,
        ⟨some 41, (.mv (.t 1)), none, []⟩,
        ⟨some 42, (.mv (.t 2)), none, []⟩,
        ⟨some 43, (.mv (.t 4)), none, []⟩,
        ⟨some 44, (.call (.f 117) [(.t 40), (.t 41), (.t 42), (.t 43)]), none, []⟩] [0, 1, 2, 3, 4, 10, 11, 12] []) 
      (.reg [⟨some 45, (.mv (.t 3)), none, []⟩,
        ⟨some 46, (.bin .sub false [] (.t 45) (.c (.i .i64 1))), none, []⟩,
        ⟨some 3, (.mv (.t 46)), none, []⟩] [0, 1, 2, 3, 4, 10, 11, 12] [])) .skip)) 
    (.seq 
    (.reg [⟨some 48, (.mv (.t 0)), none, []⟩,
      ⟨some 49, (.mv (.t 1)), none, []⟩,
      ⟨some 50, (.mv (.t 2)), none, []⟩,
      ⟨some 51, (.mv (.t 4)), none, []⟩,
      ⟨some 52, (.call (.f 118) [(.t 48), (.t 49), (.t 50), (.t 51)]), none, []⟩,
      ⟨some 47, (.mv (.t 52)), none, []⟩,
      ⟨some 53, (.ex (.t 47) 0), none, []⟩,
      ⟨some 54, (.ex (.t 47) 1), none, []⟩,
      ⟨some 13, (.mv (.t 53)), none, []⟩,
      ⟨some 14, (.mv (.t 54)), none, []⟩] [0, 1, 2, 3, 4, 10, 11, 12, 13, 14] []) 
    (.seq 
    (.seq 
    (.reg [⟨some 55, (.mv (.t 14)), none, []⟩,
      ⟨some 56, (.bin .eql false [1] (.t 55) (.c (.i .i64 2))), none, []⟩] [0, 1, 2, 3, 4, 10, 11, 12, 13, 14, 56] []) 
    (.cond (.t 56) 
      (.seq 
      (.reg [⟨some 57, (.mv (.t 0)), none, []⟩,
        ⟨some 58, (.mv (.t 1)), none, []⟩,
        ⟨some 59, (.mv (.t 2)), none, []⟩,
        ⟨some 60, (.mv (.t 4)), none, []⟩,
        ⟨some 61, (.call (.f 119) [(.t 57), (.t 58), (.t 59), (.t 60)]), none, []⟩] [0, 1, 2, 3, 4, 10, 11, 12, 13] []) 
      (.seq 
      (.reg [⟨some 62, (.mv (.t 2)), none, []⟩,
        ⟨some 63, (.bin .sub false [] (.t 62) (.c (.i .i64 1))), none, []⟩,
        ⟨some 64, (.mv (.t 13)), none, []⟩,
        ⟨some 65, (.mv (.t 1)), none, []⟩,
        ⟨some 66, (.bin .sub false [] (.t 64) (.t 65)), none, []⟩,
        ⟨some 67, (.bin .sub false [] (.t 63) (.t 66)), none, []⟩,
        ⟨some 13, (.mv (.t 67)), none, []⟩] [0, 1, 2, 3, 4, 10, 11, 12, 13] []) 
      (.reg [⟨some 14, (.mv (.c (.i .i64 1))), none, []⟩] [0, 1, 2, 3, 4, 10, 11, 12, 13, 14] []))) .skip)) 
    (.seq 
    (.seq 
    (.reg [⟨some 68, (.mv (.t 10)), none, []⟩,
      ⟨some 69, (.mv (.t 68)), none, []⟩,
      ⟨some 70, (.mv (.t 11)), some (69, true), []⟩,
      ⟨some 71, (.pick (.t 69) (.t 70) (.c (.b false))), none, []⟩,
      ⟨some 72, (.mv (.t 71)), none, []⟩,
      ⟨some 73, (.mv (.t 14)), some (72, true), []⟩,
      ⟨some 74, (.bin .eql false [1] (.t 73) (.c (.i .i64 1))), some (72, true), []⟩,
      ⟨some 75, (.pick (.t 72) (.t 74) (.c (.b false))), none, []⟩] [0, 1, 2, 3, 4, 10, 11, 12, 13, 75] []) 
    (.cond (.t 75) 
      (.seq 
      (.reg [⟨some 76, (.mv (.t 0)), none, []⟩,
        ⟨some 77, (.mv (.t 1)), none, []⟩,
        ⟨some 78, (.mv (.t 2)), none, []⟩,
        ⟨some 79, (.mv (.t 4)), none, []⟩,
        ⟨some 80, (.call (.f 120) [(.t 76), (.t 77), (.t 78), (.t 79)]), none, []⟩] [0, 1, 2, 3, 4, 10, 11, 12, 13, 80] []) 
      (.cond (.t 80) .ret .skip)) .skip)) 
    (.seq 
    (.seq 
    (.dreg [⟨some 81, (.mv (.t 1)), none, []⟩,
      ⟨some 82, (.bin .gtr false [] (.t 81) (.c (.i .i64 0))), none, []⟩,
      ⟨some 83, (.mv (.t 82)), none, []⟩,
      ⟨some 84, (.mv (.t 4)), some (83, true), []⟩,
      ⟨some 85, (.mv (.t 0)), some (83, true), []⟩,
      ⟨some 86, (.mv (.t 1)), some (83, true), []⟩,
      ⟨some 87, (.bin .sub false [] (.t 86) (.c (.i .i64 1))), some (83, true), []⟩,
      ⟨some 88, (.ixs 4 (.t 85) (.t 87)), some (83, true), []⟩,
      ⟨some 89, (.ld 4 true (.t 88)), some (83, true), []⟩,
      ⟨some 90, (.mv (.t 0)), some (83, true), []⟩,
      ⟨some 91, (.mv (.t 13)), some (83, true), []⟩,
      ⟨some 92, (.ixs 4 (.t 90) (.t 91)), some (83, true), []⟩,
      ⟨some 93, (.ld 4 true (.t 92)), some (83, true), []⟩,
      ⟨some 94, (.call (.t 84) [(.t 89), (.t 93)]), some (83, true), []⟩,
      ⟨some 95, (.bin .lss false [] (.t 94) (.c (.i .i64 0))), some (83, true), []⟩,
      ⟨some 96, (.un .not (.t 95)), some (83, true), []⟩,
      ⟨some 97, (.pick (.t 83) (.t 96) (.c (.b false))), none, []⟩] [[], [0], [0, 1], [0, 1, 2], [0, 1, 2], [0, 1, 2], [0, 1, 2, 5], [0, 1, 2, 4, 5, 6], [0, 1, 2, 4, 5, 6, 7], [0, 1, 2], [0, 1, 2], [0, 1, 2, 9, 10], [0, 1, 2, 9, 10, 11], [0, 1, 2, 3, 4, 5, 6, 7, 8, 9, 10, 11, 12], [0, 1, 2, 3, 4, 5, 6, 7, 8, 9, 10, 11, 12, 13], [0, 1, 2, 3, 4, 5, 6, 7, 8, 9, 10, 11, 12, 13, 14], [0, 1, 2, 3, 4, 5, 6, 7, 8, 9, 10, 11, 12, 13, 14, 15]] [0, 1, 2, 3, 4, 10, 11, 12, 13, 97] []) 
    (.cond (.t 97) 
      (.seq 
      (.reg [⟨some 98, (.mv (.t 0)), none, []⟩,
        ⟨some 99, (.mv (.t 1)), none, []⟩,
        ⟨some 100, (.mv (.t 2)), none, []⟩,
        ⟨some 101, (.mv (.t 13)), none, []⟩,
        ⟨some 102, (.mv (.t 4)), none, []⟩,
        ⟨some 103, (.call (.f 121) [(.t 98), (.t 99), (.t 100), (.t 101), (.t 102)]), none, []⟩,
        ⟨some 15, (.mv (.t 103)), none, []⟩] [0, 2, 3, 4, 10, 11, 15] []) 
      (.seq 
      (.reg [⟨some 104, (.mv (.t 15)), none, []⟩,
        ⟨some 1, (.mv (.t 104)), none, []⟩] [0, 1, 2, 3, 4, 10, 11] []) (.exit 1))) .skip)) 
    (.seq 
    (.reg [⟨some 106, (.mv (.t 0)), none, []⟩,
      ⟨some 107, (.mv (.t 1)), none, []⟩,
      ⟨some 108, (.mv (.t 2)), none, []⟩,
      ⟨some 109, (.mv (.t 13)), none, []⟩,
      ⟨some 110, (.mv (.t 4)), none, []⟩,
      ⟨some 111, (.call (.f 122) [(.t 106), (.t 107), (.t 108), (.t 109), (.t 110)]), none, []⟩,
      ⟨some 105, (.mv (.t 111)), none, []⟩,
      ⟨some 112, (.ex (.t 105) 0), none, []⟩,
      ⟨some 113, (.ex (.t 105) 1), none, []⟩,
      ⟨some 16, (.mv (.t 112)), none, []⟩,
      ⟨some 17, (.mv (.t 113)), none, []⟩] [0, 1, 2, 3, 4, 12, 16, 17] []) 
    (.seq 
    (.reg [⟨some 114, (.mv (.t 17)), none, []⟩,
      ⟨some 11, (.mv (.t 114)), none, []⟩] [0, 1, 2, 3, 4, 11, 12, 16] []) 
    (.seq 
    (.reg [⟨some 115, (.mv (.t 16)), none, []⟩,
      ⟨some 116, (.mv (.t 1)), none, []⟩,
      ⟨some 117, (.bin .sub false [] (.t 115) (.t 116)), none, []⟩,
      ⟨some 118, (.mv (.t 2)), none, []⟩,
      ⟨some 119, (.mv (.t 16)), none, []⟩,
      ⟨some 120, (.bin .sub false [] (.t 118) (.t 119)), none, []⟩,
      ⟨some 18, (.mv (.t 117)), none, []⟩,
      ⟨some 19, (.mv (.t 120)), none, []⟩] [0, 1, 2, 3, 4, 11, 12, 16, 18, 19] []) 
    (.seq 
    (.reg [⟨some 121, (.mv (.t 12)), none, []⟩,
      ⟨some 122, (.bin .quo false [] (.t 121) (.c (.i .i64 8))), none, []⟩,
      ⟨some 20, (.mv (.t 122)), none, []⟩] [0, 1, 2, 3, 4, 11, 16, 18, 19, 20] []) 
    (.seq 
    (.reg [⟨some 123, (.mv (.t 18)), none, []⟩,
      ⟨some 124, (.mv (.t 19)), none, []⟩,
      ⟨some 125, (.bin .lss false [] (.t 123) (.t 124)), none, []⟩] [0, 1, 2, 3, 4, 11, 16, 18, 19, 20, 125] []) 
    (.cond (.t 125) 
      (.seq 
      (.reg [⟨some 126, (.mv (.t 18)), none, []⟩,
        ⟨some 127, (.mv (.t 20)), none, []⟩,
        ⟨some 128, (.bin .geq false [] (.t 126) (.t 127)), none, []⟩,
        ⟨some 10, (.mv (.t 128)), none, []⟩] [0, 1, 2, 3, 4, 10, 11, 16] []) 
      (.seq 
      (.reg [⟨some 129, (.mv (.t 0)), none, []⟩,
        ⟨some 130, (.mv (.t 1)), none, []⟩,
        ⟨some 131, (.mv (.t 16)), none, []⟩,
        ⟨some 132, (.mv (.t 3)), none, []⟩,
        ⟨some 133, (.mv (.t 4)), none, []⟩,
        ⟨some 134, (.call (.f 113) [(.t 129), (.t 130), (.t 131), (.t 132), (.t 133)]), none, []⟩] [0, 2, 3, 4, 10, 11, 16] []) 
      (.reg [⟨some 135, (.mv (.t 16)), none, []⟩,
        ⟨some 136, (.bin .add false [] (.t 135) (.c (.i .i64 1))), none, []⟩,
        ⟨some 1, (.mv (.t 136)), none, []⟩] [0, 1, 2, 3, 4, 10, 11] []))) 
      (.seq 
      (.reg [⟨some 137, (.mv (.t 19)), none, []⟩,
        ⟨some 138, (.mv (.t 20)), none, []⟩,
        ⟨some 139, (.bin .geq false [] (.t 137) (.t 138)), none, []⟩,
        ⟨some 10, (.mv (.t 139)), none, []⟩] [0, 1, 2, 3, 4, 10, 11, 16] []) 
      (.seq 
      (.reg [⟨some 140, (.mv (.t 0)), none, []⟩,
        ⟨some 141, (.mv (.t 16)), none, []⟩,
        ⟨some 142, (.bin .add false [] (.t 141) (.c (.i .i64 1))), none, []⟩,
        ⟨some 143, (.mv (.t 2)), none, []⟩,
        ⟨some 144, (.mv (.t 3)), none, []⟩,
        ⟨some 145, (.mv (.t 4)), none, []⟩,
        ⟨some 146, (.call (.f 113) [(.t 140), (.t 142), (.t 143), (.t 144), (.t 145)]), none, []⟩] [0, 1, 3, 4, 10, 11, 16] []) 
      (.reg [⟨some 147, (.mv (.t 16)), none, []⟩,
        ⟨some 2, (.mv (.t 147)), none, []⟩] [0, 1, 2, 3, 4, 10, 11] []))))))))))))))))))
def c113_s0 : IC := 
  (.block 0 (.loop c113_b0))
def c113_s1 : IC := 
  (.seq 
  (.reg [⟨some 11, (.mv (.c (.b true))), none, []⟩] [0, 1, 2, 3, 4, 10, 11] []) c113_s0)
def c113 : IC := 
  (.seq 
  (.reg [⟨some 10, (.mv (.c (.b true))), none, []⟩] [0, 1, 2, 3, 4, 10] []) c113_s1)
def f113 : IF := ⟨c113, 5, []⟩
def c113_k0 {R : Type} (H : Hk R) (Y : Yt R) (dp : Nat) (K : Ex → Env → Mem → Option R) : Ex → Env → Mem → Option R := (kBlk 0 K)

/- math/bits.Len -/
def c114_s0 : IC := .ret
def c114_s1 : IC := 
  (.seq 
  (.reg [⟨some 6, (.mv (.t 0)), none, []⟩,
    ⟨some 7, (.call (.f 124) [(.t 6)]), none, []⟩,
    ⟨some 2, (.mv (.t 7)), none, []⟩] [2] []) c114_s0)
def c114_s2 : IC := 
  (.seq 
  (.cond (.c (.b false)) 
    (.seq 
    (.reg [⟨some 3, (.mv (.t 0)), none, []⟩,
      ⟨some 4, (.cv .u32 (.t 3)), none, []⟩,
      ⟨some 5, (.call (.f 123) [(.t 4)]), none, []⟩,
      ⟨some 2, (.mv (.t 5)), none, []⟩] [2] []) .ret) .skip) c114_s1)
def c114 : IC := 
  (.seq 
  (.reg [⟨some 2, (.mv (.c (.i .i64 0))), none, []⟩] [0] []) c114_s2)
def f114 : IF := ⟨c114, 1, [(.t 2)]⟩

/- slices.insertionSortCmpFunc[glidepath/api.WindVector] -/
def c115_s0 : IC := 
  (.reg [⟨some 15, (.mv (.t 8)), none, []⟩,
    ⟨some 16, (.bin .add false [] (.t 15) (.c (.i .i64 1))), none, []⟩,
    ⟨some 8, (.mv (.t 16)), none, []⟩] [0, 1, 2, 3, 8] [])
def c115_b1 : IC := 
  (.seq 
  (.seq 
  (.dreg [⟨some 18, (.mv (.t 9)), none, []⟩,
    ⟨some 19, (.mv (.t 1)), none, []⟩,
    ⟨some 20, (.bin .gtr false [] (.t 18) (.t 19)), none, []⟩,
    ⟨some 21, (.mv (.t 20)), none, []⟩,
    ⟨some 22, (.mv (.t 3)), some (21, true), []⟩,
    ⟨some 23, (.mv (.t 0)), some (21, true), []⟩,
    ⟨some 24, (.mv (.t 9)), some (21, true), []⟩,
    ⟨some 25, (.ixs 4 (.t 23) (.t 24)), some (21, true), []⟩,
    ⟨some 26, (.ld 4 true (.t 25)), some (21, true), []⟩,
    ⟨some 27, (.mv (.t 0)), some (21, true), []⟩,
    ⟨some 28, (.mv (.t 9)), some (21, true), []⟩,
    ⟨some 29, (.bin .sub false [] (.t 28) (.c (.i .i64 1))), some (21, true), []⟩,
    ⟨some 30, (.ixs 4 (.t 27) (.t 29)), some (21, true), []⟩,
    ⟨some 31, (.ld 4 true (.t 30)), some (21, true), []⟩,
    ⟨some 32, (.call (.t 22) [(.t 26), (.t 31)]), some (21, true), []⟩,
    ⟨some 33, (.bin .lss false [] (.t 32) (.c (.i .i64 0))), some (21, true), []⟩,
    ⟨some 34, (.pick (.t 21) (.t 33) (.c (.b false))), none, []⟩] [[], [], [0, 1], [0, 1, 2], [0, 1, 2, 3], [0, 1, 2, 3], [0, 1, 2, 3], [0, 1, 2, 3, 5, 6], [0, 1, 2, 3, 5, 6, 7], [0, 1, 2, 3], [0, 1, 2, 3], [0, 1, 2, 3, 10], [0, 1, 2, 3, 9, 10, 11], [0, 1, 2, 3, 9, 10, 11, 12], [0, 1, 2, 3, 4, 5, 6, 7, 8, 9, 10, 11, 12, 13], [0, 1, 2, 3, 4, 5, 6, 7, 8, 9, 10, 11, 12, 13, 14], [0, 1, 2, 3, 4, 5, 6, 7, 8, 9, 10, 11, 12, 13, 14, 15]] [0, 1, 2, 3, 8, 9, 34] []) 
  (.cond (.t 34) .skip (.exit 2))) 
  (.seq 
  (.block 3 
    (.dreg [⟨some 37, (.mv (.t 0)), none, []⟩,
      ⟨some 38, (.mv (.t 9)), none, []⟩,
      ⟨some 39, (.mv (.t 0)), none, []⟩,
      ⟨some 40, (.mv (.t 9)), none, []⟩,
      ⟨some 41, (.bin .sub false [] (.t 40) (.c (.i .i64 1))), none, []⟩,
      ⟨some 42, (.mv (.t 0)), none, []⟩,
      ⟨some 43, (.mv (.t 9)), none, []⟩,
      ⟨some 44, (.bin .sub false [] (.t 43) (.c (.i .i64 1))), none, []⟩,
      ⟨some 45, (.ixs 4 (.t 42) (.t 44)), none, []⟩,
      ⟨some 46, (.ld 4 true (.t 45)), none, []⟩,
      ⟨some 47, (.mv (.t 0)), none, []⟩,
      ⟨some 48, (.mv (.t 9)), none, []⟩,
      ⟨some 49, (.ixs 4 (.t 47) (.t 48)), none, []⟩,
      ⟨some 50, (.ld 4 true (.t 49)), none, []⟩,
      ⟨some 51, (.ixs 4 (.t 37) (.t 38)), none, []⟩,
      ⟨none, (.st 4 (.t 51) (.t 46)), none, []⟩,
      ⟨some 52, (.ixs 4 (.t 39) (.t 41)), none, []⟩,
      ⟨none, (.st 4 (.t 52) (.t 50)), none, []⟩] [[], [], [], [], [3], [], [], [6], [5, 6, 7], [5, 6, 7, 8], [], [], [10, 11], [10, 11, 12], [0, 1, 5, 6, 7, 8, 9, 10, 11, 12, 13], [0, 1, 5, 6, 7, 8, 9, 10, 11, 12, 13, 14], [0, 1, 2, 3, 4, 5, 6, 7, 8, 9, 10, 11, 12, 13, 14, 15], [0, 1, 2, 3, 4, 5, 6, 7, 8, 9, 10, 11, 12, 13, 14, 15, 16]] [0, 1, 2, 3, 8, 9] [])) 
  (.reg [⟨some 35, (.mv (.t 9)), none, []⟩,
    ⟨some 36, (.bin .sub false [] (.t 35) (.c (.i .i64 1))), none, []⟩,
    ⟨some 9, (.mv (.t 36)), none, []⟩] [0, 1, 2, 3, 8, 9] [])))
def c115_b0 : IC := 
  (.seq 
  (.seq 
  (.reg [⟨some 12, (.mv (.t 8)), none, []⟩,
    ⟨some 13, (.mv (.t 2)), none, []⟩,
    ⟨some 14, (.bin .lss false [] (.t 12) (.t 13)), none, []⟩] [0, 1, 2, 3, 8, 14] []) 
  (.cond (.t 14) .skip (.exit 0))) 
  (.seq 
  (.block 1 
    (.seq 
    (.reg [⟨some 17, (.mv (.t 8)), none, []⟩,
      ⟨some 9, (.mv (.t 17)), none, []⟩] [0, 1, 2, 3, 8, 9] []) 
    (.block 2 (.loop c115_b1)))) c115_s0))
def c115_s1 : IC := 
  (.block 0 (.loop c115_b0))
def c115 : IC := 
  (.seq 
  (.reg [⟨some 10, (.mv (.t 1)), none, []⟩,
    ⟨some 11, (.bin .add false [] (.t 10) (.c (.i .i64 1))), none, []⟩,
    ⟨some 8, (.mv (.t 11)), none, []⟩] [0, 1, 2, 3, 8] []) c115_s1)
def f115 : IF := ⟨c115, 4, []⟩
def c115_k1 {R : Type} (H : Hk R) (Y : Yt R) (dp : Nat) (K : Ex → Env → Mem → Option R) : Ex → Env → Mem → Option R := (kBlk 2 (kBlk 1 (kSeq (fun env mem k => evC H Y c115_s0 dp env mem k) K)))
def c115_k0 {R : Type} (H : Hk R) (Y : Yt R) (dp : Nat) (K : Ex → Env → Mem → Option R) : Ex → Env → Mem → Option R := (kBlk 0 K)

/- slices.heapSortCmpFunc[glidepath/api.WindVector] -/
def c116_b0 : IC := 
  (.seq 
  (.seq 
  (.reg [⟨some 32, (.mv (.t 12)), none, []⟩,
    ⟨some 33, (.bin .geq false [] (.t 32) (.c (.i .i64 0))), none, []⟩] [0, 3, 8, 9, 12, 33] []) 
  (.cond (.t 33) .skip (.exit 2))) 
  (.seq 
  (.block 3 
    (.seq 
    (.dreg [⟨some 36, (.mv (.t 0)), none, []⟩,
      ⟨some 37, (.mv (.t 8)), none, []⟩,
      ⟨some 38, (.mv (.t 0)), none, []⟩,
      ⟨some 39, (.mv (.t 8)), none, []⟩,
      ⟨some 40, (.mv (.t 12)), none, []⟩,
      ⟨some 41, (.bin .add false [] (.t 39) (.t 40)), none, []⟩,
      ⟨some 42, (.mv (.t 0)), none, []⟩,
      ⟨some 43, (.mv (.t 8)), none, []⟩,
      ⟨some 44, (.mv (.t 12)), none, []⟩,
      ⟨some 45, (.bin .add false [] (.t 43) (.t 44)), none, []⟩,
      ⟨some 46, (.ixs 4 (.t 42) (.t 45)), none, []⟩,
      ⟨some 47, (.ld 4 true (.t 46)), none, []⟩,
      ⟨some 48, (.mv (.t 0)), none, []⟩,
      ⟨some 49, (.mv (.t 8)), none, []⟩,
      ⟨some 50, (.ixs 4 (.t 48) (.t 49)), none, []⟩,
      ⟨some 51, (.ld 4 true (.t 50)), none, []⟩,
      ⟨some 52, (.ixs 4 (.t 36) (.t 37)), none, []⟩,
      ⟨none, (.st 4 (.t 52) (.t 47)), none, []⟩,
      ⟨some 53, (.ixs 4 (.t 38) (.t 41)), none, []⟩,
      ⟨none, (.st 4 (.t 53) (.t 51)), none, []⟩] [[], [], [], [], [], [3, 4], [], [], [], [7, 8], [6, 7, 8, 9], [6, 7, 8, 9, 10], [], [], [12, 13], [12, 13, 14], [0, 1, 6, 7, 8, 9, 10, 11, 12, 13, 14, 15], [0, 1, 6, 7, 8, 9, 10, 11, 12, 13, 14, 15, 16], [0, 1, 2, 3, 4, 5, 6, 7, 8, 9, 10, 11, 12, 13, 14, 15, 16, 17], [0, 1, 2, 3, 4, 5, 6, 7, 8, 9, 10, 11, 12, 13, 14, 15, 16, 17, 18]] [0, 3, 8, 9, 12] []) 
    (.reg [⟨some 54, (.mv (.t 0)), none, []⟩,
      ⟨some 55, (.mv (.t 9)), none, []⟩,
      ⟨some 56, (.mv (.t 12)), none, []⟩,
      ⟨some 57, (.mv (.t 8)), none, []⟩,
      ⟨some 58, (.mv (.t 3)), none, []⟩,
      ⟨some 59, (.call (.f 125) [(.t 54), (.t 55), (.t 56), (.t 57), (.t 58)]), none, []⟩] [0, 3, 8, 9, 12] []))) 
  (.reg [⟨some 34, (.mv (.t 12)), none, []⟩,
    ⟨some 35, (.bin .sub false [] (.t 34) (.c (.i .i64 1))), none, []⟩,
    ⟨some 12, (.mv (.t 35)), none, []⟩] [0, 3, 8, 9, 12] [])))
def c116_s0 : IC := 
  (.block 2 (.loop c116_b0))
def c116_s1 : IC := 
  (.seq 
  (.reg [⟨some 30, (.mv (.t 10)), none, []⟩,
    ⟨some 31, (.bin .sub false [] (.t 30) (.c (.i .i64 1))), none, []⟩,
    ⟨some 12, (.mv (.t 31)), none, []⟩] [0, 3, 8, 9, 12] []) c116_s0)
def c116_b1 : IC := 
  (.seq 
  (.seq 
  (.reg [⟨some 20, (.mv (.t 11)), none, []⟩,
    ⟨some 21, (.bin .geq false [] (.t 20) (.c (.i .i64 0))), none, []⟩] [0, 3, 8, 9, 10, 11, 21] []) 
  (.cond (.t 21) .skip (.exit 0))) 
  (.seq 
  (.block 1 
    (.reg [⟨some 24, (.mv (.t 0)), none, []⟩,
      ⟨some 25, (.mv (.t 11)), none, []⟩,
      ⟨some 26, (.mv (.t 10)), none, []⟩,
      ⟨some 27, (.mv (.t 8)), none, []⟩,
      ⟨some 28, (.mv (.t 3)), none, []⟩,
      ⟨some 29, (.call (.f 125) [(.t 24), (.t 25), (.t 26), (.t 27), (.t 28)]), none, []⟩] [0, 3, 8, 9, 10, 11] [])) 
  (.reg [⟨some 22, (.mv (.t 11)), none, []⟩,
    ⟨some 23, (.bin .sub false [] (.t 22) (.c (.i .i64 1))), none, []⟩,
    ⟨some 11, (.mv (.t 23)), none, []⟩] [0, 3, 8, 9, 10, 11] [])))
def c116_s2 : IC := 
  (.seq 
  (.seq 
  (.reg [⟨some 17, (.mv (.t 10)), none, []⟩,
    ⟨some 18, (.bin .sub false [] (.t 17) (.c (.i .i64 1))), none, []⟩,
    ⟨some 19, (.bin .quo false [] (.t 18) (.c (.i .i64 2))), none, []⟩,
    ⟨some 11, (.mv (.t 19)), none, []⟩] [0, 3, 8, 9, 10, 11] []) 
  (.block 0 (.loop c116_b1))) c116_s1)
def c116_s3 : IC := 
  (.seq 
  (.reg [⟨some 14, (.mv (.t 2)), none, []⟩,
    ⟨some 15, (.mv (.t 1)), none, []⟩,
    ⟨some 16, (.bin .sub false [] (.t 14) (.t 15)), none, []⟩,
    ⟨some 10, (.mv (.t 16)), none, []⟩] [0, 3, 8, 9, 10] []) c116_s2)
def c116_s4 : IC := 
  (.seq 
  (.reg [⟨some 9, (.mv (.c (.i .i64 0))), none, []⟩] [0, 1, 2, 3, 8, 9] []) c116_s3)
def c116 : IC := 
  (.seq 
  (.reg [⟨some 13, (.mv (.t 1)), none, []⟩,
    ⟨some 8, (.mv (.t 13)), none, []⟩] [0, 1, 2, 3, 8] []) c116_s4)
def f116 : IF := ⟨c116, 4, []⟩
def c116_k0 {R : Type} (H : Hk R) (Y : Yt R) (dp : Nat) (K : Ex → Env → Mem → Option R) : Ex → Env → Mem → Option R := (kBlk 2 K)
def c116_k1 {R : Type} (H : Hk R) (Y : Yt R) (dp : Nat) (K : Ex → Env → Mem → Option R) : Ex → Env → Mem → Option R := (kBlk 0 (kSeq (fun env mem k => evC H Y c116_s1 dp env mem k) K))

/- slices.breakPatternsCmpFunc[glidepath/api.WindVector] -/
def c117_b0 : IC := 
  (.seq 
  (.seq 
  (.reg [⟨some 28, (.mv (.t 11)), none, []⟩,
    ⟨some 29, (.mv (.t 1)), none, []⟩,
    ⟨some 30, (.mv (.t 8)), none, []⟩,
    ⟨some 31, (.bin .quo false [] (.t 30) (.c (.i .i64 4))), none, []⟩,
    ⟨some 32, (.bin .mul false [] (.t 31) (.c (.i .i64 2))), none, []⟩,
    ⟨some 33, (.bin .add false [] (.t 29) (.t 32)), none, []⟩,
    ⟨some 34, (.bin .add false [] (.t 33) (.c (.i .i64 1))), none, []⟩,
    ⟨some 35, (.bin .leq false [] (.t 28) (.t 34)), none, []⟩] [0, 1, 8, 9, 10, 11, 35] []) 
  (.cond (.t 35) .skip (.exit 0))) 
  (.seq 
  (.block 1 
    (.seq 
    (.reg [⟨some 38, (.call (.f 127) [(.t 9)]), none, []⟩,
      ⟨some 39, (.mv (.t 10)), none, []⟩,
      ⟨some 40, (.bin .sub false [] (.t 39) (.c (.i .u64 1))), none, []⟩,
      ⟨some 41, (.bin .and false [] (.t 38) (.t 40)), none, []⟩,
      ⟨some 42, (.cv .i64 (.t 41)), none, []⟩,
      ⟨some 12, (.mv (.t 42)), none, []⟩] [0, 1, 8, 9, 10, 11, 12] []) 
    (.seq 
    (.seq 
    (.reg [⟨some 43, (.mv (.t 12)), none, []⟩,
      ⟨some 44, (.mv (.t 8)), none, []⟩,
      ⟨some 45, (.bin .geq false [] (.t 43) (.t 44)), none, []⟩] [0, 1, 8, 9, 10, 11, 12, 45] []) 
    (.cond (.t 45) 
      (.reg [⟨some 46, (.mv (.t 12)), none, []⟩,
        ⟨some 47, (.mv (.t 8)), none, []⟩,
        ⟨some 48, (.bin .sub false [] (.t 46) (.t 47)), none, []⟩,
        ⟨some 12, (.mv (.t 48)), none, []⟩] [0, 1, 8, 9, 10, 11, 12] []) .skip)) 
    (.dreg [⟨some 49, (.mv (.t 0)), none, []⟩,
      ⟨some 50, (.mv (.t 11)), none, []⟩,
      ⟨some 51, (.mv (.t 0)), none, []⟩,
      ⟨some 52, (.mv (.t 1)), none, []⟩,
      ⟨some 53, (.mv (.t 12)), none, []⟩,
      ⟨some 54, (.bin .add false [] (.t 52) (.t 53)), none, []⟩,
      ⟨some 55, (.mv (.t 0)), none, []⟩,
      ⟨some 56, (.mv (.t 1)), none, []⟩,
      ⟨some 57, (.mv (.t 12)), none, []⟩,
      ⟨some 58, (.bin .add false [] (.t 56) (.t 57)), none, []⟩,
      ⟨some 59, (.ixs 4 (.t 55) (.t 58)), none, []⟩,
      ⟨some 60, (.ld 4 true (.t 59)), none, []⟩,
      ⟨some 61, (.mv (.t 0)), none, []⟩,
      ⟨some 62, (.mv (.t 11)), none, []⟩,
      ⟨some 63, (.ixs 4 (.t 61) (.t 62)), none, []⟩,
      ⟨some 64, (.ld 4 true (.t 63)), none, []⟩,
      ⟨some 65, (.ixs 4 (.t 49) (.t 50)), none, []⟩,
      ⟨none, (.st 4 (.t 65) (.t 60)), none, []⟩,
      ⟨some 66, (.ixs 4 (.t 51) (.t 54)), none, []⟩,
      ⟨none, (.st 4 (.t 66) (.t 64)), none, []⟩] [[], [], [], [], [], [3, 4], [], [], [], [7, 8], [6, 7, 8, 9], [6, 7, 8, 9, 10], [], [], [12, 13], [12, 13, 14], [0, 1, 6, 7, 8, 9, 10, 11, 12, 13, 14, 15], [0, 1, 6, 7, 8, 9, 10, 11, 12, 13, 14, 15, 16], [0, 1, 2, 3, 4, 5, 6, 7, 8, 9, 10, 11, 12, 13, 14, 15, 16, 17], [0, 1, 2, 3, 4, 5, 6, 7, 8, 9, 10, 11, 12, 13, 14, 15, 16, 17, 18]] [0, 1, 8, 9, 10, 11] [])))) 
  (.reg [⟨some 36, (.mv (.t 11)), none, []⟩,
    ⟨some 37, (.bin .add false [] (.t 36) (.c (.i .i64 1))), none, []⟩,
    ⟨some 11, (.mv (.t 37)), none, []⟩] [0, 1, 8, 9, 10, 11] [])))
def c117_s0 : IC := 
  (.cond (.t 17) 
    (.seq 
    (.reg [⟨some 18, (.mv (.t 8)), none, []⟩,
      ⟨some 19, (.cv .u64 (.t 18)), none, []⟩,
      ⟨some 9, (.al [(.i .u64 0)]), none, []⟩,
      ⟨none, (.st 1 (.t 9) (.t 19)), none, []⟩] [0, 1, 8, 9] []) 
    (.seq 
    (.reg [⟨some 20, (.mv (.t 8)), none, []⟩,
      ⟨some 21, (.call (.f 126) [(.t 20)]), none, []⟩,
      ⟨some 10, (.mv (.t 21)), none, []⟩] [0, 1, 8, 9, 10] []) 
    (.seq 
    (.reg [⟨some 22, (.mv (.t 1)), none, []⟩,
      ⟨some 23, (.mv (.t 8)), none, []⟩,
      ⟨some 24, (.bin .quo false [] (.t 23) (.c (.i .i64 4))), none, []⟩,
      ⟨some 25, (.bin .mul false [] (.t 24) (.c (.i .i64 2))), none, []⟩,
      ⟨some 26, (.bin .add false [] (.t 22) (.t 25)), none, []⟩,
      ⟨some 27, (.bin .sub false [] (.t 26) (.c (.i .i64 1))), none, []⟩,
      ⟨some 11, (.mv (.t 27)), none, []⟩] [0, 1, 8, 9, 10, 11] []) 
    (.block 0 (.loop c117_b0))))) .skip)
def c117_s1 : IC := 
  (.seq 
  (.reg [⟨some 16, (.mv (.t 8)), none, []⟩,
    ⟨some 17, (.bin .geq false [] (.t 16) (.c (.i .i64 8))), none, []⟩] [0, 1, 8, 17] []) c117_s0)
def c117 : IC := 
  (.seq 
  (.reg [⟨some 13, (.mv (.t 2)), none, []⟩,
    ⟨some 14, (.mv (.t 1)), none, []⟩,
    ⟨some 15, (.bin .sub false [] (.t 13) (.t 14)), none, []⟩,
    ⟨some 8, (.mv (.t 15)), none, []⟩] [0, 1, 8] []) c117_s1)
def f117 : IF := ⟨c117, 4, []⟩
def c117_k0 {R : Type} (H : Hk R) (Y : Yt R) (dp : Nat) (K : Ex → Env → Mem → Option R) : Ex → Env → Mem → Option R := (kBlk 0 K)

/- slices.choosePivotCmpFunc[glidepath/api.WindVector] -/
def c118_s0 : IC := 
  (.block 0 
    (.seq 
    (.reg [⟨some 58, (.bin .eql false [1] (.t 55) (.c (.i .i64 0))), none, []⟩,
      ⟨some 57, (.mv (.t 58)), none, []⟩] [13, 55, 57] []) 
    (.cond (.t 57) 
      (.seq 
      (.reg [⟨some 59, (.mv (.t 13)), none, []⟩,
        ⟨some 8, (.mv (.t 59)), none, []⟩,
        ⟨some 9, (.mv (.c (.i .i64 1))), none, []⟩] [8, 9] []) .ret) 
      (.seq 
      (.reg [⟨some 61, (.bin .eql false [1] (.t 55) (.c (.i .i64 12))), none, []⟩,
        ⟨some 60, (.mv (.t 61)), none, []⟩] [13, 60] []) 
      (.cond (.t 60) 
        (.seq 
        (.reg [⟨some 62, (.mv (.t 13)), none, []⟩,
          ⟨some 8, (.mv (.t 62)), none, []⟩,
          ⟨some 9, (.mv (.c (.i .i64 2))), none, []⟩] [8, 9] []) .ret) 
        (.seq 
        (.reg [⟨some 56, (.mv (.t 13)), none, []⟩,
          ⟨some 8, (.mv (.t 56)), none, []⟩,
          ⟨some 9, (.mv (.c (.i .i64 0))), none, []⟩] [8, 9] []) .ret))))))
def c118_s1 : IC := 
  (.seq 
  (.reg [⟨some 55, (.ld 1 false (.t 11)), none, []⟩] [13, 55] [11]) c118_s0)
def c118_s2 : IC := 
  (.seq 
  (.seq 
  (.reg [⟨some 33, (.mv (.t 10)), none, []⟩,
    ⟨some 34, (.bin .geq false [] (.t 33) (.c (.i .i64 8))), none, []⟩] [0, 3, 10, 11, 12, 13, 14, 34] []) 
  (.cond (.t 34) 
    (.seq 
    (.seq 
    (.reg [⟨some 35, (.mv (.t 10)), none, []⟩,
      ⟨some 36, (.bin .geq false [] (.t 35) (.c (.i .i64 50))), none, []⟩] [0, 3, 11, 12, 13, 14, 36] []) 
    (.cond (.t 36) 
      (.seq 
      (.reg [⟨some 37, (.mv (.t 0)), none, []⟩,
        ⟨some 38, (.mv (.t 12)), none, []⟩,
        ⟨some 39, (.mv (.t 3)), none, []⟩,
        ⟨some 40, (.call (.f 128) [(.t 37), (.t 38), (.t 11), (.t 39)]), none, []⟩,
        ⟨some 12, (.mv (.t 40)), none, []⟩] [0, 3, 11, 12, 13, 14] []) 
      (.seq 
      (.reg [⟨some 41, (.mv (.t 0)), none, []⟩,
        ⟨some 42, (.mv (.t 13)), none, []⟩,
        ⟨some 43, (.mv (.t 3)), none, []⟩,
        ⟨some 44, (.call (.f 128) [(.t 41), (.t 42), (.t 11), (.t 43)]), none, []⟩,
        ⟨some 13, (.mv (.t 44)), none, []⟩] [0, 3, 11, 12, 13, 14] []) 
      (.reg [⟨some 45, (.mv (.t 0)), none, []⟩,
        ⟨some 46, (.mv (.t 14)), none, []⟩,
        ⟨some 47, (.mv (.t 3)), none, []⟩,
        ⟨some 48, (.call (.f 128) [(.t 45), (.t 46), (.t 11), (.t 47)]), none, []⟩,
        ⟨some 14, (.mv (.t 48)), none, []⟩] [0, 3, 11, 12, 13, 14] []))) .skip)) 
    (.reg [⟨some 49, (.mv (.t 0)), none, []⟩,
      ⟨some 50, (.mv (.t 12)), none, []⟩,
      ⟨some 51, (.mv (.t 13)), none, []⟩,
      ⟨some 52, (.mv (.t 14)), none, []⟩,
      ⟨some 53, (.mv (.t 3)), none, []⟩,
      ⟨some 54, (.call (.f 129) [(.t 49), (.t 50), (.t 51), (.t 52), (.t 11), (.t 53)]), none, []⟩,
      ⟨some 13, (.mv (.t 54)), none, []⟩] [11, 13] [])) .skip)) c118_s1)
def c118_s3 : IC := 
  (.seq 
  (.reg [⟨some 28, (.mv (.t 1)), none, []⟩,
    ⟨some 29, (.mv (.t 10)), none, []⟩,
    ⟨some 30, (.bin .quo false [] (.t 29) (.c (.i .i64 4))), none, []⟩,
    ⟨some 31, (.bin .mul false [] (.t 30) (.c (.i .i64 3))), none, []⟩,
    ⟨some 32, (.bin .add false [] (.t 28) (.t 31)), none, []⟩,
    ⟨some 14, (.mv (.t 32)), none, []⟩] [0, 3, 10, 11, 12, 13, 14] []) c118_s2)
def c118_s4 : IC := 
  (.seq 
  (.reg [⟨some 23, (.mv (.t 1)), none, []⟩,
    ⟨some 24, (.mv (.t 10)), none, []⟩,
    ⟨some 25, (.bin .quo false [] (.t 24) (.c (.i .i64 4))), none, []⟩,
    ⟨some 26, (.bin .mul false [] (.t 25) (.c (.i .i64 2))), none, []⟩,
    ⟨some 27, (.bin .add false [] (.t 23) (.t 26)), none, []⟩,
    ⟨some 13, (.mv (.t 27)), none, []⟩] [0, 1, 3, 10, 11, 12, 13] []) c118_s3)
def c118_s5 : IC := 
  (.seq 
  (.reg [⟨some 18, (.mv (.t 1)), none, []⟩,
    ⟨some 19, (.mv (.t 10)), none, []⟩,
    ⟨some 20, (.bin .quo false [] (.t 19) (.c (.i .i64 4))), none, []⟩,
    ⟨some 21, (.bin .mul false [] (.t 20) (.c (.i .i64 1))), none, []⟩,
    ⟨some 22, (.bin .add false [] (.t 18) (.t 21)), none, []⟩,
    ⟨some 12, (.mv (.t 22)), none, []⟩] [0, 1, 3, 10, 11, 12] []) c118_s4)
def c118_s6 : IC := 
  (.seq 
  (.reg [⟨some 11, (.al [(.i .i64 0)]), none, []⟩] [0, 1, 3, 10, 11] []) c118_s5)
def c118_s7 : IC := 
  (.seq 
  (.reg [⟨some 15, (.mv (.t 2)), none, []⟩,
    ⟨some 16, (.mv (.t 1)), none, []⟩,
    ⟨some 17, (.bin .sub false [] (.t 15) (.t 16)), none, []⟩,
    ⟨some 10, (.mv (.t 17)), none, []⟩] [0, 1, 3, 10] []) c118_s6)
def c118 : IC := 
  (.seq 
  (.reg [⟨some 8, (.mv (.c (.i .i64 0))), none, []⟩,
    ⟨some 9, (.mv (.c (.i .i64 0))), none, []⟩] [0, 1, 2, 3] []) c118_s7)
def f118 : IF := ⟨c118, 4, [(.t 8), (.t 9)]⟩

/- slices.reverseRangeCmpFunc[glidepath/api.WindVector] -/
def c119_b0 : IC := 
  (.seq 
  (.seq 
  (.reg [⟨some 13, (.mv (.t 8)), none, []⟩,
    ⟨some 14, (.mv (.t 9)), none, []⟩,
    ⟨some 15, (.bin .lss false [] (.t 13) (.t 14)), none, []⟩] [0, 8, 9, 15] []) 
  (.cond (.t 15) .skip (.exit 0))) 
  (.block 1 
    (.seq 
    (.dreg [⟨some 16, (.mv (.t 0)), none, []⟩,
      ⟨some 17, (.mv (.t 8)), none, []⟩,
      ⟨some 18, (.mv (.t 0)), none, []⟩,
      ⟨some 19, (.mv (.t 9)), none, []⟩,
      ⟨some 20, (.mv (.t 0)), none, []⟩,
      ⟨some 21, (.mv (.t 9)), none, []⟩,
      ⟨some 22, (.ixs 4 (.t 20) (.t 21)), none, []⟩,
      ⟨some 23, (.ld 4 true (.t 22)), none, []⟩,
      ⟨some 24, (.mv (.t 0)), none, []⟩,
      ⟨some 25, (.mv (.t 8)), none, []⟩,
      ⟨some 26, (.ixs 4 (.t 24) (.t 25)), none, []⟩,
      ⟨some 27, (.ld 4 true (.t 26)), none, []⟩,
      ⟨some 28, (.ixs 4 (.t 16) (.t 17)), none, []⟩,
      ⟨none, (.st 4 (.t 28) (.t 23)), none, []⟩,
      ⟨some 29, (.ixs 4 (.t 18) (.t 19)), none, []⟩,
      ⟨none, (.st 4 (.t 29) (.t 27)), none, []⟩] [[], [], [], [], [], [], [4, 5], [4, 5, 6], [], [], [8, 9], [8, 9, 10], [0, 1, 4, 5, 6, 7, 8, 9, 10, 11], [0, 1, 4, 5, 6, 7, 8, 9, 10, 11, 12], [0, 1, 2, 3, 4, 5, 6, 7, 8, 9, 10, 11, 12, 13], [0, 1, 2, 3, 4, 5, 6, 7, 8, 9, 10, 11, 12, 13, 14]] [0, 8, 9] []) 
    (.seq 
    (.reg [⟨some 30, (.mv (.t 8)), none, []⟩,
      ⟨some 31, (.bin .add false [] (.t 30) (.c (.i .i64 1))), none, []⟩,
      ⟨some 8, (.mv (.t 31)), none, []⟩] [0, 8, 9] []) 
    (.reg [⟨some 32, (.mv (.t 9)), none, []⟩,
      ⟨some 33, (.bin .sub false [] (.t 32) (.c (.i .i64 1))), none, []⟩,
      ⟨some 9, (.mv (.t 33)), none, []⟩] [0, 8, 9] [])))))
def c119_s0 : IC := 
  (.block 0 (.loop c119_b0))
def c119_s1 : IC := 
  (.seq 
  (.reg [⟨some 11, (.mv (.t 2)), none, []⟩,
    ⟨some 12, (.bin .sub false [] (.t 11) (.c (.i .i64 1))), none, []⟩,
    ⟨some 9, (.mv (.t 12)), none, []⟩] [0, 8, 9] []) c119_s0)
def c119 : IC := 
  (.seq 
  (.reg [⟨some 10, (.mv (.t 1)), none, []⟩,
    ⟨some 8, (.mv (.t 10)), none, []⟩] [0, 2, 8] []) c119_s1)
def f119 : IF := ⟨c119, 4, []⟩
def c119_k0 {R : Type} (H : Hk R) (Y : Yt R) (dp : Nat) (K : Ex → Env → Mem → Option R) : Ex → Env → Mem → Option R := (kBlk 0 K)

/- slices.partialInsertionSortCmpFunc[glidepath/api.WindVector] -/
def c120_s0 : IC := .ret
def c120_s1 : IC := 
  (.seq 
  (.reg [⟨some 8, (.mv (.c (.b false))), none, []⟩] [8] []) c120_s0)
def c120_s2 : IC := 
  (.reg [⟨some 17, (.mv (.t 10)), none, []⟩,
    ⟨some 18, (.bin .add false [] (.t 17) (.c (.i .i64 1))), none, []⟩,
    ⟨some 10, (.mv (.t 18)), none, []⟩] [0, 1, 2, 3, 9, 10] [])
def c120_b1 : IC := 
  (.seq 
  (.seq 
  (.reg [⟨some 107, (.mv (.t 12)), none, []⟩,
    ⟨some 108, (.mv (.t 2)), none, []⟩,
    ⟨some 109, (.bin .lss false [] (.t 107) (.t 108)), none, []⟩] [0, 1, 2, 3, 9, 10, 12, 109] []) 
  (.cond (.t 109) .skip (.exit 6))) 
  (.seq 
  (.block 7 
    (.seq 
    (.seq 
    (.dreg [⟨some 112, (.mv (.t 3)), none, []⟩,
      ⟨some 113, (.mv (.t 0)), none, []⟩,
      ⟨some 114, (.mv (.t 12)), none, []⟩,
      ⟨some 115, (.ixs 4 (.t 113) (.t 114)), none, []⟩,
      ⟨some 116, (.ld 4 true (.t 115)), none, []⟩,
      ⟨some 117, (.mv (.t 0)), none, []⟩,
      ⟨some 118, (.mv (.t 12)), none, []⟩,
      ⟨some 119, (.bin .sub false [] (.t 118) (.c (.i .i64 1))), none, []⟩,
      ⟨some 120, (.ixs 4 (.t 117) (.t 119)), none, []⟩,
      ⟨some 121, (.ld 4 true (.t 120)), none, []⟩,
      ⟨some 122, (.call (.t 112) [(.t 116), (.t 121)]), none, []⟩,
      ⟨some 123, (.bin .lss false [] (.t 122) (.c (.i .i64 0))), none, []⟩,
      ⟨some 124, (.un .not (.t 123)), none, []⟩] [[], [], [], [1, 2], [1, 2, 3], [], [], [6], [5, 6, 7], [5, 6, 7, 8], [0, 1, 2, 3, 4, 5, 6, 7, 8, 9], [0, 1, 2, 3, 4, 5, 6, 7, 8, 9, 10], [0, 1, 2, 3, 4, 5, 6, 7, 8, 9, 10, 11]] [0, 1, 2, 3, 9, 10, 12, 124] []) 
    (.cond (.t 124) (.exit 6) .skip)) 
    (.dreg [⟨some 125, (.mv (.t 0)), none, []⟩,
      ⟨some 126, (.mv (.t 12)), none, []⟩,
      ⟨some 127, (.mv (.t 0)), none, []⟩,
      ⟨some 128, (.mv (.t 12)), none, []⟩,
      ⟨some 129, (.bin .sub false [] (.t 128) (.c (.i .i64 1))), none, []⟩,
      ⟨some 130, (.mv (.t 0)), none, []⟩,
      ⟨some 131, (.mv (.t 12)), none, []⟩,
      ⟨some 132, (.bin .sub false [] (.t 131) (.c (.i .i64 1))), none, []⟩,
      ⟨some 133, (.ixs 4 (.t 130) (.t 132)), none, []⟩,
      ⟨some 134, (.ld 4 true (.t 133)), none, []⟩,
      ⟨some 135, (.mv (.t 0)), none, []⟩,
      ⟨some 136, (.mv (.t 12)), none, []⟩,
      ⟨some 137, (.ixs 4 (.t 135) (.t 136)), none, []⟩,
      ⟨some 138, (.ld 4 true (.t 137)), none, []⟩,
      ⟨some 139, (.ixs 4 (.t 125) (.t 126)), none, []⟩,
      ⟨none, (.st 4 (.t 139) (.t 134)), none, []⟩,
      ⟨some 140, (.ixs 4 (.t 127) (.t 129)), none, []⟩,
      ⟨none, (.st 4 (.t 140) (.t 138)), none, []⟩] [[], [], [], [], [3], [], [], [6], [5, 6, 7], [5, 6, 7, 8], [], [], [10, 11], [10, 11, 12], [0, 1, 5, 6, 7, 8, 9, 10, 11, 12, 13], [0, 1, 5, 6, 7, 8, 9, 10, 11, 12, 13, 14], [0, 1, 2, 3, 4, 5, 6, 7, 8, 9, 10, 11, 12, 13, 14, 15], [0, 1, 2, 3, 4, 5, 6, 7, 8, 9, 10, 11, 12, 13, 14, 15, 16]] [0, 1, 2, 3, 9, 10, 12] []))) 
  (.reg [⟨some 110, (.mv (.t 12)), none, []⟩,
    ⟨some 111, (.bin .add false [] (.t 110) (.c (.i .i64 1))), none, []⟩,
    ⟨some 12, (.mv (.t 111)), none, []⟩] [0, 1, 2, 3, 9, 10, 12] [])))
def c120_s3 : IC := 
    (.seq 
    (.reg [⟨some 101, (.mv (.t 2)), none, []⟩,
      ⟨some 102, (.mv (.t 9)), none, []⟩,
      ⟨some 103, (.bin .sub false [] (.t 101) (.t 102)), none, []⟩,
      ⟨some 104, (.bin .geq false [] (.t 103) (.c (.i .i64 2))), none, []⟩] [0, 1, 2, 3, 9, 10, 104] []) 
    (.cond (.t 104) 
      (.seq 
      (.reg [⟨some 105, (.mv (.t 9)), none, []⟩,
        ⟨some 106, (.bin .add false [] (.t 105) (.c (.i .i64 1))), none, []⟩,
        ⟨some 12, (.mv (.t 106)), none, []⟩] [0, 1, 2, 3, 9, 10, 12] []) 
      (.block 6 (.loop c120_b1))) .skip))
def c120_b2 : IC := 
  (.seq 
  (.seq 
  (.reg [⟨some 68, (.mv (.t 11)), none, []⟩,
    ⟨some 69, (.bin .geq false [] (.t 68) (.c (.i .i64 1))), none, []⟩] [0, 1, 2, 3, 9, 10, 11, 69] []) 
  (.cond (.t 69) .skip (.exit 4))) 
  (.seq 
  (.block 5 
    (.seq 
    (.seq 
    (.dreg [⟨some 72, (.mv (.t 3)), none, []⟩,
      ⟨some 73, (.mv (.t 0)), none, []⟩,
      ⟨some 74, (.mv (.t 11)), none, []⟩,
      ⟨some 75, (.ixs 4 (.t 73) (.t 74)), none, []⟩,
      ⟨some 76, (.ld 4 true (.t 75)), none, []⟩,
      ⟨some 77, (.mv (.t 0)), none, []⟩,
      ⟨some 78, (.mv (.t 11)), none, []⟩,
      ⟨some 79, (.bin .sub false [] (.t 78) (.c (.i .i64 1))), none, []⟩,
      ⟨some 80, (.ixs 4 (.t 77) (.t 79)), none, []⟩,
      ⟨some 81, (.ld 4 true (.t 80)), none, []⟩,
      ⟨some 82, (.call (.t 72) [(.t 76), (.t 81)]), none, []⟩,
      ⟨some 83, (.bin .lss false [] (.t 82) (.c (.i .i64 0))), none, []⟩,
      ⟨some 84, (.un .not (.t 83)), none, []⟩] [[], [], [], [1, 2], [1, 2, 3], [], [], [6], [5, 6, 7], [5, 6, 7, 8], [0, 1, 2, 3, 4, 5, 6, 7, 8, 9], [0, 1, 2, 3, 4, 5, 6, 7, 8, 9, 10], [0, 1, 2, 3, 4, 5, 6, 7, 8, 9, 10, 11]] [0, 1, 2, 3, 9, 10, 11, 84] []) 
    (.cond (.t 84) (.exit 4) .skip)) 
    (.dreg [⟨some 85, (.mv (.t 0)), none, []⟩,
      ⟨some 86, (.mv (.t 11)), none, []⟩,
      ⟨some 87, (.mv (.t 0)), none, []⟩,
      ⟨some 88, (.mv (.t 11)), none, []⟩,
      ⟨some 89, (.bin .sub false [] (.t 88) (.c (.i .i64 1))), none, []⟩,
      ⟨some 90, (.mv (.t 0)), none, []⟩,
      ⟨some 91, (.mv (.t 11)), none, []⟩,
      ⟨some 92, (.bin .sub false [] (.t 91) (.c (.i .i64 1))), none, []⟩,
      ⟨some 93, (.ixs 4 (.t 90) (.t 92)), none, []⟩,
      ⟨some 94, (.ld 4 true (.t 93)), none, []⟩,
      ⟨some 95, (.mv (.t 0)), none, []⟩,
      ⟨some 96, (.mv (.t 11)), none, []⟩,
      ⟨some 97, (.ixs 4 (.t 95) (.t 96)), none, []⟩,
      ⟨some 98, (.ld 4 true (.t 97)), none, []⟩,
      ⟨some 99, (.ixs 4 (.t 85) (.t 86)), none, []⟩,
      ⟨none, (.st 4 (.t 99) (.t 94)), none, []⟩,
      ⟨some 100, (.ixs 4 (.t 87) (.t 89)), none, []⟩,
      ⟨none, (.st 4 (.t 100) (.t 98)), none, []⟩] [[], [], [], [], [3], [], [], [6], [5, 6, 7], [5, 6, 7, 8], [], [], [10, 11], [10, 11, 12], [0, 1, 5, 6, 7, 8, 9, 10, 11, 12, 13], [0, 1, 5, 6, 7, 8, 9, 10, 11, 12, 13, 14], [0, 1, 2, 3, 4, 5, 6, 7, 8, 9, 10, 11, 12, 13, 14, 15], [0, 1, 2, 3, 4, 5, 6, 7, 8, 9, 10, 11, 12, 13, 14, 15, 16]] [0, 1, 2, 3, 9, 10, 11] []))) 
  (.reg [⟨some 70, (.mv (.t 11)), none, []⟩,
    ⟨some 71, (.bin .sub false [] (.t 70) (.c (.i .i64 1))), none, []⟩,
    ⟨some 11, (.mv (.t 71)), none, []⟩] [0, 1, 2, 3, 9, 10, 11] [])))
def c120_s4 : IC := 
    (.seq 
    (.seq 
    (.reg [⟨some 39, (.mv (.t 9)), none, []⟩,
      ⟨some 40, (.mv (.t 2)), none, []⟩,
      ⟨some 41, (.bin .eql false [1] (.t 39) (.t 40)), none, []⟩] [0, 1, 2, 3, 9, 10, 41] []) 
    (.cond (.t 41) 
      (.seq 
      (.reg [⟨some 8, (.mv (.c (.b true))), none, []⟩] [8] []) .ret) .skip)) 
    (.seq 
    (.seq 
    (.reg [⟨some 42, (.mv (.t 2)), none, []⟩,
      ⟨some 43, (.mv (.t 1)), none, []⟩,
      ⟨some 44, (.bin .sub false [] (.t 42) (.t 43)), none, []⟩,
      ⟨some 45, (.bin .lss false [] (.t 44) (.c (.i .i64 50))), none, []⟩] [0, 1, 2, 3, 9, 10, 45] []) 
    (.cond (.t 45) 
      (.seq 
      (.reg [⟨some 8, (.mv (.c (.b false))), none, []⟩] [8] []) .ret) .skip)) 
    (.seq 
    (.dreg [⟨some 46, (.mv (.t 0)), none, []⟩,
      ⟨some 47, (.mv (.t 9)), none, []⟩,
      ⟨some 48, (.mv (.t 0)), none, []⟩,
      ⟨some 49, (.mv (.t 9)), none, []⟩,
      ⟨some 50, (.bin .sub false [] (.t 49) (.c (.i .i64 1))), none, []⟩,
      ⟨some 51, (.mv (.t 0)), none, []⟩,
      ⟨some 52, (.mv (.t 9)), none, []⟩,
      ⟨some 53, (.bin .sub false [] (.t 52) (.c (.i .i64 1))), none, []⟩,
      ⟨some 54, (.ixs 4 (.t 51) (.t 53)), none, []⟩,
      ⟨some 55, (.ld 4 true (.t 54)), none, []⟩,
      ⟨some 56, (.mv (.t 0)), none, []⟩,
      ⟨some 57, (.mv (.t 9)), none, []⟩,
      ⟨some 58, (.ixs 4 (.t 56) (.t 57)), none, []⟩,
      ⟨some 59, (.ld 4 true (.t 58)), none, []⟩,
      ⟨some 60, (.ixs 4 (.t 46) (.t 47)), none, []⟩,
      ⟨none, (.st 4 (.t 60) (.t 55)), none, []⟩,
      ⟨some 61, (.ixs 4 (.t 48) (.t 50)), none, []⟩,
      ⟨none, (.st 4 (.t 61) (.t 59)), none, []⟩] [[], [], [], [], [3], [], [], [6], [5, 6, 7], [5, 6, 7, 8], [], [], [10, 11], [10, 11, 12], [0, 1, 5, 6, 7, 8, 9, 10, 11, 12, 13], [0, 1, 5, 6, 7, 8, 9, 10, 11, 12, 13, 14], [0, 1, 2, 3, 4, 5, 6, 7, 8, 9, 10, 11, 12, 13, 14, 15], [0, 1, 2, 3, 4, 5, 6, 7, 8, 9, 10, 11, 12, 13, 14, 15, 16]] [0, 1, 2, 3, 9, 10] []) 
    (.seq 
    (.seq 
    (.reg [⟨some 62, (.mv (.t 9)), none, []⟩,
      ⟨some 63, (.mv (.t 1)), none, []⟩,
      ⟨some 64, (.bin .sub false [] (.t 62) (.t 63)), none, []⟩,
      ⟨some 65, (.bin .geq false [] (.t 64) (.c (.i .i64 2))), none, []⟩] [0, 1, 2, 3, 9, 10, 65] []) 
    (.cond (.t 65) 
      (.seq 
      (.reg [⟨some 66, (.mv (.t 9)), none, []⟩,
        ⟨some 67, (.bin .sub false [] (.t 66) (.c (.i .i64 1))), none, []⟩,
        ⟨some 11, (.mv (.t 67)), none, []⟩] [0, 1, 2, 3, 9, 10, 11] []) 
      (.block 4 (.loop c120_b2))) .skip)) c120_s3))))
def c120_b3 : IC := 
  (.seq 
  (.seq 
  (.dreg [⟨some 19, (.mv (.t 9)), none, []⟩,
    ⟨some 20, (.mv (.t 2)), none, []⟩,
    ⟨some 21, (.bin .lss false [] (.t 19) (.t 20)), none, []⟩,
    ⟨some 22, (.mv (.t 21)), none, []⟩,
    ⟨some 23, (.mv (.t 3)), some (22, true), []⟩,
    ⟨some 24, (.mv (.t 0)), some (22, true), []⟩,
    ⟨some 25, (.mv (.t 9)), some (22, true), []⟩,
    ⟨some 26, (.ixs 4 (.t 24) (.t 25)), some (22, true), []⟩,
    ⟨some 27, (.ld 4 true (.t 26)), some (22, true), []⟩,
    ⟨some 28, (.mv (.t 0)), some (22, true), []⟩,
    ⟨some 29, (.mv (.t 9)), some (22, true), []⟩,
    ⟨some 30, (.bin .sub false [] (.t 29) (.c (.i .i64 1))), some (22, true), []⟩,
    ⟨some 31, (.ixs 4 (.t 28) (.t 30)), some (22, true), []⟩,
    ⟨some 32, (.ld 4 true (.t 31)), some (22, true), []⟩,
    ⟨some 33, (.call (.t 23) [(.t 27), (.t 32)]), some (22, true), []⟩,
    ⟨some 34, (.bin .lss false [] (.t 33) (.c (.i .i64 0))), some (22, true), []⟩,
    ⟨some 35, (.un .not (.t 34)), some (22, true), []⟩,
    ⟨some 36, (.pick (.t 22) (.t 35) (.c (.b false))), none, []⟩] [[], [], [0, 1], [0, 1, 2], [0, 1, 2, 3], [0, 1, 2, 3], [0, 1, 2, 3], [0, 1, 2, 3, 5, 6], [0, 1, 2, 3, 5, 6, 7], [0, 1, 2, 3], [0, 1, 2, 3], [0, 1, 2, 3, 10], [0, 1, 2, 3, 9, 10, 11], [0, 1, 2, 3, 9, 10, 11, 12], [0, 1, 2, 3, 4, 5, 6, 7, 8, 9, 10, 11, 12, 13], [0, 1, 2, 3, 4, 5, 6, 7, 8, 9, 10, 11, 12, 13, 14], [0, 1, 2, 3, 4, 5, 6, 7, 8, 9, 10, 11, 12, 13, 14, 15], [0, 1, 2, 3, 4, 5, 6, 7, 8, 9, 10, 11, 12, 13, 14, 15, 16]] [0, 1, 2, 3, 9, 10, 36] []) 
  (.cond (.t 36) .skip (.exit 2))) 
  (.block 3 
    (.reg [⟨some 37, (.mv (.t 9)), none, []⟩,
      ⟨some 38, (.bin .add false [] (.t 37) (.c (.i .i64 1))), none, []⟩,
      ⟨some 9, (.mv (.t 38)), none, []⟩] [0, 1, 2, 3, 9, 10] [])))
def c120_b0 : IC := 
  (.seq 
  (.seq 
  (.reg [⟨some 15, (.mv (.t 10)), none, []⟩,
    ⟨some 16, (.bin .lss false [] (.t 15) (.c (.i .i64 5))), none, []⟩] [0, 1, 2, 3, 9, 10, 16] []) 
  (.cond (.t 16) .skip (.exit 0))) 
  (.seq 
  (.block 1 
    (.seq 
    (.block 2 (.loop c120_b3)) c120_s4)) c120_s2))
def c120_s5 : IC := 
  (.seq 
  (.seq 
  (.reg [⟨some 10, (.mv (.c (.i .i64 0))), none, []⟩] [0, 1, 2, 3, 9, 10] []) 
  (.block 0 (.loop c120_b0))) c120_s1)
def c120_s6 : IC := 
  (.seq 
  (.reg [⟨some 13, (.mv (.t 1)), none, []⟩,
    ⟨some 14, (.bin .add false [] (.t 13) (.c (.i .i64 1))), none, []⟩,
    ⟨some 9, (.mv (.t 14)), none, []⟩] [0, 1, 2, 3, 9] []) c120_s5)
def c120 : IC := 
  (.seq 
  (.reg [⟨some 8, (.mv (.c (.b false))), none, []⟩] [0, 1, 2, 3] []) c120_s6)
def f120 : IF := ⟨c120, 4, [(.t 8)]⟩
def c120_k1 {R : Type} (H : Hk R) (Y : Yt R) (dp : Nat) (K : Ex → Env → Mem → Option R) : Ex → Env → Mem → Option R := (kBlk 6 (kBlk 1 (kSeq (fun env mem k => evC H Y c120_s2 dp env mem k) K)))
def c120_k2 {R : Type} (H : Hk R) (Y : Yt R) (dp : Nat) (K : Ex → Env → Mem → Option R) : Ex → Env → Mem → Option R := (kBlk 4 (kSeq (fun env mem k => evC H Y c120_s3 dp env mem k) (kBlk 1 (kSeq (fun env mem k => evC H Y c120_s2 dp env mem k) K))))
def c120_k3 {R : Type} (H : Hk R) (Y : Yt R) (dp : Nat) (K : Ex → Env → Mem → Option R) : Ex → Env → Mem → Option R := (kBlk 2 (kSeq (fun env mem k => evC H Y c120_s4 dp env mem k) (kBlk 1 (kSeq (fun env mem k => evC H Y c120_s2 dp env mem k) K))))
def c120_k0 {R : Type} (H : Hk R) (Y : Yt R) (dp : Nat) (K : Ex → Env → Mem → Option R) : Ex → Env → Mem → Option R := (kBlk 0 (kSeq (fun env mem k => evC H Y c120_s1 dp env mem k) K))

/- slices.partitionEqualCmpFunc[glidepath/api.WindVector] -/
def c121_s0 : IC := .ret
def c121_s1 : IC := 
  (.seq 
  (.reg [⟨some 89, (.mv (.t 11)), none, []⟩,
    ⟨some 10, (.mv (.t 89)), none, []⟩] [10] []) c121_s0)
def c121_s2 : IC := 
    (.seq 
    (.seq 
    (.reg [⟨some 68, (.mv (.t 11)), none, []⟩,
      ⟨some 69, (.mv (.t 12)), none, []⟩,
      ⟨some 70, (.bin .gtr false [] (.t 68) (.t 69)), none, []⟩] [0, 1, 4, 11, 12, 70] []) 
    (.cond (.t 70) (.exit 0) .skip)) 
    (.seq 
    (.dreg [⟨some 71, (.mv (.t 0)), none, []⟩,
      ⟨some 72, (.mv (.t 11)), none, []⟩,
      ⟨some 73, (.mv (.t 0)), none, []⟩,
      ⟨some 74, (.mv (.t 12)), none, []⟩,
      ⟨some 75, (.mv (.t 0)), none, []⟩,
      ⟨some 76, (.mv (.t 12)), none, []⟩,
      ⟨some 77, (.ixs 4 (.t 75) (.t 76)), none, []⟩,
      ⟨some 78, (.ld 4 true (.t 77)), none, []⟩,
      ⟨some 79, (.mv (.t 0)), none, []⟩,
      ⟨some 80, (.mv (.t 11)), none, []⟩,
      ⟨some 81, (.ixs 4 (.t 79) (.t 80)), none, []⟩,
      ⟨some 82, (.ld 4 true (.t 81)), none, []⟩,
      ⟨some 83, (.ixs 4 (.t 71) (.t 72)), none, []⟩,
      ⟨none, (.st 4 (.t 83) (.t 78)), none, []⟩,
      ⟨some 84, (.ixs 4 (.t 73) (.t 74)), none, []⟩,
      ⟨none, (.st 4 (.t 84) (.t 82)), none, []⟩] [[], [], [], [], [], [], [4, 5], [4, 5, 6], [], [], [8, 9], [8, 9, 10], [0, 1, 4, 5, 6, 7, 8, 9, 10, 11], [0, 1, 4, 5, 6, 7, 8, 9, 10, 11, 12], [0, 1, 2, 3, 4, 5, 6, 7, 8, 9, 10, 11, 12, 13], [0, 1, 2, 3, 4, 5, 6, 7, 8, 9, 10, 11, 12, 13, 14]] [0, 1, 4, 11, 12] []) 
    (.seq 
    (.reg [⟨some 85, (.mv (.t 11)), none, []⟩,
      ⟨some 86, (.bin .add false [] (.t 85) (.c (.i .i64 1))), none, []⟩,
      ⟨some 11, (.mv (.t 86)), none, []⟩] [0, 1, 4, 11, 12] []) 
    (.reg [⟨some 87, (.mv (.t 12)), none, []⟩,
      ⟨some 88, (.bin .sub false [] (.t 87) (.c (.i .i64 1))), none, []⟩,
      ⟨some 12, (.mv (.t 88)), none, []⟩] [0, 1, 4, 11, 12] []))))
def c121_b1 : IC := 
  (.seq 
  (.seq 
  (.dreg [⟨some 50, (.mv (.t 11)), none, []⟩,
    ⟨some 51, (.mv (.t 12)), none, []⟩,
    ⟨some 52, (.bin .leq false [] (.t 50) (.t 51)), none, []⟩,
    ⟨some 53, (.mv (.t 52)), none, []⟩,
    ⟨some 54, (.mv (.t 4)), some (53, true), []⟩,
    ⟨some 55, (.mv (.t 0)), some (53, true), []⟩,
    ⟨some 56, (.mv (.t 1)), some (53, true), []⟩,
    ⟨some 57, (.ixs 4 (.t 55) (.t 56)), some (53, true), []⟩,
    ⟨some 58, (.ld 4 true (.t 57)), some (53, true), []⟩,
    ⟨some 59, (.mv (.t 0)), some (53, true), []⟩,
    ⟨some 60, (.mv (.t 12)), some (53, true), []⟩,
    ⟨some 61, (.ixs 4 (.t 59) (.t 60)), some (53, true), []⟩,
    ⟨some 62, (.ld 4 true (.t 61)), some (53, true), []⟩,
    ⟨some 63, (.call (.t 54) [(.t 58), (.t 62)]), some (53, true), []⟩,
    ⟨some 64, (.bin .lss false [] (.t 63) (.c (.i .i64 0))), some (53, true), []⟩,
    ⟨some 65, (.pick (.t 53) (.t 64) (.c (.b false))), none, []⟩] [[], [], [0, 1], [0, 1, 2], [0, 1, 2, 3], [0, 1, 2, 3], [0, 1, 2, 3], [0, 1, 2, 3, 5, 6], [0, 1, 2, 3, 5, 6, 7], [0, 1, 2, 3], [0, 1, 2, 3], [0, 1, 2, 3, 9, 10], [0, 1, 2, 3, 9, 10, 11], [0, 1, 2, 3, 4, 5, 6, 7, 8, 9, 10, 11, 12], [0, 1, 2, 3, 4, 5, 6, 7, 8, 9, 10, 11, 12, 13], [0, 1, 2, 3, 4, 5, 6, 7, 8, 9, 10, 11, 12, 13, 14]] [0, 1, 4, 11, 12, 65] []) 
  (.cond (.t 65) .skip (.exit 4))) 
  (.block 5 
    (.reg [⟨some 66, (.mv (.t 12)), none, []⟩,
      ⟨some 67, (.bin .sub false [] (.t 66) (.c (.i .i64 1))), none, []⟩,
      ⟨some 12, (.mv (.t 67)), none, []⟩] [0, 1, 4, 11, 12] [])))
def c121_s3 : IC := 
    (.seq 
    (.block 4 (.loop c121_b1)) c121_s2)
def c121_b2 : IC := 
  (.seq 
  (.seq 
  (.dreg [⟨some 31, (.mv (.t 11)), none, []⟩,
    ⟨some 32, (.mv (.t 12)), none, []⟩,
    ⟨some 33, (.bin .leq false [] (.t 31) (.t 32)), none, []⟩,
    ⟨some 34, (.mv (.t 33)), none, []⟩,
    ⟨some 35, (.mv (.t 4)), some (34, true), []⟩,
    ⟨some 36, (.mv (.t 0)), some (34, true), []⟩,
    ⟨some 37, (.mv (.t 1)), some (34, true), []⟩,
    ⟨some 38, (.ixs 4 (.t 36) (.t 37)), some (34, true), []⟩,
    ⟨some 39, (.ld 4 true (.t 38)), some (34, true), []⟩,
    ⟨some 40, (.mv (.t 0)), some (34, true), []⟩,
    ⟨some 41, (.mv (.t 11)), some (34, true), []⟩,
    ⟨some 42, (.ixs 4 (.t 40) (.t 41)), some (34, true), []⟩,
    ⟨some 43, (.ld 4 true (.t 42)), some (34, true), []⟩,
    ⟨some 44, (.call (.t 35) [(.t 39), (.t 43)]), some (34, true), []⟩,
    ⟨some 45, (.bin .lss false [] (.t 44) (.c (.i .i64 0))), some (34, true), []⟩,
    ⟨some 46, (.un .not (.t 45)), some (34, true), []⟩,
    ⟨some 47, (.pick (.t 34) (.t 46) (.c (.b false))), none, []⟩] [[], [], [0, 1], [0, 1, 2], [0, 1, 2, 3], [0, 1, 2, 3], [0, 1, 2, 3], [0, 1, 2, 3, 5, 6], [0, 1, 2, 3, 5, 6, 7], [0, 1, 2, 3], [0, 1, 2, 3], [0, 1, 2, 3, 9, 10], [0, 1, 2, 3, 9, 10, 11], [0, 1, 2, 3, 4, 5, 6, 7, 8, 9, 10, 11, 12], [0, 1, 2, 3, 4, 5, 6, 7, 8, 9, 10, 11, 12, 13], [0, 1, 2, 3, 4, 5, 6, 7, 8, 9, 10, 11, 12, 13, 14], [0, 1, 2, 3, 4, 5, 6, 7, 8, 9, 10, 11, 12, 13, 14, 15]] [0, 1, 4, 11, 12, 47] []) 
  (.cond (.t 47) .skip (.exit 2))) 
  (.block 3 
    (.reg [⟨some 48, (.mv (.t 11)), none, []⟩,
      ⟨some 49, (.bin .add false [] (.t 48) (.c (.i .i64 1))), none, []⟩,
      ⟨some 11, (.mv (.t 49)), none, []⟩] [0, 1, 4, 11, 12] [])))
def c121_b0 : IC := 
  (.block 1 
    (.seq 
    (.block 2 (.loop c121_b2)) c121_s3))
def c121_s4 : IC := 
  (.seq 
  (.block 0 (.loop c121_b0)) c121_s1)
def c121_s5 : IC := 
  (.seq 
  (.reg [⟨some 27, (.mv (.t 1)), none, []⟩,
    ⟨some 28, (.bin .add false [] (.t 27) (.c (.i .i64 1))), none, []⟩,
    ⟨some 29, (.mv (.t 2)), none, []⟩,
    ⟨some 30, (.bin .sub false [] (.t 29) (.c (.i .i64 1))), none, []⟩,
    ⟨some 11, (.mv (.t 28)), none, []⟩,
    ⟨some 12, (.mv (.t 30)), none, []⟩] [0, 1, 4, 11, 12] []) c121_s4)
def c121_s6 : IC := 
  (.seq 
  (.dreg [⟨some 13, (.mv (.t 0)), none, []⟩,
    ⟨some 14, (.mv (.t 1)), none, []⟩,
    ⟨some 15, (.mv (.t 0)), none, []⟩,
    ⟨some 16, (.mv (.t 3)), none, []⟩,
    ⟨some 17, (.mv (.t 0)), none, []⟩,
    ⟨some 18, (.mv (.t 3)), none, []⟩,
    ⟨some 19, (.ixs 4 (.t 17) (.t 18)), none, []⟩,
    ⟨some 20, (.ld 4 true (.t 19)), none, []⟩,
    ⟨some 21, (.mv (.t 0)), none, []⟩,
    ⟨some 22, (.mv (.t 1)), none, []⟩,
    ⟨some 23, (.ixs 4 (.t 21) (.t 22)), none, []⟩,
    ⟨some 24, (.ld 4 true (.t 23)), none, []⟩,
    ⟨some 25, (.ixs 4 (.t 13) (.t 14)), none, []⟩,
    ⟨none, (.st 4 (.t 25) (.t 20)), none, []⟩,
    ⟨some 26, (.ixs 4 (.t 15) (.t 16)), none, []⟩,
    ⟨none, (.st 4 (.t 26) (.t 24)), none, []⟩] [[], [], [], [], [], [], [4, 5], [4, 5, 6], [], [], [8, 9], [8, 9, 10], [0, 1, 4, 5, 6, 7, 8, 9, 10, 11], [0, 1, 4, 5, 6, 7, 8, 9, 10, 11, 12], [0, 1, 2, 3, 4, 5, 6, 7, 8, 9, 10, 11, 12, 13], [0, 1, 2, 3, 4, 5, 6, 7, 8, 9, 10, 11, 12, 13, 14]] [0, 1, 2, 4] []) c121_s5)
def c121 : IC := 
  (.seq 
  (.reg [⟨some 10, (.mv (.c (.i .i64 0))), none, []⟩] [0, 1, 2, 3, 4] []) c121_s6)
def f121 : IF := ⟨c121, 5, [(.t 10)]⟩
def c121_k1 {R : Type} (H : Hk R) (Y : Yt R) (dp : Nat) (K : Ex → Env → Mem → Option R) : Ex → Env → Mem → Option R := (kBlk 4 (kSeq (fun env mem k => evC H Y c121_s2 dp env mem k) (kBlk 1 K)))
def c121_k2 {R : Type} (H : Hk R) (Y : Yt R) (dp : Nat) (K : Ex → Env → Mem → Option R) : Ex → Env → Mem → Option R := (kBlk 2 (kSeq (fun env mem k => evC H Y c121_s3 dp env mem k) (kBlk 1 K)))
def c121_k0 {R : Type} (H : Hk R) (Y : Yt R) (dp : Nat) (K : Ex → Env → Mem → Option R) : Ex → Env → Mem → Option R := (kBlk 0 (kSeq (fun env mem k => evC H Y c121_s1 dp env mem k) K))

/- slices.partitionCmpFunc[glidepath/api.WindVector] -/
def c122_s0 : IC := .ret
def c122_s1 : IC := 
  (.seq 
  (.reg [⟨some 177, (.mv (.t 13)), none, []⟩,
    ⟨some 10, (.mv (.t 177)), none, []⟩,
    ⟨some 11, (.mv (.c (.b false))), none, []⟩] [10, 11] []) c122_s0)
def c122_s2 : IC := 
  (.seq 
  (.dreg [⟨some 163, (.mv (.t 0)), none, []⟩,
    ⟨some 164, (.mv (.t 13)), none, []⟩,
    ⟨some 165, (.mv (.t 0)), none, []⟩,
    ⟨some 166, (.mv (.t 1)), none, []⟩,
    ⟨some 167, (.mv (.t 0)), none, []⟩,
    ⟨some 168, (.mv (.t 1)), none, []⟩,
    ⟨some 169, (.ixs 4 (.t 167) (.t 168)), none, []⟩,
    ⟨some 170, (.ld 4 true (.t 169)), none, []⟩,
    ⟨some 171, (.mv (.t 0)), none, []⟩,
    ⟨some 172, (.mv (.t 13)), none, []⟩,
    ⟨some 173, (.ixs 4 (.t 171) (.t 172)), none, []⟩,
    ⟨some 174, (.ld 4 true (.t 173)), none, []⟩,
    ⟨some 175, (.ixs 4 (.t 163) (.t 164)), none, []⟩,
    ⟨none, (.st 4 (.t 175) (.t 170)), none, []⟩,
    ⟨some 176, (.ixs 4 (.t 165) (.t 166)), none, []⟩,
    ⟨none, (.st 4 (.t 176) (.t 174)), none, []⟩] [[], [], [], [], [], [], [4, 5], [4, 5, 6], [], [], [8, 9], [8, 9, 10], [0, 1, 4, 5, 6, 7, 8, 9, 10, 11], [0, 1, 4, 5, 6, 7, 8, 9, 10, 11, 12], [0, 1, 2, 3, 4, 5, 6, 7, 8, 9, 10, 11, 12, 13], [0, 1, 2, 3, 4, 5, 6, 7, 8, 9, 10, 11, 12, 13, 14]] [13] []) c122_s1)
def c122_s3 : IC := 
    (.seq 
    (.seq 
    (.reg [⟨some 142, (.mv (.t 12)), none, []⟩,
      ⟨some 143, (.mv (.t 13)), none, []⟩,
      ⟨some 144, (.bin .gtr false [] (.t 142) (.t 143)), none, []⟩] [0, 1, 4, 12, 13, 144] []) 
    (.cond (.t 144) (.exit 4) .skip)) 
    (.seq 
    (.dreg [⟨some 145, (.mv (.t 0)), none, []⟩,
      ⟨some 146, (.mv (.t 12)), none, []⟩,
      ⟨some 147, (.mv (.t 0)), none, []⟩,
      ⟨some 148, (.mv (.t 13)), none, []⟩,
      ⟨some 149, (.mv (.t 0)), none, []⟩,
      ⟨some 150, (.mv (.t 13)), none, []⟩,
      ⟨some 151, (.ixs 4 (.t 149) (.t 150)), none, []⟩,
      ⟨some 152, (.ld 4 true (.t 151)), none, []⟩,
      ⟨some 153, (.mv (.t 0)), none, []⟩,
      ⟨some 154, (.mv (.t 12)), none, []⟩,
      ⟨some 155, (.ixs 4 (.t 153) (.t 154)), none, []⟩,
      ⟨some 156, (.ld 4 true (.t 155)), none, []⟩,
      ⟨some 157, (.ixs 4 (.t 145) (.t 146)), none, []⟩,
      ⟨none, (.st 4 (.t 157) (.t 152)), none, []⟩,
      ⟨some 158, (.ixs 4 (.t 147) (.t 148)), none, []⟩,
      ⟨none, (.st 4 (.t 158) (.t 156)), none, []⟩] [[], [], [], [], [], [], [4, 5], [4, 5, 6], [], [], [8, 9], [8, 9, 10], [0, 1, 4, 5, 6, 7, 8, 9, 10, 11], [0, 1, 4, 5, 6, 7, 8, 9, 10, 11, 12], [0, 1, 2, 3, 4, 5, 6, 7, 8, 9, 10, 11, 12, 13], [0, 1, 2, 3, 4, 5, 6, 7, 8, 9, 10, 11, 12, 13, 14]] [0, 1, 4, 12, 13] []) 
    (.seq 
    (.reg [⟨some 159, (.mv (.t 12)), none, []⟩,
      ⟨some 160, (.bin .add false [] (.t 159) (.c (.i .i64 1))), none, []⟩,
      ⟨some 12, (.mv (.t 160)), none, []⟩] [0, 1, 4, 12, 13] []) 
    (.reg [⟨some 161, (.mv (.t 13)), none, []⟩,
      ⟨some 162, (.bin .sub false [] (.t 161) (.c (.i .i64 1))), none, []⟩,
      ⟨some 13, (.mv (.t 162)), none, []⟩] [0, 1, 4, 12, 13] []))))
def c122_b1 : IC := 
  (.seq 
  (.seq 
  (.dreg [⟨some 123, (.mv (.t 12)), none, []⟩,
    ⟨some 124, (.mv (.t 13)), none, []⟩,
    ⟨some 125, (.bin .leq false [] (.t 123) (.t 124)), none, []⟩,
    ⟨some 126, (.mv (.t 125)), none, []⟩,
    ⟨some 127, (.mv (.t 4)), some (126, true), []⟩,
    ⟨some 128, (.mv (.t 0)), some (126, true), []⟩,
    ⟨some 129, (.mv (.t 13)), some (126, true), []⟩,
    ⟨some 130, (.ixs 4 (.t 128) (.t 129)), some (126, true), []⟩,
    ⟨some 131, (.ld 4 true (.t 130)), some (126, true), []⟩,
    ⟨some 132, (.mv (.t 0)), some (126, true), []⟩,
    ⟨some 133, (.mv (.t 1)), some (126, true), []⟩,
    ⟨some 134, (.ixs 4 (.t 132) (.t 133)), some (126, true), []⟩,
    ⟨some 135, (.ld 4 true (.t 134)), some (126, true), []⟩,
    ⟨some 136, (.call (.t 127) [(.t 131), (.t 135)]), some (126, true), []⟩,
    ⟨some 137, (.bin .lss false [] (.t 136) (.c (.i .i64 0))), some (126, true), []⟩,
    ⟨some 138, (.un .not (.t 137)), some (126, true), []⟩,
    ⟨some 139, (.pick (.t 126) (.t 138) (.c (.b false))), none, []⟩] [[], [], [0, 1], [0, 1, 2], [0, 1, 2, 3], [0, 1, 2, 3], [0, 1, 2, 3], [0, 1, 2, 3, 5, 6], [0, 1, 2, 3, 5, 6, 7], [0, 1, 2, 3], [0, 1, 2, 3], [0, 1, 2, 3, 9, 10], [0, 1, 2, 3, 9, 10, 11], [0, 1, 2, 3, 4, 5, 6, 7, 8, 9, 10, 11, 12], [0, 1, 2, 3, 4, 5, 6, 7, 8, 9, 10, 11, 12, 13], [0, 1, 2, 3, 4, 5, 6, 7, 8, 9, 10, 11, 12, 13, 14], [0, 1, 2, 3, 4, 5, 6, 7, 8, 9, 10, 11, 12, 13, 14, 15]] [0, 1, 4, 12, 13, 139] []) 
  (.cond (.t 139) .skip (.exit 8))) 
  (.block 9 
    (.reg [⟨some 140, (.mv (.t 13)), none, []⟩,
      ⟨some 141, (.bin .sub false [] (.t 140) (.c (.i .i64 1))), none, []⟩,
      ⟨some 13, (.mv (.t 141)), none, []⟩] [0, 1, 4, 12, 13] [])))
def c122_s4 : IC := 
    (.seq 
    (.block 8 (.loop c122_b1)) c122_s3)
def c122_b2 : IC := 
  (.seq 
  (.seq 
  (.dreg [⟨some 105, (.mv (.t 12)), none, []⟩,
    ⟨some 106, (.mv (.t 13)), none, []⟩,
    ⟨some 107, (.bin .leq false [] (.t 105) (.t 106)), none, []⟩,
    ⟨some 108, (.mv (.t 107)), none, []⟩,
    ⟨some 109, (.mv (.t 4)), some (108, true), []⟩,
    ⟨some 110, (.mv (.t 0)), some (108, true), []⟩,
    ⟨some 111, (.mv (.t 12)), some (108, true), []⟩,
    ⟨some 112, (.ixs 4 (.t 110) (.t 111)), some (108, true), []⟩,
    ⟨some 113, (.ld 4 true (.t 112)), some (108, true), []⟩,
    ⟨some 114, (.mv (.t 0)), some (108, true), []⟩,
    ⟨some 115, (.mv (.t 1)), some (108, true), []⟩,
    ⟨some 116, (.ixs 4 (.t 114) (.t 115)), some (108, true), []⟩,
    ⟨some 117, (.ld 4 true (.t 116)), some (108, true), []⟩,
    ⟨some 118, (.call (.t 109) [(.t 113), (.t 117)]), some (108, true), []⟩,
    ⟨some 119, (.bin .lss false [] (.t 118) (.c (.i .i64 0))), some (108, true), []⟩,
    ⟨some 120, (.pick (.t 108) (.t 119) (.c (.b false))), none, []⟩] [[], [], [0, 1], [0, 1, 2], [0, 1, 2, 3], [0, 1, 2, 3], [0, 1, 2, 3], [0, 1, 2, 3, 5, 6], [0, 1, 2, 3, 5, 6, 7], [0, 1, 2, 3], [0, 1, 2, 3], [0, 1, 2, 3, 9, 10], [0, 1, 2, 3, 9, 10, 11], [0, 1, 2, 3, 4, 5, 6, 7, 8, 9, 10, 11, 12], [0, 1, 2, 3, 4, 5, 6, 7, 8, 9, 10, 11, 12, 13], [0, 1, 2, 3, 4, 5, 6, 7, 8, 9, 10, 11, 12, 13, 14]] [0, 1, 4, 12, 13, 120] []) 
  (.cond (.t 120) .skip (.exit 6))) 
  (.block 7 
    (.reg [⟨some 121, (.mv (.t 12)), none, []⟩,
      ⟨some 122, (.bin .add false [] (.t 121) (.c (.i .i64 1))), none, []⟩,
      ⟨some 12, (.mv (.t 122)), none, []⟩] [0, 1, 4, 12, 13] [])))
def c122_b0 : IC := 
  (.block 5 
    (.seq 
    (.block 6 (.loop c122_b2)) c122_s4))
def c122_s5 : IC := 
  (.seq 
  (.block 4 (.loop c122_b0)) c122_s2)
def c122_s6 : IC := 
  (.seq 
  (.reg [⟨some 103, (.mv (.t 13)), none, []⟩,
    ⟨some 104, (.bin .sub false [] (.t 103) (.c (.i .i64 1))), none, []⟩,
    ⟨some 13, (.mv (.t 104)), none, []⟩] [0, 1, 4, 12, 13] []) c122_s5)
def c122_s7 : IC := 
  (.seq 
  (.reg [⟨some 101, (.mv (.t 12)), none, []⟩,
    ⟨some 102, (.bin .add false [] (.t 101) (.c (.i .i64 1))), none, []⟩,
    ⟨some 12, (.mv (.t 102)), none, []⟩] [0, 1, 4, 12, 13] []) c122_s6)
def c122_s8 : IC := 
  (.seq 
  (.dreg [⟨some 87, (.mv (.t 0)), none, []⟩,
    ⟨some 88, (.mv (.t 12)), none, []⟩,
    ⟨some 89, (.mv (.t 0)), none, []⟩,
    ⟨some 90, (.mv (.t 13)), none, []⟩,
    ⟨some 91, (.mv (.t 0)), none, []⟩,
    ⟨some 92, (.mv (.t 13)), none, []⟩,
    ⟨some 93, (.ixs 4 (.t 91) (.t 92)), none, []⟩,
    ⟨some 94, (.ld 4 true (.t 93)), none, []⟩,
    ⟨some 95, (.mv (.t 0)), none, []⟩,
    ⟨some 96, (.mv (.t 12)), none, []⟩,
    ⟨some 97, (.ixs 4 (.t 95) (.t 96)), none, []⟩,
    ⟨some 98, (.ld 4 true (.t 97)), none, []⟩,
    ⟨some 99, (.ixs 4 (.t 87) (.t 88)), none, []⟩,
    ⟨none, (.st 4 (.t 99) (.t 94)), none, []⟩,
    ⟨some 100, (.ixs 4 (.t 89) (.t 90)), none, []⟩,
    ⟨none, (.st 4 (.t 100) (.t 98)), none, []⟩] [[], [], [], [], [], [], [4, 5], [4, 5, 6], [], [], [8, 9], [8, 9, 10], [0, 1, 4, 5, 6, 7, 8, 9, 10, 11], [0, 1, 4, 5, 6, 7, 8, 9, 10, 11, 12], [0, 1, 2, 3, 4, 5, 6, 7, 8, 9, 10, 11, 12, 13], [0, 1, 2, 3, 4, 5, 6, 7, 8, 9, 10, 11, 12, 13, 14]] [0, 1, 4, 12, 13] []) c122_s7)
def c122_s9 : IC := 
  (.seq 
  (.seq 
  (.reg [⟨some 69, (.mv (.t 12)), none, []⟩,
    ⟨some 70, (.mv (.t 13)), none, []⟩,
    ⟨some 71, (.bin .gtr false [] (.t 69) (.t 70)), none, []⟩] [0, 1, 4, 12, 13, 71] []) 
  (.cond (.t 71) 
    (.seq 
    (.dreg [⟨some 72, (.mv (.t 0)), none, []⟩,
      ⟨some 73, (.mv (.t 13)), none, []⟩,
      ⟨some 74, (.mv (.t 0)), none, []⟩,
      ⟨some 75, (.mv (.t 1)), none, []⟩,
      ⟨some 76, (.mv (.t 0)), none, []⟩,
      ⟨some 77, (.mv (.t 1)), none, []⟩,
      ⟨some 78, (.ixs 4 (.t 76) (.t 77)), none, []⟩,
      ⟨some 79, (.ld 4 true (.t 78)), none, []⟩,
      ⟨some 80, (.mv (.t 0)), none, []⟩,
      ⟨some 81, (.mv (.t 13)), none, []⟩,
      ⟨some 82, (.ixs 4 (.t 80) (.t 81)), none, []⟩,
      ⟨some 83, (.ld 4 true (.t 82)), none, []⟩,
      ⟨some 84, (.ixs 4 (.t 72) (.t 73)), none, []⟩,
      ⟨none, (.st 4 (.t 84) (.t 79)), none, []⟩,
      ⟨some 85, (.ixs 4 (.t 74) (.t 75)), none, []⟩,
      ⟨none, (.st 4 (.t 85) (.t 83)), none, []⟩] [[], [], [], [], [], [], [4, 5], [4, 5, 6], [], [], [8, 9], [8, 9, 10], [0, 1, 4, 5, 6, 7, 8, 9, 10, 11], [0, 1, 4, 5, 6, 7, 8, 9, 10, 11, 12], [0, 1, 2, 3, 4, 5, 6, 7, 8, 9, 10, 11, 12, 13], [0, 1, 2, 3, 4, 5, 6, 7, 8, 9, 10, 11, 12, 13, 14]] [13] []) 
    (.seq 
    (.reg [⟨some 86, (.mv (.t 13)), none, []⟩,
      ⟨some 10, (.mv (.t 86)), none, []⟩,
      ⟨some 11, (.mv (.c (.b true))), none, []⟩] [10, 11] []) .ret)) .skip)) c122_s8)
def c122_b3 : IC := 
  (.seq 
  (.seq 
  (.dreg [⟨some 50, (.mv (.t 12)), none, []⟩,
    ⟨some 51, (.mv (.t 13)), none, []⟩,
    ⟨some 52, (.bin .leq false [] (.t 50) (.t 51)), none, []⟩,
    ⟨some 53, (.mv (.t 52)), none, []⟩,
    ⟨some 54, (.mv (.t 4)), some (53, true), []⟩,
    ⟨some 55, (.mv (.t 0)), some (53, true), []⟩,
    ⟨some 56, (.mv (.t 13)), some (53, true), []⟩,
    ⟨some 57, (.ixs 4 (.t 55) (.t 56)), some (53, true), []⟩,
    ⟨some 58, (.ld 4 true (.t 57)), some (53, true), []⟩,
    ⟨some 59, (.mv (.t 0)), some (53, true), []⟩,
    ⟨some 60, (.mv (.t 1)), some (53, true), []⟩,
    ⟨some 61, (.ixs 4 (.t 59) (.t 60)), some (53, true), []⟩,
    ⟨some 62, (.ld 4 true (.t 61)), some (53, true), []⟩,
    ⟨some 63, (.call (.t 54) [(.t 58), (.t 62)]), some (53, true), []⟩,
    ⟨some 64, (.bin .lss false [] (.t 63) (.c (.i .i64 0))), some (53, true), []⟩,
    ⟨some 65, (.un .not (.t 64)), some (53, true), []⟩,
    ⟨some 66, (.pick (.t 53) (.t 65) (.c (.b false))), none, []⟩] [[], [], [0, 1], [0, 1, 2], [0, 1, 2, 3], [0, 1, 2, 3], [0, 1, 2, 3], [0, 1, 2, 3, 5, 6], [0, 1, 2, 3, 5, 6, 7], [0, 1, 2, 3], [0, 1, 2, 3], [0, 1, 2, 3, 9, 10], [0, 1, 2, 3, 9, 10, 11], [0, 1, 2, 3, 4, 5, 6, 7, 8, 9, 10, 11, 12], [0, 1, 2, 3, 4, 5, 6, 7, 8, 9, 10, 11, 12, 13], [0, 1, 2, 3, 4, 5, 6, 7, 8, 9, 10, 11, 12, 13, 14], [0, 1, 2, 3, 4, 5, 6, 7, 8, 9, 10, 11, 12, 13, 14, 15]] [0, 1, 4, 12, 13, 66] []) 
  (.cond (.t 66) .skip (.exit 2))) 
  (.block 3 
    (.reg [⟨some 67, (.mv (.t 13)), none, []⟩,
      ⟨some 68, (.bin .sub false [] (.t 67) (.c (.i .i64 1))), none, []⟩,
      ⟨some 13, (.mv (.t 68)), none, []⟩] [0, 1, 4, 12, 13] [])))
def c122_s10 : IC := 
  (.seq 
  (.block 2 (.loop c122_b3)) c122_s9)
def c122_b4 : IC := 
  (.seq 
  (.seq 
  (.dreg [⟨some 32, (.mv (.t 12)), none, []⟩,
    ⟨some 33, (.mv (.t 13)), none, []⟩,
    ⟨some 34, (.bin .leq false [] (.t 32) (.t 33)), none, []⟩,
    ⟨some 35, (.mv (.t 34)), none, []⟩,
    ⟨some 36, (.mv (.t 4)), some (35, true), []⟩,
    ⟨some 37, (.mv (.t 0)), some (35, true), []⟩,
    ⟨some 38, (.mv (.t 12)), some (35, true), []⟩,
    ⟨some 39, (.ixs 4 (.t 37) (.t 38)), some (35, true), []⟩,
    ⟨some 40, (.ld 4 true (.t 39)), some (35, true), []⟩,
    ⟨some 41, (.mv (.t 0)), some (35, true), []⟩,
    ⟨some 42, (.mv (.t 1)), some (35, true), []⟩,
    ⟨some 43, (.ixs 4 (.t 41) (.t 42)), some (35, true), []⟩,
    ⟨some 44, (.ld 4 true (.t 43)), some (35, true), []⟩,
    ⟨some 45, (.call (.t 36) [(.t 40), (.t 44)]), some (35, true), []⟩,
    ⟨some 46, (.bin .lss false [] (.t 45) (.c (.i .i64 0))), some (35, true), []⟩,
    ⟨some 47, (.pick (.t 35) (.t 46) (.c (.b false))), none, []⟩] [[], [], [0, 1], [0, 1, 2], [0, 1, 2, 3], [0, 1, 2, 3], [0, 1, 2, 3], [0, 1, 2, 3, 5, 6], [0, 1, 2, 3, 5, 6, 7], [0, 1, 2, 3], [0, 1, 2, 3], [0, 1, 2, 3, 9, 10], [0, 1, 2, 3, 9, 10, 11], [0, 1, 2, 3, 4, 5, 6, 7, 8, 9, 10, 11, 12], [0, 1, 2, 3, 4, 5, 6, 7, 8, 9, 10, 11, 12, 13], [0, 1, 2, 3, 4, 5, 6, 7, 8, 9, 10, 11, 12, 13, 14]] [0, 1, 4, 12, 13, 47] []) 
  (.cond (.t 47) .skip (.exit 0))) 
  (.block 1 
    (.reg [⟨some 48, (.mv (.t 12)), none, []⟩,
      ⟨some 49, (.bin .add false [] (.t 48) (.c (.i .i64 1))), none, []⟩,
      ⟨some 12, (.mv (.t 49)), none, []⟩] [0, 1, 4, 12, 13] [])))
def c122_s11 : IC := 
  (.seq 
  (.block 0 (.loop c122_b4)) c122_s10)
def c122_s12 : IC := 
  (.seq 
  (.reg [⟨some 28, (.mv (.t 1)), none, []⟩,
    ⟨some 29, (.bin .add false [] (.t 28) (.c (.i .i64 1))), none, []⟩,
    ⟨some 30, (.mv (.t 2)), none, []⟩,
    ⟨some 31, (.bin .sub false [] (.t 30) (.c (.i .i64 1))), none, []⟩,
    ⟨some 12, (.mv (.t 29)), none, []⟩,
    ⟨some 13, (.mv (.t 31)), none, []⟩] [0, 1, 4, 12, 13] []) c122_s11)
def c122_s13 : IC := 
  (.seq 
  (.dreg [⟨some 14, (.mv (.t 0)), none, []⟩,
    ⟨some 15, (.mv (.t 1)), none, []⟩,
    ⟨some 16, (.mv (.t 0)), none, []⟩,
    ⟨some 17, (.mv (.t 3)), none, []⟩,
    ⟨some 18, (.mv (.t 0)), none, []⟩,
    ⟨some 19, (.mv (.t 3)), none, []⟩,
    ⟨some 20, (.ixs 4 (.t 18) (.t 19)), none, []⟩,
    ⟨some 21, (.ld 4 true (.t 20)), none, []⟩,
    ⟨some 22, (.mv (.t 0)), none, []⟩,
    ⟨some 23, (.mv (.t 1)), none, []⟩,
    ⟨some 24, (.ixs 4 (.t 22) (.t 23)), none, []⟩,
    ⟨some 25, (.ld 4 true (.t 24)), none, []⟩,
    ⟨some 26, (.ixs 4 (.t 14) (.t 15)), none, []⟩,
    ⟨none, (.st 4 (.t 26) (.t 21)), none, []⟩,
    ⟨some 27, (.ixs 4 (.t 16) (.t 17)), none, []⟩,
    ⟨none, (.st 4 (.t 27) (.t 25)), none, []⟩] [[], [], [], [], [], [], [4, 5], [4, 5, 6], [], [], [8, 9], [8, 9, 10], [0, 1, 4, 5, 6, 7, 8, 9, 10, 11], [0, 1, 4, 5, 6, 7, 8, 9, 10, 11, 12], [0, 1, 2, 3, 4, 5, 6, 7, 8, 9, 10, 11, 12, 13], [0, 1, 2, 3, 4, 5, 6, 7, 8, 9, 10, 11, 12, 13, 14]] [0, 1, 2, 4] []) c122_s12)
def c122 : IC := 
  (.seq 
  (.reg [⟨some 10, (.mv (.c (.i .i64 0))), none, []⟩,
    ⟨some 11, (.mv (.c (.b false))), none, []⟩] [0, 1, 2, 3, 4] []) c122_s13)
def f122 : IF := ⟨c122, 5, [(.t 10), (.t 11)]⟩
def c122_k1 {R : Type} (H : Hk R) (Y : Yt R) (dp : Nat) (K : Ex → Env → Mem → Option R) : Ex → Env → Mem → Option R := (kBlk 8 (kSeq (fun env mem k => evC H Y c122_s3 dp env mem k) (kBlk 5 K)))
def c122_k2 {R : Type} (H : Hk R) (Y : Yt R) (dp : Nat) (K : Ex → Env → Mem → Option R) : Ex → Env → Mem → Option R := (kBlk 6 (kSeq (fun env mem k => evC H Y c122_s4 dp env mem k) (kBlk 5 K)))
def c122_k0 {R : Type} (H : Hk R) (Y : Yt R) (dp : Nat) (K : Ex → Env → Mem → Option R) : Ex → Env → Mem → Option R := (kBlk 4 (kSeq (fun env mem k => evC H Y c122_s2 dp env mem k) K))
def c122_k3 {R : Type} (H : Hk R) (Y : Yt R) (dp : Nat) (K : Ex → Env → Mem → Option R) : Ex → Env → Mem → Option R := (kBlk 2 (kSeq (fun env mem k => evC H Y c122_s9 dp env mem k) K))
def c122_k4 {R : Type} (H : Hk R) (Y : Yt R) (dp : Nat) (K : Ex → Env → Mem → Option R) : Ex → Env → Mem → Option R := (kBlk 0 (kSeq (fun env mem k => evC H Y c122_s10 dp env mem k) K))

/- math/bits.Len32 -/
def c123_s0 : IC := .ret
def c123_s1 : IC := 
  (.seq 
  (.reg [⟨some 13, (.mv (.t 2)), none, []⟩,
    ⟨some 14, (.mv (.t 0)), none, []⟩,
    ⟨some 15, (.cv .u8 (.t 14)), none, []⟩,
    ⟨some 16, .nope, none, []⟩,
    ⟨some 17, (.cv .i64 (.t 16)), none, []⟩,
    ⟨some 18, (.bin .add false [] (.t 13) (.t 17)), none, []⟩,
    ⟨some 2, (.mv (.t 18)), none, []⟩] [2] []) c123_s0)
def c123_s2 : IC := 
  (.seq 
  (.seq 
  (.reg [⟨some 7, (.mv (.t 0)), none, []⟩,
    ⟨some 8, (.bin .geq false [] (.t 7) (.c (.i .u32 256))), none, []⟩] [0, 2, 8] []) 
  (.cond (.t 8) 
    (.seq 
    (.reg [⟨some 9, (.mv (.t 0)), none, []⟩,
      ⟨some 10, (.bin .shr false [] (.t 9) (.c (.i .u64 8))), none, []⟩,
      ⟨some 0, (.mv (.t 10)), none, []⟩] [0, 2] []) 
    (.reg [⟨some 11, (.mv (.t 2)), none, []⟩,
      ⟨some 12, (.bin .add false [] (.t 11) (.c (.i .i64 8))), none, []⟩,
      ⟨some 2, (.mv (.t 12)), none, []⟩] [0, 2] [])) .skip)) c123_s1)
def c123_s3 : IC := 
  (.seq 
  (.seq 
  (.reg [⟨some 3, (.mv (.t 0)), none, []⟩,
    ⟨some 4, (.bin .geq false [] (.t 3) (.c (.i .u32 65536))), none, []⟩] [0, 2, 4] []) 
  (.cond (.t 4) 
    (.seq 
    (.reg [⟨some 5, (.mv (.t 0)), none, []⟩,
      ⟨some 6, (.bin .shr false [] (.t 5) (.c (.i .u64 16))), none, []⟩,
      ⟨some 0, (.mv (.t 6)), none, []⟩] [0] []) 
    (.reg [⟨some 2, (.mv (.c (.i .i64 16))), none, []⟩] [0, 2] [])) .skip)) c123_s2)
def c123 : IC := 
  (.seq 
  (.reg [⟨some 2, (.mv (.c (.i .i64 0))), none, []⟩] [0, 2] []) c123_s3)
def f123 : IF := ⟨c123, 1, [(.t 2)]⟩

/- math/bits.Len64 -/
def c124_s0 : IC := .ret
def c124_s1 : IC := 
  (.seq 
  (.reg [⟨some 19, (.mv (.t 2)), none, []⟩,
    ⟨some 20, (.mv (.t 0)), none, []⟩,
    ⟨some 21, (.cv .u8 (.t 20)), none, []⟩,
    ⟨some 22, .nope, none, []⟩,
    ⟨some 23, (.cv .i64 (.t 22)), none, []⟩,
    ⟨some 24, (.bin .add false [] (.t 19) (.t 23)), none, []⟩,
    ⟨some 2, (.mv (.t 24)), none, []⟩] [2] []) c124_s0)
def c124_s2 : IC := 
  (.seq 
  (.seq 
  (.reg [⟨some 13, (.mv (.t 0)), none, []⟩,
    ⟨some 14, (.bin .geq false [] (.t 13) (.c (.i .u64 256))), none, []⟩] [0, 2, 14] []) 
  (.cond (.t 14) 
    (.seq 
    (.reg [⟨some 15, (.mv (.t 0)), none, []⟩,
      ⟨some 16, (.bin .shr false [] (.t 15) (.c (.i .u64 8))), none, []⟩,
      ⟨some 0, (.mv (.t 16)), none, []⟩] [0, 2] []) 
    (.reg [⟨some 17, (.mv (.t 2)), none, []⟩,
      ⟨some 18, (.bin .add false [] (.t 17) (.c (.i .i64 8))), none, []⟩,
      ⟨some 2, (.mv (.t 18)), none, []⟩] [0, 2] [])) .skip)) c124_s1)
def c124_s3 : IC := 
  (.seq 
  (.seq 
  (.reg [⟨some 7, (.mv (.t 0)), none, []⟩,
    ⟨some 8, (.bin .geq false [] (.t 7) (.c (.i .u64 65536))), none, []⟩] [0, 2, 8] []) 
  (.cond (.t 8) 
    (.seq 
    (.reg [⟨some 9, (.mv (.t 0)), none, []⟩,
      ⟨some 10, (.bin .shr false [] (.t 9) (.c (.i .u64 16))), none, []⟩,
      ⟨some 0, (.mv (.t 10)), none, []⟩] [0, 2] []) 
    (.reg [⟨some 11, (.mv (.t 2)), none, []⟩,
      ⟨some 12, (.bin .add false [] (.t 11) (.c (.i .i64 16))), none, []⟩,
      ⟨some 2, (.mv (.t 12)), none, []⟩] [0, 2] [])) .skip)) c124_s2)
def c124_s4 : IC := 
  (.seq 
  (.seq 
  (.reg [⟨some 3, (.mv (.t 0)), none, []⟩,
    ⟨some 4, (.bin .geq false [] (.t 3) (.c (.i .u64 4294967296))), none, []⟩] [0, 2, 4] []) 
  (.cond (.t 4) 
    (.seq 
    (.reg [⟨some 5, (.mv (.t 0)), none, []⟩,
      ⟨some 6, (.bin .shr false [] (.t 5) (.c (.i .u64 32))), none, []⟩,
      ⟨some 0, (.mv (.t 6)), none, []⟩] [0] []) 
    (.reg [⟨some 2, (.mv (.c (.i .i64 32))), none, []⟩] [0, 2] [])) .skip)) c124_s3)
def c124 : IC := 
  (.seq 
  (.reg [⟨some 2, (.mv (.c (.i .i64 0))), none, []⟩] [0, 2] []) c124_s4)
def f124 : IF := ⟨c124, 1, [(.t 2)]⟩

/- slices.siftDownCmpFunc[glidepath/api.WindVector] -/
def c125_b0 : IC := 
  (.block 1 
    (.seq 
    (.reg [⟨some 13, (.mv (.t 10)), none, []⟩,
      ⟨some 14, (.bin .mul false [] (.c (.i .i64 2)) (.t 13)), none, []⟩,
      ⟨some 15, (.bin .add false [] (.t 14) (.c (.i .i64 1))), none, []⟩,
      ⟨some 11, (.mv (.t 15)), none, []⟩] [0, 2, 3, 4, 10, 11] []) 
    (.seq 
    (.seq 
    (.reg [⟨some 16, (.mv (.t 11)), none, []⟩,
      ⟨some 17, (.mv (.t 2)), none, []⟩,
      ⟨some 18, (.bin .geq false [] (.t 16) (.t 17)), none, []⟩] [0, 2, 3, 4, 10, 11, 18] []) 
    (.cond (.t 18) (.exit 0) .skip)) 
    (.seq 
    (.seq 
    (.dreg [⟨some 19, (.mv (.t 11)), none, []⟩,
      ⟨some 20, (.bin .add false [] (.t 19) (.c (.i .i64 1))), none, []⟩,
      ⟨some 21, (.mv (.t 2)), none, []⟩,
      ⟨some 22, (.bin .lss false [] (.t 20) (.t 21)), none, []⟩,
      ⟨some 23, (.mv (.t 22)), none, []⟩,
      ⟨some 24, (.mv (.t 4)), some (23, true), []⟩,
      ⟨some 25, (.mv (.t 0)), some (23, true), []⟩,
      ⟨some 26, (.mv (.t 3)), some (23, true), []⟩,
      ⟨some 27, (.mv (.t 11)), some (23, true), []⟩,
      ⟨some 28, (.bin .add false [] (.t 26) (.t 27)), some (23, true), []⟩,
      ⟨some 29, (.ixs 4 (.t 25) (.t 28)), some (23, true), []⟩,
      ⟨some 30, (.ld 4 true (.t 29)), some (23, true), []⟩,
      ⟨some 31, (.mv (.t 0)), some (23, true), []⟩,
      ⟨some 32, (.mv (.t 3)), some (23, true), []⟩,
      ⟨some 33, (.mv (.t 11)), some (23, true), []⟩,
      ⟨some 34, (.bin .add false [] (.t 32) (.t 33)), some (23, true), []⟩,
      ⟨some 35, (.bin .add false [] (.t 34) (.c (.i .i64 1))), some (23, true), []⟩,
      ⟨some 36, (.ixs 4 (.t 31) (.t 35)), some (23, true), []⟩,
      ⟨some 37, (.ld 4 true (.t 36)), some (23, true), []⟩,
      ⟨some 38, (.call (.t 24) [(.t 30), (.t 37)]), some (23, true), []⟩,
      ⟨some 39, (.bin .lss false [] (.t 38) (.c (.i .i64 0))), some (23, true), []⟩,
      ⟨some 40, (.pick (.t 23) (.t 39) (.c (.b false))), none, []⟩] [[], [0], [], [0, 1, 2], [0, 1, 2, 3], [0, 1, 2, 3, 4], [0, 1, 2, 3, 4], [0, 1, 2, 3, 4], [0, 1, 2, 3, 4], [0, 1, 2, 3, 4, 7, 8], [0, 1, 2, 3, 4, 6, 7, 8, 9], [0, 1, 2, 3, 4, 6, 7, 8, 9, 10], [0, 1, 2, 3, 4], [0, 1, 2, 3, 4], [0, 1, 2, 3, 4], [0, 1, 2, 3, 4, 13, 14], [0, 1, 2, 3, 4, 13, 14, 15], [0, 1, 2, 3, 4, 12, 13, 14, 15, 16], [0, 1, 2, 3, 4, 12, 13, 14, 15, 16, 17], [0, 1, 2, 3, 4, 5, 6, 7, 8, 9, 10, 11, 12, 13, 14, 15, 16, 17, 18], [0, 1, 2, 3, 4, 5, 6, 7, 8, 9, 10, 11, 12, 13, 14, 15, 16, 17, 18, 19], [0, 1, 2, 3, 4, 5, 6, 7, 8, 9, 10, 11, 12, 13, 14, 15, 16, 17, 18, 19, 20]] [0, 2, 3, 4, 10, 11, 40] []) 
    (.cond (.t 40) 
      (.reg [⟨some 41, (.mv (.t 11)), none, []⟩,
        ⟨some 42, (.bin .add false [] (.t 41) (.c (.i .i64 1))), none, []⟩,
        ⟨some 11, (.mv (.t 42)), none, []⟩] [0, 2, 3, 4, 10, 11] []) .skip)) 
    (.seq 
    (.seq 
    (.dreg [⟨some 43, (.mv (.t 4)), none, []⟩,
      ⟨some 44, (.mv (.t 0)), none, []⟩,
      ⟨some 45, (.mv (.t 3)), none, []⟩,
      ⟨some 46, (.mv (.t 10)), none, []⟩,
      ⟨some 47, (.bin .add false [] (.t 45) (.t 46)), none, []⟩,
      ⟨some 48, (.ixs 4 (.t 44) (.t 47)), none, []⟩,
      ⟨some 49, (.ld 4 true (.t 48)), none, []⟩,
      ⟨some 50, (.mv (.t 0)), none, []⟩,
      ⟨some 51, (.mv (.t 3)), none, []⟩,
      ⟨some 52, (.mv (.t 11)), none, []⟩,
      ⟨some 53, (.bin .add false [] (.t 51) (.t 52)), none, []⟩,
      ⟨some 54, (.ixs 4 (.t 50) (.t 53)), none, []⟩,
      ⟨some 55, (.ld 4 true (.t 54)), none, []⟩,
      ⟨some 56, (.call (.t 43) [(.t 49), (.t 55)]), none, []⟩,
      ⟨some 57, (.bin .lss false [] (.t 56) (.c (.i .i64 0))), none, []⟩,
      ⟨some 58, (.un .not (.t 57)), none, []⟩] [[], [], [], [], [2, 3], [1, 2, 3, 4], [1, 2, 3, 4, 5], [], [], [], [8, 9], [7, 8, 9, 10], [7, 8, 9, 10, 11], [0, 1, 2, 3, 4, 5, 6, 7, 8, 9, 10, 11, 12], [0, 1, 2, 3, 4, 5, 6, 7, 8, 9, 10, 11, 12, 13], [0, 1, 2, 3, 4, 5, 6, 7, 8, 9, 10, 11, 12, 13, 14]] [0, 2, 3, 4, 10, 11, 58] []) 
    (.cond (.t 58) .ret .skip)) 
    (.seq 
    (.dreg [⟨some 59, (.mv (.t 0)), none, []⟩,
      ⟨some 60, (.mv (.t 3)), none, []⟩,
      ⟨some 61, (.mv (.t 10)), none, []⟩,
      ⟨some 62, (.bin .add false [] (.t 60) (.t 61)), none, []⟩,
      ⟨some 63, (.mv (.t 0)), none, []⟩,
      ⟨some 64, (.mv (.t 3)), none, []⟩,
      ⟨some 65, (.mv (.t 11)), none, []⟩,
      ⟨some 66, (.bin .add false [] (.t 64) (.t 65)), none, []⟩,
      ⟨some 67, (.mv (.t 0)), none, []⟩,
      ⟨some 68, (.mv (.t 3)), none, []⟩,
      ⟨some 69, (.mv (.t 11)), none, []⟩,
      ⟨some 70, (.bin .add false [] (.t 68) (.t 69)), none, []⟩,
      ⟨some 71, (.ixs 4 (.t 67) (.t 70)), none, []⟩,
      ⟨some 72, (.ld 4 true (.t 71)), none, []⟩,
      ⟨some 73, (.mv (.t 0)), none, []⟩,
      ⟨some 74, (.mv (.t 3)), none, []⟩,
      ⟨some 75, (.mv (.t 10)), none, []⟩,
      ⟨some 76, (.bin .add false [] (.t 74) (.t 75)), none, []⟩,
      ⟨some 77, (.ixs 4 (.t 73) (.t 76)), none, []⟩,
      ⟨some 78, (.ld 4 true (.t 77)), none, []⟩,
      ⟨some 79, (.ixs 4 (.t 59) (.t 62)), none, []⟩,
      ⟨none, (.st 4 (.t 79) (.t 72)), none, []⟩,
      ⟨some 80, (.ixs 4 (.t 63) (.t 66)), none, []⟩,
      ⟨none, (.st 4 (.t 80) (.t 78)), none, []⟩] [[], [], [], [1, 2], [], [], [], [5, 6], [], [], [], [9, 10], [8, 9, 10, 11], [8, 9, 10, 11, 12], [], [], [], [15, 16], [14, 15, 16, 17], [14, 15, 16, 17, 18], [0, 1, 2, 3, 8, 9, 10, 11, 12, 13, 14, 15, 16, 17, 18, 19], [0, 1, 2, 3, 8, 9, 10, 11, 12, 13, 14, 15, 16, 17, 18, 19, 20], [0, 1, 2, 3, 4, 5, 6, 7, 8, 9, 10, 11, 12, 13, 14, 15, 16, 17, 18, 19, 20, 21], [0, 1, 2, 3, 4, 5, 6, 7, 8, 9, 10, 11, 12, 13, 14, 15, 16, 17, 18, 19, 20, 21, 22]] [0, 2, 3, 4, 11] []) 
    (.reg [⟨some 81, (.mv (.t 11)), none, []⟩,
      ⟨some 10, (.mv (.t 81)), none, []⟩] [0, 2, 3, 4, 10] [])))))))
def c125_s0 : IC := 
  (.block 0 (.loop c125_b0))
def c125 : IC := 
  (.seq 
  (.reg [⟨some 12, (.mv (.t 1)), none, []⟩,
    ⟨some 10, (.mv (.t 12)), none, []⟩] [0, 2, 3, 4, 10] []) c125_s0)
def f125 : IF := ⟨c125, 5, []⟩
def c125_k0 {R : Type} (H : Hk R) (Y : Yt R) (dp : Nat) (K : Ex → Env → Mem → Option R) : Ex → Env → Mem → Option R := (kBlk 0 K)

/- slices.nextPowerOfTwo -/
def c126_s0 : IC := .ret
def c126_s1 : IC := 
  (.seq 
  (.reg [⟨some 3, (.mv (.t 0)), none, []⟩,
    ⟨some 4, (.cv .u64 (.t 3)), none, []⟩,
    ⟨some 5, (.call (.f 114) [(.t 4)]), none, []⟩,
    ⟨some 6, (.bin .shl false [] (.c (.i .u64 1)) (.t 5)), none, []⟩,
    ⟨some 2, (.mv (.t 6)), none, []⟩] [2] []) c126_s0)
def c126 : IC := 
  (.seq 
  (.reg [⟨some 2, (.mv (.c (.i .u64 0))), none, []⟩] [0] []) c126_s1)
def f126 : IF := ⟨c126, 1, [(.t 2)]⟩

/- (*slices.xorshift).Next -/
def c127_s0 : IC := .ret
def c127_s1 : IC := 
  (.seq 
  (.reg [⟨some 30, (.mv (.t 0)), none, []⟩,
    ⟨some 31, (.nck (.t 30)), none, []⟩,
    ⟨some 32, (.ld 1 false (.t 31)), none, []⟩,
    ⟨some 2, (.mv (.t 32)), none, []⟩] [2] []) c127_s0)
def c127_s2 : IC := 
  (.seq 
  (.dreg [⟨some 21, (.mv (.t 0)), none, []⟩,
    ⟨some 22, (.nck (.t 21)), none, []⟩,
    ⟨some 23, (.ld 1 false (.t 22)), none, []⟩,
    ⟨some 24, (.mv (.t 0)), none, []⟩,
    ⟨some 25, (.nck (.t 24)), none, []⟩,
    ⟨some 26, (.ld 1 false (.t 25)), none, []⟩,
    ⟨some 27, (.bin .shl false [] (.t 26) (.c (.i .u64 17))), none, []⟩,
    ⟨some 28, (.bin .xor false [] (.t 23) (.t 27)), none, []⟩,
    ⟨some 29, (.nck (.t 21)), none, []⟩,
    ⟨none, (.st 1 (.t 29) (.t 28)), none, []⟩] [[], [0], [0, 1], [], [3], [3, 4], [3, 4, 5], [0, 1, 2, 3, 4, 5, 6], [0, 1, 2, 3, 4, 5, 6, 7], [0, 1, 2, 3, 4, 5, 6, 7, 8]] [0] []) c127_s1)
def c127_s3 : IC := 
  (.seq 
  (.dreg [⟨some 12, (.mv (.t 0)), none, []⟩,
    ⟨some 13, (.nck (.t 12)), none, []⟩,
    ⟨some 14, (.ld 1 false (.t 13)), none, []⟩,
    ⟨some 15, (.mv (.t 0)), none, []⟩,
    ⟨some 16, (.nck (.t 15)), none, []⟩,
    ⟨some 17, (.ld 1 false (.t 16)), none, []⟩,
    ⟨some 18, (.bin .shr false [] (.t 17) (.c (.i .u64 7))), none, []⟩,
    ⟨some 19, (.bin .xor false [] (.t 14) (.t 18)), none, []⟩,
    ⟨some 20, (.nck (.t 12)), none, []⟩,
    ⟨none, (.st 1 (.t 20) (.t 19)), none, []⟩] [[], [0], [0, 1], [], [3], [3, 4], [3, 4, 5], [0, 1, 2, 3, 4, 5, 6], [0, 1, 2, 3, 4, 5, 6, 7], [0, 1, 2, 3, 4, 5, 6, 7, 8]] [0] []) c127_s2)
def c127_s4 : IC := 
  (.seq 
  (.dreg [⟨some 3, (.mv (.t 0)), none, []⟩,
    ⟨some 4, (.nck (.t 3)), none, []⟩,
    ⟨some 5, (.ld 1 false (.t 4)), none, []⟩,
    ⟨some 6, (.mv (.t 0)), none, []⟩,
    ⟨some 7, (.nck (.t 6)), none, []⟩,
    ⟨some 8, (.ld 1 false (.t 7)), none, []⟩,
    ⟨some 9, (.bin .shl false [] (.t 8) (.c (.i .u64 13))), none, []⟩,
    ⟨some 10, (.bin .xor false [] (.t 5) (.t 9)), none, []⟩,
    ⟨some 11, (.nck (.t 3)), none, []⟩,
    ⟨none, (.st 1 (.t 11) (.t 10)), none, []⟩] [[], [0], [0, 1], [], [3], [3, 4], [3, 4, 5], [0, 1, 2, 3, 4, 5, 6], [0, 1, 2, 3, 4, 5, 6, 7], [0, 1, 2, 3, 4, 5, 6, 7, 8]] [0] []) c127_s3)
def c127 : IC := 
  (.seq 
  (.reg [⟨some 2, (.mv (.c (.i .u64 0))), none, []⟩] [0] []) c127_s4)
def f127 : IF := ⟨c127, 1, [(.t 2)]⟩

/- slices.medianAdjacentCmpFunc[glidepath/api.WindVector] -/
def c128_s0 : IC := .ret
def c128_s1 : IC := 
  (.seq 
  (.reg [⟨some 9, (.mv (.t 0)), none, []⟩,
    ⟨some 10, (.mv (.t 1)), none, []⟩,
    ⟨some 11, (.bin .sub false [] (.t 10) (.c (.i .i64 1))), none, []⟩,
    ⟨some 12, (.mv (.t 1)), none, []⟩,
    ⟨some 13, (.mv (.t 1)), none, []⟩,
    ⟨some 14, (.bin .add false [] (.t 13) (.c (.i .i64 1))), none, []⟩,
    ⟨some 15, (.mv (.t 2)), none, []⟩,
    ⟨some 16, (.mv (.t 3)), none, []⟩,
    ⟨some 17, (.call (.f 129) [(.t 9), (.t 11), (.t 12), (.t 14), (.t 15), (.t 16)]), none, []⟩,
    ⟨some 8, (.mv (.t 17)), none, []⟩] [8] []) c128_s0)
def c128 : IC := 
  (.seq 
  (.reg [⟨some 8, (.mv (.c (.i .i64 0))), none, []⟩] [0, 1, 2, 3] []) c128_s1)
def f128 : IF := ⟨c128, 4, [(.t 8)]⟩

/- slices.medianCmpFunc[glidepath/api.WindVector] -/
def c129_s0 : IC := .ret
def c129_s1 : IC := 
  (.seq 
  (.reg [⟨some 40, (.mv (.t 2)), none, []⟩,
    ⟨some 12, (.mv (.t 40)), none, []⟩] [12] []) c129_s0)
def c129_s2 : IC := 
  (.seq 
  (.reg [⟨some 32, (.mv (.t 0)), none, []⟩,
    ⟨some 33, (.mv (.t 1)), none, []⟩,
    ⟨some 34, (.mv (.t 2)), none, []⟩,
    ⟨some 35, (.mv (.t 4)), none, []⟩,
    ⟨some 36, (.mv (.t 5)), none, []⟩,
    ⟨some 37, (.call (.f 130) [(.t 32), (.t 33), (.t 34), (.t 35), (.t 36)]), none, []⟩,
    ⟨some 31, (.mv (.t 37)), none, []⟩,
    ⟨some 38, (.ex (.t 31) 0), none, []⟩,
    ⟨some 39, (.ex (.t 31) 1), none, []⟩,
    ⟨some 1, (.mv (.t 38)), none, []⟩,
    ⟨some 2, (.mv (.t 39)), none, []⟩] [2] []) c129_s1)
def c129_s3 : IC := 
  (.seq 
  (.reg [⟨some 23, (.mv (.t 0)), none, []⟩,
    ⟨some 24, (.mv (.t 2)), none, []⟩,
    ⟨some 25, (.mv (.t 3)), none, []⟩,
    ⟨some 26, (.mv (.t 4)), none, []⟩,
    ⟨some 27, (.mv (.t 5)), none, []⟩,
    ⟨some 28, (.call (.f 130) [(.t 23), (.t 24), (.t 25), (.t 26), (.t 27)]), none, []⟩,
    ⟨some 22, (.mv (.t 28)), none, []⟩,
    ⟨some 29, (.ex (.t 22) 0), none, []⟩,
    ⟨some 30, (.ex (.t 22) 1), none, []⟩,
    ⟨some 2, (.mv (.t 29)), none, []⟩,
    ⟨some 3, (.mv (.t 30)), none, []⟩] [0, 1, 2, 4, 5] []) c129_s2)
def c129_s4 : IC := 
  (.seq 
  (.reg [⟨some 14, (.mv (.t 0)), none, []⟩,
    ⟨some 15, (.mv (.t 1)), none, []⟩,
    ⟨some 16, (.mv (.t 2)), none, []⟩,
    ⟨some 17, (.mv (.t 4)), none, []⟩,
    ⟨some 18, (.mv (.t 5)), none, []⟩,
    ⟨some 19, (.call (.f 130) [(.t 14), (.t 15), (.t 16), (.t 17), (.t 18)]), none, []⟩,
    ⟨some 13, (.mv (.t 19)), none, []⟩,
    ⟨some 20, (.ex (.t 13) 0), none, []⟩,
    ⟨some 21, (.ex (.t 13) 1), none, []⟩,
    ⟨some 1, (.mv (.t 20)), none, []⟩,
    ⟨some 2, (.mv (.t 21)), none, []⟩] [0, 1, 2, 3, 4, 5] []) c129_s3)
def c129 : IC := 
  (.seq 
  (.reg [⟨some 12, (.mv (.c (.i .i64 0))), none, []⟩] [0, 1, 2, 3, 4, 5] []) c129_s4)
def f129 : IF := ⟨c129, 6, [(.t 12)]⟩

/- slices.order2CmpFunc[glidepath/api.WindVector] -/
def c130_s0 : IC := .ret
def c130_s1 : IC := 
  (.seq 
  (.reg [⟨some 30, (.mv (.t 1)), none, []⟩,
    ⟨some 31, (.mv (.t 2)), none, []⟩,
    ⟨some 10, (.mv (.t 30)), none, []⟩,
    ⟨some 11, (.mv (.t 31)), none, []⟩] [10, 11] []) c130_s0)
def c130_s2 : IC := 
  (.seq 
  (.seq 
  (.dreg [⟨some 12, (.mv (.t 4)), none, []⟩,
    ⟨some 13, (.mv (.t 0)), none, []⟩,
    ⟨some 14, (.mv (.t 2)), none, []⟩,
    ⟨some 15, (.ixs 4 (.t 13) (.t 14)), none, []⟩,
    ⟨some 16, (.ld 4 true (.t 15)), none, []⟩,
    ⟨some 17, (.mv (.t 0)), none, []⟩,
    ⟨some 18, (.mv (.t 1)), none, []⟩,
    ⟨some 19, (.ixs 4 (.t 17) (.t 18)), none, []⟩,
    ⟨some 20, (.ld 4 true (.t 19)), none, []⟩,
    ⟨some 21, (.call (.t 12) [(.t 16), (.t 20)]), none, []⟩,
    ⟨some 22, (.bin .lss false [] (.t 21) (.c (.i .i64 0))), none, []⟩] [[], [], [], [1, 2], [1, 2, 3], [], [], [5, 6], [5, 6, 7], [0, 1, 2, 3, 4, 5, 6, 7, 8], [0, 1, 2, 3, 4, 5, 6, 7, 8, 9]] [1, 2, 3, 22] []) 
  (.cond (.t 22) 
    (.seq 
    (.reg [⟨some 23, (.mv (.t 3)), none, []⟩,
      ⟨some 24, (.nck (.t 23)), none, []⟩,
      ⟨some 25, (.ld 1 false (.t 24)), none, []⟩,
      ⟨some 26, (.bin .add false [] (.t 25) (.c (.i .i64 1))), none, []⟩,
      ⟨some 27, (.nck (.t 23)), none, []⟩,
      ⟨none, (.st 1 (.t 27) (.t 26)), none, []⟩] [1, 2] []) 
    (.seq 
    (.reg [⟨some 28, (.mv (.t 2)), none, []⟩,
      ⟨some 29, (.mv (.t 1)), none, []⟩,
      ⟨some 10, (.mv (.t 28)), none, []⟩,
      ⟨some 11, (.mv (.t 29)), none, []⟩] [10, 11] []) .ret)) .skip)) c130_s1)
def c130 : IC := 
  (.seq 
  (.reg [⟨some 10, (.mv (.c (.i .i64 0))), none, []⟩,
    ⟨some 11, (.mv (.c (.i .i64 0))), none, []⟩] [0, 1, 2, 3, 4] []) c130_s2)
def f130 : IF := ⟨c130, 5, [(.t 10), (.t 11)]⟩

def progT : Tr := (.node 66 f66 (.node 34 f34 (.node 18 f18 (.node 10 f10 (.node 6 f6 (.node 4 f4 (.node 3 f3 (.node 2 f2 .leaf .leaf) .leaf) (.node 5 f5 .leaf .leaf)) (.node 8 f8 (.node 7 f7 .leaf .leaf) (.node 9 f9 .leaf .leaf))) (.node 14 f14 (.node 12 f12 (.node 11 f11 .leaf .leaf) (.node 13 f13 .leaf .leaf)) (.node 16 f16 (.node 15 f15 .leaf .leaf) (.node 17 f17 .leaf .leaf)))) (.node 26 f26 (.node 22 f22 (.node 20 f20 (.node 19 f19 .leaf .leaf) (.node 21 f21 .leaf .leaf)) (.node 24 f24 (.node 23 f23 .leaf .leaf) (.node 25 f25 .leaf .leaf))) (.node 30 f30 (.node 28 f28 (.node 27 f27 .leaf .leaf) (.node 29 f29 .leaf .leaf)) (.node 32 f32 (.node 31 f31 .leaf .leaf) (.node 33 f33 .leaf .leaf))))) (.node 50 f50 (.node 42 f42 (.node 38 f38 (.node 36 f36 (.node 35 f35 .leaf .leaf) (.node 37 f37 .leaf .leaf)) (.node 40 f40 (.node 39 f39 .leaf .leaf) (.node 41 f41 .leaf .leaf))) (.node 46 f46 (.node 44 f44 (.node 43 f43 .leaf .leaf) (.node 45 f45 .leaf .leaf)) (.node 48 f48 (.node 47 f47 .leaf .leaf) (.node 49 f49 .leaf .leaf)))) (.node 58 f58 (.node 54 f54 (.node 52 f52 (.node 51 f51 .leaf .leaf) (.node 53 f53 .leaf .leaf)) (.node 56 f56 (.node 55 f55 .leaf .leaf) (.node 57 f57 .leaf .leaf))) (.node 62 f62 (.node 60 f60 (.node 59 f59 .leaf .leaf) (.node 61 f61 .leaf .leaf)) (.node 64 f64 (.node 63 f63 .leaf .leaf) (.node 65 f65 .leaf .leaf)))))) (.node 99 f99 (.node 83 f83 (.node 75 f75 (.node 71 f71 (.node 69 f69 (.node 68 f68 (.node 67 f67 .leaf .leaf) .leaf) (.node 70 f70 .leaf .leaf)) (.node 73 f73 (.node 72 f72 .leaf .leaf) (.node 74 f74 .leaf .leaf))) (.node 79 f79 (.node 77 f77 (.node 76 f76 .leaf .leaf) (.node 78 f78 .leaf .leaf)) (.node 81 f81 (.node 80 f80 .leaf .leaf) (.node 82 f82 .leaf .leaf)))) (.node 91 f91 (.node 87 f87 (.node 85 f85 (.node 84 f84 .leaf .leaf) (.node 86 f86 .leaf .leaf)) (.node 89 f89 (.node 88 f88 .leaf .leaf) (.node 90 f90 .leaf .leaf))) (.node 95 f95 (.node 93 f93 (.node 92 f92 .leaf .leaf) (.node 94 f94 .leaf .leaf)) (.node 97 f97 (.node 96 f96 .leaf .leaf) (.node 98 f98 .leaf .leaf))))) (.node 115 f115 (.node 107 f107 (.node 103 f103 (.node 101 f101 (.node 100 f100 .leaf .leaf) (.node 102 f102 .leaf .leaf)) (.node 105 f105 (.node 104 f104 .leaf .leaf) (.node 106 f106 .leaf .leaf))) (.node 111 f111 (.node 109 f109 (.node 108 f108 .leaf .leaf) (.node 110 f110 .leaf .leaf)) (.node 113 f113 (.node 112 f112 .leaf .leaf) (.node 114 f114 .leaf .leaf)))) (.node 123 f123 (.node 119 f119 (.node 117 f117 (.node 116 f116 .leaf .leaf) (.node 118 f118 .leaf .leaf)) (.node 121 f121 (.node 120 f120 .leaf .leaf) (.node 122 f122 .leaf .leaf))) (.node 127 f127 (.node 125 f125 (.node 124 f124 .leaf .leaf) (.node 126 f126 .leaf .leaf)) (.node 129 f129 (.node 128 f128 .leaf .leaf) (.node 130 f130 .leaf .leaf)))))))
def prog (f : Nat) : Option IF := progT.get f
end Go.Ge
