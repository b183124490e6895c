/- All that is printed. -/
import Derived.Test.YtjjakdmcnkldoaaDoorSA5
