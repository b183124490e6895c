/- All that is printed. -/
import Derived.Test.YtjjakdmcnkldoaaDoorCA6
